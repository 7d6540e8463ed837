/- The program's frame: known, tagged, and the fields of a kind. -/
import Derived.Test.YtejlffeiebfboaaGreatDoorPut3
set_option linter.unusedVariables false
set_option linter.unusedSimpArgs false
namespace Go.Proofs.YtejlffeiebfboaaGreatDoor.Put
open Go Go.RowKit Go.Proofs.YtejlffeiebfboaaGreatDoor.Mem Go.Proofs.YtejlffeiebfboaaGreatDoor.PackW

theorem known_any (k : Int) (w : World) : Calls Tryz.prog 21 #[.int .i64 k] w fun e w' => e = .returned (.bool (decide (1 ≤ k ∧ k ≤ 7))) ∧ w = w' := by
  by_cases h1 : 1 ≤ k
  · by_cases h2 : k ≤ 7
    · go_enter Tryz.func21, Tryz.ntmps21
      go_wp2
      go_ret
      exact ⟨ret_eq (by simp [h1, h2]), rfl⟩
    · go_enter Tryz.func21, Tryz.ntmps21
      go_wp2
      go_ret
      exact ⟨ret_eq (by simp [h1, h2]), rfl⟩
  · go_enter Tryz.func21, Tryz.ntmps21
    go_wp2
    go_ret
    exact ⟨ret_eq (by simp; omega), rfl⟩
theorem tagged_any (k : Int) (w : World) : Calls Tryz.prog 29 #[.int .i64 k] w fun e w' => e = .returned (.bool (decide (3 ≤ k ∧ k ≤ 7))) ∧ w = w' := by
  by_cases h1 : 3 ≤ k
  · by_cases h2 : k ≤ 7
    · go_enter Tryz.func29, Tryz.ntmps29
      go_wp2
      go_ret
      exact ⟨ret_eq (by simp [h1, h2]), rfl⟩
    · go_enter Tryz.func29, Tryz.ntmps29
      go_wp2
      go_ret
      exact ⟨ret_eq (by simp [h1, h2]), rfl⟩
  · go_enter Tryz.func29, Tryz.ntmps29
    go_wp2
    go_ret
    exact ⟨ret_eq (by simp; omega), rfl⟩
def cells1 : List Value := [.func (.func 43) #[] #[], .func (.func 44) #[] #[], .func (.func 45) #[] #[], .func (.func 46) #[] #[]]
theorem fields1_any (w : World) : Calls Tryz.prog 25 #[.int .i64 1] w fun e w' => e = .returned (.slice (some ⟨w.heap.size, 0, none⟩) 2 2) ∧ Row w' w.heap.size 59 cells1 ∧ Chg (fun _ => False) w w' := by
  go_enter Tryz.func25, Tryz.ntmps25
  go_wp2
  go_ret
  exact ⟨rfl, Row.alloc_new w 59 cells1, (Chg.refl _ _).alloc _⟩
def cells2 : List Value := [.func (.func 43) #[] #[], .func (.func 44) #[] #[], .func (.func 47) #[] #[], .func (.func 48) #[] #[], .func (.func 49) #[] #[], .func (.func 50) #[] #[]]
theorem fields2_any (w : World) : Calls Tryz.prog 25 #[.int .i64 2] w fun e w' => e = .returned (.slice (some ⟨w.heap.size, 0, none⟩) 3 3) ∧ Row w' w.heap.size 59 cells2 ∧ Chg (fun _ => False) w w' := by
  go_enter Tryz.func25, Tryz.ntmps25
  go_wp2
  go_ret
  exact ⟨rfl, Row.alloc_new w 59 cells2, (Chg.refl _ _).alloc _⟩
def cells3 : List Value := [.func (.func 43) #[] #[], .func (.func 44) #[] #[], .func (.func 47) #[] #[], .func (.func 48) #[] #[], .func (.func 49) #[] #[], .func (.func 50) #[] #[], .func (.func 51) #[] #[], .func (.func 52) #[] #[], .func (.func 53) #[] #[], .func (.func 54) #[] #[]]
theorem fields3_any (w : World) : Calls Tryz.prog 25 #[.int .i64 3] w fun e w' => e = .returned (.slice (some ⟨w.heap.size, 0, none⟩) 5 5) ∧ Row w' w.heap.size 59 cells3 ∧ Chg (fun _ => False) w w' := by
  go_enter Tryz.func25, Tryz.ntmps25
  go_wp2
  go_ret
  exact ⟨rfl, Row.alloc_new w 59 cells3, (Chg.refl _ _).alloc _⟩
def cells4 : List Value := [.func (.func 43) #[] #[], .func (.func 44) #[] #[], .func (.func 55) #[] #[], .func (.func 56) #[] #[], .func (.func 57) #[] #[], .func (.func 58) #[] #[], .func (.func 59) #[] #[], .func (.func 60) #[] #[], .func (.func 53) #[] #[], .func (.func 54) #[] #[]]
theorem fields4_any (w : World) : Calls Tryz.prog 25 #[.int .i64 4] w fun e w' => e = .returned (.slice (some ⟨w.heap.size, 0, none⟩) 5 5) ∧ Row w' w.heap.size 59 cells4 ∧ Chg (fun _ => False) w w' := by
  go_enter Tryz.func25, Tryz.ntmps25
  go_wp2
  go_ret
  exact ⟨rfl, Row.alloc_new w 59 cells4, (Chg.refl _ _).alloc _⟩
def cells5 : List Value := [.func (.func 55) #[] #[], .func (.func 56) #[] #[], .func (.func 61) #[] #[], .func (.func 62) #[] #[], .func (.func 63) #[] #[], .func (.func 64) #[] #[], .func (.func 53) #[] #[], .func (.func 54) #[] #[]]
theorem fields5_any (w : World) : Calls Tryz.prog 25 #[.int .i64 5] w fun e w' => e = .returned (.slice (some ⟨w.heap.size, 0, none⟩) 4 4) ∧ Row w' w.heap.size 59 cells5 ∧ Chg (fun _ => False) w w' := by
  go_enter Tryz.func25, Tryz.ntmps25
  go_wp2
  go_ret
  exact ⟨rfl, Row.alloc_new w 59 cells5, (Chg.refl _ _).alloc _⟩
def cells6 : List Value := [.func (.func 55) #[] #[], .func (.func 56) #[] #[], .func (.func 61) #[] #[], .func (.func 62) #[] #[], .func (.func 65) #[] #[], .func (.func 66) #[] #[], .func (.func 53) #[] #[], .func (.func 54) #[] #[]]
theorem fields6_any (w : World) : Calls Tryz.prog 25 #[.int .i64 6] w fun e w' => e = .returned (.slice (some ⟨w.heap.size, 0, none⟩) 4 4) ∧ Row w' w.heap.size 59 cells6 ∧ Chg (fun _ => False) w w' := by
  go_enter Tryz.func25, Tryz.ntmps25
  go_wp2
  go_ret
  exact ⟨rfl, Row.alloc_new w 59 cells6, (Chg.refl _ _).alloc _⟩
def cells7 : List Value := [.func (.func 55) #[] #[], .func (.func 56) #[] #[], .func (.func 61) #[] #[], .func (.func 62) #[] #[], .func (.func 53) #[] #[], .func (.func 54) #[] #[]]
theorem fields7_any (w : World) : Calls Tryz.prog 25 #[.int .i64 7] w fun e w' => e = .returned (.slice (some ⟨w.heap.size, 0, none⟩) 3 3) ∧ Row w' w.heap.size 59 cells7 ∧ Chg (fun _ => False) w w' := by
  go_enter Tryz.func25, Tryz.ntmps25
  go_wp2
  go_ret
  exact ⟨rfl, Row.alloc_new w 59 cells7, (Chg.refl _ _).alloc _⟩
end Go.Proofs.YtejlffeiebfboaaGreatDoor.Put
