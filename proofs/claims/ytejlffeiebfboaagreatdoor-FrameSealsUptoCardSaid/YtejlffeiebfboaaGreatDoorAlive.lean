/- The statements' fixed fact: alive answers true. -/
import Derived.Test.YtejlffeiebfboaaGreatDoorAliveC
import Derived.Deep.RegionHeld3
set_option linter.unusedVariables false
set_option linter.unusedSimpArgs false
namespace Go.Proofs.YtejlffeiebfboaaGreatDoor.Law
open Go Go.RowKit Go.Proofs.YtejlffeiebfboaaGreatDoor.Mem Go.Proofs.YtejlffeiebfboaaGreatDoor.PackW Go.Proofs.YtejlffeiebfboaaGreatDoor.PackR Go.Proofs.YtejlffeiebfboaaGreatDoor.Put Go.Proofs.YtejlffeiebfboaaGreatDoor.Get

theorem enc_alive (w : World) : Calls Tryz.prog 9 #[.agg dA.cells.toArray] w fun e w' => e = .returned (.tuple #[.string sA, .int .i64 0]) ∧ Chg (fun _ => False) w w' := by
  have h := encode_any dA ⟨by decide, by decide, by decide, by decide, by decide, by decide, by decide⟩ (by decide) w
  rw [enc2] at h; exact h
theorem seal_alive (w : World) (hT : Tbl w) : Calls Tryz.prog 11 #[.agg dA.cells.toArray, .string ⟨#[107]⟩] w fun e w' => e = .returned (.tuple #[.string tA, .int .i64 0]) ∧ Chg (fun _ => False) w w' := by
  have h := seal_any dA ⟨#[107]⟩ ⟨by decide, by decide, by decide, by decide, by decide, by decide, by decide⟩ (by decide) (by decide) w hT
  rw [seal2] at h; exact h
def dT : DG := (Get.decode tA).1
theorem dec_alive (w : World) : Calls Tryz.prog 13 #[.string tA] w fun e w' => e = .returned (.tuple #[.agg dT.cells.toArray, .int .i64 0]) ∧ Chg (fun _ => False) w w' := by
  have h := decode_any tA (by rw [tA_size]; decide) w
  rw [dec2] at h; exact h

set_option maxRecDepth 100000 in
set_option maxHeartbeats 4000000 in
theorem alive_any (w : World) (hT : Tbl w) : Calls Tryz.prog 8 #[] w fun e w' => e = .returned (.bool true) ∧ Chg (fun _ => False) w w' := by
  have HT := Lib.hid hT
  clear hT
  go_enter Tryz.func8, Tryz.ntmps8
  go_upto_region 2 with (first
    | (go_at_call 16; with_reducible refine (times_any 116 116 rfl 32 32 rfl (by decide) _).mono ?_; rintro e w1 ⟨rfl, hc1⟩)
    | (refine wpList_allocA rfl 26 rfl (.agg d0.cells.toArray) d0.cells zero26 rfl ?_; intro w2 hz2 hr2 hc2; clear hz2)
    | (refine wpList_store_rowA rfl 26 (.tmp 1) (.tmp 10) rfl _ dA.cells rfl rfl 26 d0.cells hr2 size26 rfl (cells_one dA) ?_; intro w3 hr3 hc3 hz3; clear hz3))
  have C3 := Lib.hid (hc1.trans (hc2.then hc3 (fun i hi e => by subst e; exact absurd hi (Nat.lt_irrefl _))))
  have HR3 := Lib.hid hr3
  have HT3 := Lib.hid (HT.out.chg C3.out)
  clear HT hc1 hr2 hc2 hr3 hc3
  generalize w1.heap.size = b at *
  clear w1 w2
  go_upto_region 5 with (first
    | (refine wpList_load_rowA rfl 26 (.tmp 1) rfl b rfl 26 dA.cells _ (by first | exact HR3.out | exact HR3.out.chg hc4 id) Tryz.underlying26 rfl size26 ?_)
    | (go_at_call 9; with_reducible refine (enc_alive _).mono ?_; rintro e w4 ⟨rfl, hc4⟩)
    | (go_at_call 11; with_reducible refine (seal_alive _ (Tbl.chg HT3.out hc4)).mono ?_; rintro e w5 ⟨rfl, hc5⟩)
    | (go_at_call 13; with_reducible refine (dec_alive _).mono ?_; rintro e w6 ⟨rfl, hc6⟩)
    | (refine wpList_allocA rfl 26 rfl (.agg d0.cells.toArray) d0.cells zero26 rfl ?_; intro w7 hz7 hr7 hc7; clear hz7)
    | (refine wpList_store_rowA rfl 26 (.tmp 6) (.tmp 24) rfl _ dT.cells rfl rfl 26 d0.cells hr7 size26 rfl (cells_one dT) ?_; intro w8 hr8 hc8 hz8; clear hz8))
  have C8 := Lib.hid (C3.out.trans (((hc4.trans hc5).trans hc6).trans (hc7.then hc8 (fun i hi e => by subst e; exact absurd hi (Nat.lt_irrefl _)))))
  have HT8 := Lib.hid (HT3.out.chg (((hc4.trans hc5).trans hc6).trans (hc7.then hc8 (fun i hi e => by subst e; exact absurd hi (Nat.lt_irrefl _)))))
  have q8 : w8.cell? ⟨w6.heap.size, 8, none⟩ = some (.int .u64 dT.seq) := hr8.cell 8
  clear HR3 HT3 C3 hc4 hc5 hc6 hc7 hr7 hr8 hc8
  generalize w6.heap.size = b6 at *
  clear w3 w4 w5 w6 w7
  have hl : ((sA.size : Int) == 55) = true := by rw [sA_size]; decide
  have hsz : (23 : Int) ≤ (sA.size : Int) := by rw [sA_size]; decide
  have hq : ((dT.seq : Int) == 2) = true := by rw [show dT.seq = 2 from decseq]; decide
  have z7 : (timesB 0 7).size = 7 := timesB_size _ _
  have z32 : (timesB 116 32).size = 32 := timesB_size _ _
  have k1 := sealed_k
  have k2 := sealed_l
  have k3 := sealed_s
  have hS : sA.toList = (((((⟨#[74, 48, 49, 5]⟩ ++ timesB 0 7) ++ ⟨#[1]⟩) ++ timesB 0 7) ++ ⟨#[2, 255, 5, 1]⟩) ++ timesB 116 32).toList := congrArg _ sA_is
  have CB : Hid (∀ w, Calls Tryz.prog 15 #[.string sA] w fun e w' => e = .returned (.string (sA.extract 0 23)) ∧ w = w') := by
    intro w; rw [← sA_body]; exact body_any sA (by rw [sA_size]; decide) w
  go_region_held3 (fun w' => w'.cell? ⟨b6, 8, none⟩ = some (.int .u64 dT.seq) ∧ Tbl w' ∧ Chg (fun _ => False) w8 w')
    (first
      | assumption
      | exact ⟨q8, HT8.out, Chg.refl _ _⟩
      | exact ⟨q8, HT8.out.drew, (Chg.refl _ _).drew⟩
      | exact ⟨Chg.cell_some (by assumption) (And.left (by assumption)) id, Tbl.chg (And.left (And.right (by assumption))) (by assumption), Chg.trans (And.right (And.right (by assumption))) (by assumption)⟩)
    (first
      | (go_at_call 16; with_reducible refine (times_any 0 0 rfl 7 7 rfl (by decide) _).mono ?_; rintro e w1 ⟨rfl, hc1⟩)
      | (go_at_call 16; with_reducible refine (times_any 116 116 rfl 32 32 rfl (by decide) _).mono ?_; rintro e w1 ⟨rfl, hc1⟩)
      | (go_at_call 15; with_reducible refine (CB.out _).mono ?_; rintro e w1 ⟨rfl, rfl⟩)
      | (go_at_call 19; with_reducible refine (sealed_any _ _ (by first | (rw [sA_size]; decide) | (rw [tA_size]; decide)) (by decide) _ (And.left (And.right (by assumption)))).mono ?_; rintro e w1 ⟨rfl, hc1⟩))
  all_goals
    go_wp2_with fail
    go_ret
    exact ⟨rfl, C8.out.trans (And.right (And.right (by assumption)))⟩
end Go.Proofs.YtejlffeiebfboaaGreatDoor.Law
