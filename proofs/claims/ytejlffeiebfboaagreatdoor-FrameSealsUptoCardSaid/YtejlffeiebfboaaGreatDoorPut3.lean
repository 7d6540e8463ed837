/- The program's frame: how the zeros of a hello are laid. -/
import Derived.Test.YtejlffeiebfboaaGreatDoorPut2
import Derived.Test.YtejlffeiebfboaaGreatDoorStr
set_option linter.unusedVariables false
set_option linter.unusedSimpArgs false
namespace Go.Proofs.YtejlffeiebfboaaGreatDoor.Put
open Go Go.RowKit Go.Proofs.YtejlffeiebfboaaGreatDoor.Mem Go.Proofs.YtejlffeiebfboaaGreatDoor.PackW

def zeros76 : List UInt8 := List.replicate 76 0
theorem rep76 : (⟨(Lib.repeatL [0] 76).toArray⟩ : ByteArray).size = 76 := by decide +kernel
theorem bs76 : bs ⟨(Lib.repeatL [0] 76).toArray⟩ = zeros76 := by decide +kernel
set_option maxRecDepth 100000 in
set_option maxHeartbeats 4000000 in
theorem putZeros_any (B bw bw2 wb : Nat) (d : DG) (st : WS) (bad : Bool) (w : World) (h : IsP w B bw bw2 wb d st bad) (hlen : st.1.length + 76 ≤ 140737488355328) :
    Calls Tryz.prog 46 #[.pointer (some ⟨wb, 0, none⟩)] w fun e w' => e = .returned (.tuple #[]) ∧ IsP w' B bw bw2 wb d (layS st zeros76) bad ∧ Kq B bw wb w w' := by
  have c0 := IsP.cell0 h
  have H := Lib.hid h.drew
  have CR : ∀ w : World, Calls Tryz.prog 30 #[.string ⟨#[0]⟩, .int .i64 76] w fun e w' => e = .returned (.string ⟨(Lib.repeatL [0] 76).toArray⟩) ∧ Below w.heap.size w w' := fun w => Tryz.strings_Repeat ⟨#[0]⟩ 76 w (by decide) (by decide)
  have HL := Lib.hid hlen
  clear hlen h
  have HCR := Lib.hid CR
  clear CR
  go_enter Tryz.func46, Tryz.ntmps46
  go_wp2
  go_region_with (first
    | (go_at_call 30; with_reducible refine (HCR.out _).mono ?_; rintro e w1 ⟨rfl, hb⟩; (have P1 := IsP.chg0 H.out (Chg.of_below hb)); (have q1 := IsP.cell0 P1); (have C := Lib.hid (bytes_any B bw bw2 st ⟨(Lib.repeatL [0] 76).toArray⟩ w1 P1.ws (by rw [rep76]; exact HL.out))); (have CB := Lib.hid (Kq.of_chg (B := B) (bw := bw) (wb := wb) (Chg.of_below (F := fun _ => False) hb))))
    | (go_at_call 23; with_reducible refine C.out.mono ?_; rintro e w2 ⟨rfl, hI, hk⟩))
  all_goals go_end0
  all_goals exact ⟨rfl, by rw [← bs76]; exact P1.keep hk hI, ((Kq.drew (Kq.refl B bw wb w)).trans CB.out).trans hk.kq⟩
end Go.Proofs.YtejlffeiebfboaaGreatDoor.Put
