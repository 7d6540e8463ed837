/- The program's frame: how a command is laid. -/
import Derived.Test.YtejlffeiebfboaaGreatDoorPut
set_option linter.unusedVariables false
set_option linter.unusedSimpArgs false
namespace Go.Proofs.YtejlffeiebfboaaGreatDoor.Put
open Go Go.RowKit Go.Proofs.YtejlffeiebfboaaGreatDoor.Mem Go.Proofs.YtejlffeiebfboaaGreatDoor.PackW

def flagsN (d : DG) : Nat := (if d.fire then 1 else 0) + (if d.boost then 2 else 0)
def cmdS (st : WS) (d : DG) : WS := layS (sgn1 (sgn1 st d.throttle) d.turn) [UInt8.ofNat (flagsN d)]
theorem IsWS.chg0 {w w' : World} {B bw bw2 : Nat} {st : WS} (h : IsWS w B bw bw2 st) (c : Chg (fun _ => False) w w') : IsWS w' B bw bw2 st := IsWS.chg h c
theorem IsP.chg0 {w w' : World} {B bw bw2 wb : Nat} {d : DG} {st : WS} {bad : Bool} (h : IsP w B bw bw2 wb d st bad) (c : Chg (fun _ => False) w w') : IsP w' B bw bw2 wb d st bad := ⟨h.lo, h.row.chg c id, h.ne, IsWS.chg h.ws c⟩
theorem cmd_cell2 {w : World} {cb : Nat} {T : TypeId} {a b : Value} {f g : Bool} (h : Row w cb T [a, b, .bool f, .bool g]) : w.cell? ⟨cb, 2, none⟩ = some (.bool f) := h.cell 2
theorem cmd_cell3 {w : World} {cb : Nat} {T : TypeId} {a b : Value} {f g : Bool} (h : Row w cb T [a, b, .bool f, .bool g]) : w.cell? ⟨cb, 3, none⟩ = some (.bool g) := h.cell 3
theorem Kp.cmd {w w' : World} {B bw cb : Nat} {l : List Value} (k : Kp B bw w w') (h : Row w cb 24 l) (hne : cb ≠ bw) : Row w' cb 24 l := k.rows _ _ _ (by decide) hne h
theorem IsP.cell0 {w : World} {B bw bw2 wb : Nat} {d : DG} {st : WS} {bad : Bool} (h : IsP w B bw bw2 wb d st bad) : w.cell? ⟨wb, 0, none⟩ = some (.pointer (some ⟨bw, 0, none⟩)) := h.row.cell 0
theorem byte_any (B bw bw2 : Nat) (st : WS) (m : Nat) (mi : Int) (hm : mi = m) (hlt : m < 256) (w : World) (h : IsWS w B bw bw2 st) (hlen : st.1.length + 8 ≤ 140737488355328) :
    Calls Tryz.prog 24 #[.pointer (some ⟨bw, 0, none⟩), .int .u64 mi, .int .i64 1] w fun e w' => e = .returned (.tuple #[]) ∧ IsWS w' B bw bw2 (layS st [UInt8.ofNat m]) ∧ Kp B bw w w' := by
  subst hm
  rw [← numS_one _ _ hlt]
  exact number_any B bw bw2 st m 1 w h (by omega) (by omega) hlen
theorem sgn1_len (st : WS) (x : Int) : (sgn1 st x).1.length ≤ st.1.length + 1 := by
  unfold sgn1 layS failS; split <;> split <;> simp

set_option maxRecDepth 100000 in
set_option maxHeartbeats 8000000 in
theorem putCommand_any (B bw bw2 wb : Nat) (d : DG) (st : WS) (bad : Bool) (w : World) (hd : d.Ok) (h : IsP w B bw bw2 wb d st bad) (hlen : st.1.length + 20 ≤ 140737488355328) :
    Calls Tryz.prog 64 #[.pointer (some ⟨wb, 0, none⟩)] w fun e w' => e = .returned (.tuple #[]) ∧ IsP w' B bw bw2 wb d (cmdS st d) bad ∧ Kq B bw wb w w' := by
  have c10 : w.cell? ⟨wb, 10, none⟩ = some (.int .i64 d.throttle) := h.row.cell 10
  have c11 : w.cell? ⟨wb, 11, none⟩ = some (.int .i64 d.turn) := h.row.cell 11
  have c12 : w.cell? ⟨wb, 12, none⟩ = some (.bool d.fire) := h.row.cell 12
  have c13 : w.cell? ⟨wb, 13, none⟩ = some (.bool d.boost) := h.row.cell 13
  have HT := Lib.hid hd.throttle
  have HU := Lib.hid hd.turn
  have HL := Lib.hid hlen
  clear hd hlen
  go_enter Tryz.func64, Tryz.ntmps64
  go_wp2
  have k1 : Chg (fun _ => False) w (w.alloc (.cells #[.int .i64 d.throttle, .int .i64 d.turn, .bool d.fire, .bool d.boost] 24)) := (Chg.refl _ _).alloc _
  have r1 := Row.alloc_new w 24 [.int .i64 d.throttle, .int .i64 d.turn, .bool d.fire, .bool d.boost]
  have P1 := IsP.drew (IsP.chg0 h k1)
  have hne : w.heap.size ≠ bw := by have := h.ws.hi; omega
  have CA := Lib.hid (Kq.drew (Kq.of_chg (B := B) (bw := bw) (wb := wb) k1))
  have e0 := P1.row.cell 0
  clear k1 h c10 c11 c12 c13
  generalize w.alloc (.cells #[.int .i64 d.throttle, .int .i64 d.turn, .bool d.fire, .bool d.boost] 24) = w1 at *
  replace r1 : Row w1 w.heap.size 24 [.int .i64 d.throttle, .int .i64 d.turn, .bool d.fire, .bool d.boost] := r1
  generalize w.heap.size = cb at *
  have d0 : w1.cell? ⟨cb, 0, none⟩ = some (.int .i64 d.throttle) := r1.cell 0
  have d1 : w1.cell? ⟨wb, 0, none⟩ = some (.pointer (some ⟨bw, 0, none⟩)) := e0
  clear e0
  have R1 := Lib.hid r1.drew
  have PP1 := Lib.hid P1
  have C1 := Lib.hid (signed1_any B bw bw2 st d.throttle w1.drew P1.ws HT.out (by have := HL.out; omega))
  clear r1 P1
  go_still_tail 6, (by kernel_rfl)
  change wpList _ _ _ _ _ w1.drew
  clear d0 d1
  generalize w1.drew = w2 at *
  clear w1
  go_wp2_with (go_at_call 87; with_reducible refine C1.out.mono ?_; rintro e w3 ⟨rfl, hI1, hk1⟩)
  have P2 := PP1.out.keep hk1 hI1
  have R2 := hk1.rows _ _ _ (by decide) hne R1.out
  have CB := Lib.hid (CA.out.trans hk1.kq)
  have d0 : w3.cell? ⟨cb, 1, none⟩ = some (.int .i64 d.turn) := R2.cell 1
  have d1 : w3.cell? ⟨wb, 0, none⟩ = some (.pointer (some ⟨bw, 0, none⟩)) := P2.row.cell 0
  have C2 := Lib.hid (signed1_any B bw bw2 _ d.turn w3.drew (IsWS.drew P2.ws) HU.out (by have := HL.out; have := sgn1_len st d.throttle; omega))
  have PP2 := Lib.hid P2.drew
  have RR2 := Lib.hid R2.drew
  have CC := Lib.hid (Kq.drew CB.out)
  clear CB CA R1 PP1 C1 hI1 hk1 P2 R2
  go_still_tail 6, (by kernel_rfl)
  change wpList _ _ _ _ _ w3.drew
  clear d0 d1
  generalize w3.drew = w4 at *
  clear w2 w3
  have hfl : flagsN d < 256 := by unfold flagsN; split <;> split <;> omega
  have HF : Hid (flagsN d = (if d.fire then 1 else 0) + (if d.boost then 2 else 0)) := rfl
  have hrow : Hid (cmdS st d = layS (sgn1 (sgn1 st d.throttle) d.turn) [UInt8.ofNat (flagsN d)]) := rfl
  have o1 : bits .or .u64 0 1 = 1 := by decide
  have o2 : bits .or .u64 0 2 = 2 := by decide
  have o3 : bits .or .u64 1 2 = 3 := by decide
  have HLL : Hid ((sgn1 (sgn1 st d.throttle) d.turn).1.length + 8 ≤ 140737488355328) := by
    show _ ≤ _
    have := HL.out; have := sgn1_len st d.throttle; have := sgn1_len (sgn1 st d.throttle) d.turn; omega
  clear hfl
  have key : ∃ (f g : Bool) (m : Nat), d.fire = f ∧ d.boost = g ∧ flagsN d = m ∧ m < 256 ∧ ((f = true ∧ g = true ∧ m = 3) ∨ (f = true ∧ g = false ∧ m = 1) ∨ (f = false ∧ g = true ∧ m = 2) ∨ (f = false ∧ g = false ∧ m = 0)) := by
    refine ⟨d.fire, d.boost, flagsN d, rfl, rfl, rfl, by unfold flagsN; split <;> split <;> omega, ?_⟩
    unfold flagsN
    cases d.fire <;> cases d.boost <;> simp
  obtain ⟨f, g, m, hf, hg, hm, hm2, hk⟩ := key
  rw [hf, hg] at RR2
  have HM := Lib.hid hm
  have HM2 := Lib.hid hm2
  clear HF hm hm2 hf hg
  obtain ⟨mi, hmi⟩ : ∃ mi : Int, Hid (mi = m) := ⟨_, rfl⟩
  rcases hk with ⟨rfl, rfl, hk⟩ | ⟨rfl, rfl, hk⟩ | ⟨rfl, rfl, hk⟩ | ⟨rfl, rfl, hk⟩
  all_goals
    have HK := Lib.hid hk
    clear hk
    go_wp2_with (first
      | (go_at_call 87; with_reducible refine C2.out.mono ?_; rintro e w5 ⟨rfl, hI2, hk2⟩; (have P3 := PP2.out.keep hk2 hI2); (have R3 := Kp.cmd hk2 RR2.out hne); (have c2 := cmd_cell2 R3); (have c3 := cmd_cell3 R3); (have c0 := IsP.cell0 P3); (have CD := Lib.hid (CC.out.trans hk2.kq)))
      | (go_at_call 24; refine (byte_any B bw bw2 _ m _ (by rw [HK.out]; rfl) HM2.out _ P3.ws HLL.out).mono ?_; rintro e w6 ⟨rfl, hI3, hk3⟩))
    go_end0
    exact ⟨rfl, by rw [hrow.out, HM.out]; exact P3.keep hk3 hI3, CD.out.trans hk3.kq⟩
end Go.Proofs.YtejlffeiebfboaaGreatDoor.Put
