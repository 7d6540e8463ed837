/- The statements' own times: a byte, so many times. -/
import Derived.Test.YtejlffeiebfboaaGreatDoorSeal
import Derived.Deep.OwnRows
set_option linter.unusedVariables false
set_option linter.unusedSimpArgs false
namespace Go.Proofs.YtejlffeiebfboaaGreatDoor.Law
open Go Go.RowKit Go.Proofs.YtejlffeiebfboaaGreatDoor.Mem Go.Proofs.YtejlffeiebfboaaGreatDoor.PackW Go.Proofs.YtejlffeiebfboaaGreatDoor.PackR Go.Proofs.YtejlffeiebfboaaGreatDoor.Put Go.Proofs.YtejlffeiebfboaaGreatDoor.Get

theorem made_rep (z : Value) (n : Nat) : madeCells #[z] n = (List.replicate n z).toArray := by
  apply Array.ext'
  simp only [madeCells]
  apply List.ext_getElem
  · simp
  · intro i h1 h2
    simp [Nat.mod_one]
section
variable {P : Program} {ops : Array Oper} {rest : List Oper} {o : Oper} {a : Act} {w : World} {Q : Exit → Act → World → Prop}
/-- make([]byte, n) -/
theorem wpList_makeB (hgd : o.guard = none) (l c : Operand) (t : TypeId) (ho : o.op = .makeSlice t l c) (e : TypeId) (bytes : Nat) (ht : P.underlying t = some (.slice e))
    (hinfo : (P.info? e).map (fun i => (i.zero, i.size, i.bytes)) = some (some (.int .u8 0), 1, bytes)) (n : Nat) (hl : a.eval l = .int .i64 (n : Int)) (hc : a.eval c = .int .i64 (n : Int)) (hb : bytes * n ≤ 281474976710656) (h63 : n ≤ 9223372036854775807)
    (h : ∀ w', Row w' w.heap.size e ((List.replicate n (0 : UInt8)).map bv) → Chg (fun _ => False) w w' → w'.heap.size = w.heap.size + 1 → wpList P ops Q rest (a.put o.dst (.slice (some ⟨w.heap.size, 0, none⟩) n n)) w') : wpList P ops Q (o :: rest) a w := by
  refine wpList_plain hgd fun K hK => ?_
  have hrun := run_make_row' (P := P) t e (.int .u8 0) bytes ht hinfo rfl .i64 .i64 n hb h63 w
  unfold Oper.wp
  simp [execOp, ho, hl, hc, hrun, Result.andThen]
  refine hK _ _ (h _ ?_ ((Chg.refl _ _).alloc _) (by simp))
  rw [made_rep, List.map_replicate]
  exact Row.alloc_new _ _ _
end

/-- A byte, so many times. -/
def timesB (c : UInt8) (n : Nat) : ByteArray := ⟨(List.replicate n c).toArray⟩
theorem timesB_size (c : UInt8) (n : Nat) : (timesB c n).size = n := by simp [timesB, ByteArray.size]
theorem bs_timesB (c : UInt8) (n : Nat) : bs (timesB c n) = List.replicate n c := by simp [bs, timesB]
theorem set_rep (c : UInt8) (k n : Nat) (hk : k < n) : ((List.replicate k c ++ List.replicate (n - k) (0 : UInt8)).map bv).set k (.int .u8 (c.toNat : Int)) = (List.replicate (k + 1) c ++ List.replicate (n - (k + 1)) (0 : UInt8)).map bv := by
  have e : n - k = (n - (k + 1)) + 1 := by omega
  rw [e, List.replicate_succ, List.map_append, List.set_append_right _ _ (by simp)]
  simp only [List.length_map, List.length_replicate, Nat.sub_self, List.map_cons, List.set_cons_zero]
  rw [List.replicate_succ', List.map_append, List.map_append]
  simp [bv]

set_option maxRecDepth 100000 in
set_option maxHeartbeats 4000000 in
theorem times_any (c : UInt8) (ci : Int) (hci : ci = c.toNat) (n : Nat) (ni : Int) (hni : ni = n) (hn : n ≤ 1000000) (w : World) :
    Calls Tryz.prog 16 #[.int .u8 ci, .int .i64 ni] w fun e w' => e = .returned (.string (timesB c n)) ∧ Chg (fun _ => False) w w' := by
  subst hci hni
  have HWB : Hid (∀ w', Chg (fun k => k = w.heap.size) w w' → Chg (fun _ => False) w w') := fun w' h => h.mono (fun k hk hk2 => by omega)
  have hnI : (0 : Int) ≤ (n : Int) := by omega
  have hmI : (n : Int) ≤ 1000000 := by omega
  go_enter Tryz.func16, Tryz.ntmps16
  go_wp2_with (refine wpList_makeB rfl (.tmp 7) (.tmp 7) 38 rfl 5 1 Tryz.underlying38 info8 n rfl rfl (by omega) (by omega) ?_; intro w1 hr1 hc1 hz1)
  have HC1 := Lib.hid (hc1.mono (G := fun k => k = w.heap.size) (fun _ _ h => h.elim))
  clear hz1 hc1
  generalize w.heap.size = b at *
  go_loopw [6] (fun i wr => ∃ k : Nat, k ≤ n ∧ i = .int .i64 k ∧ Row wr b 5 ((List.replicate k c ++ List.replicate (n - k) (0 : UInt8)).map bv) ∧ Chg (fun k => k = b) w wr) (fun i _ => n - (intOf i).toNat)
  case atStart => exact ⟨0, by omega, rfl, by simpa using hr1, HC1.out⟩
  case round =>
    obtain ⟨k, hk, rfl, hR, hC⟩ := hrel
    by_cases hlt : k < n
    · have hltI : (k : Int) < (n : Int) := by omega
      have hkI : (0 : Int) ≤ (k : Int) := by omega
      have c0 := hR.cellD k (by simp; omega)
      have f0 := hR.frozen k
      have HS := hR.set k (.int .u8 (c.toNat : Int))
      rw [set_rep c k n hlt] at HS
      have HSS := Lib.hid HS
      have HCC := Lib.hid (hC.setCell ⟨b, k, none⟩ (.int .u8 (c.toNat : Int)) (fun _ => rfl))
      clear HS hR hC
      go_wp2
      go_roundw
      case rel => exact ⟨k + 1, by omega, by go_num, HSS.out, HCC.out⟩
      case measure => simp [intOf]; omega
    · have hltI : ¬ (k : Int) < (n : Int) := by omega
      have hkn : k = n := by omega
      have HR : SlB wr (fun _ => True) (.slice (some ⟨b, 0, none⟩) n n) (List.replicate n c) := by
        have hR2 := hR
        rw [hkn, Nat.sub_self, List.replicate_zero, List.append_nil] at hR2
        exact SlB.all hR2 trivial (by simp)
      clear hkn
      go_wp2_with (refine wpList_stringA rfl 38 9 (.tmp 18) rfl _ rfl 5 Tryz.underlying38 Tryz.underlying5 Tryz.underlying9 (fun _ => True) (List.replicate n c) HR ?_)
      go_ret
      exact ⟨rfl, HWB.out _ hC⟩
end Go.Proofs.YtejlffeiebfboaaGreatDoor.Law
