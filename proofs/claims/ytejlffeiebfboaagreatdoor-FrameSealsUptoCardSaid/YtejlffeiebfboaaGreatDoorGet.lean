/- The program's frame: how the fields of a datagram are read. -/
import Derived.Test.YtejlffeiebfboaaGreatDoorEnc
import Derived.Test.YtejlffeiebfboaaGreatDoorPackR
import Derived.WalkLawsBesides
set_option linter.unusedVariables false
set_option linter.unusedSimpArgs false
namespace Go.Proofs.YtejlffeiebfboaaGreatDoor.Get
open Go Go.RowKit Go.Proofs.YtejlffeiebfboaaGreatDoor.Mem Go.Proofs.YtejlffeiebfboaaGreatDoor.PackW Go.Proofs.YtejlffeiebfboaaGreatDoor.PackR Go.Proofs.YtejlffeiebfboaaGreatDoor.Put

/-- A datagram that is being read: its block rb (the reader's address, the datagram, whether a field is bad), what is left. -/
structure IsG (w : World) (rb br : Nat) (d : DG) (s : ByteArray) (bad : Bool) : Prop where
  row : Row w rb 71 (wcells br d bad)
  ne : rb ≠ br
  rd : IsR w br (s, 0)
  small : s.size ≤ 1200

/-- 'panic(api.ErrLength)' -/
abbrev short72 : Ending := .panicked [{ v := .iface 28 (.int .i64 72), recovered := false }]

theorem IsG.cell0 {w : World} {rb br : Nat} {d : DG} {s : ByteArray} {bad : Bool} (h : IsG w rb br d s bad) : w.cell? ⟨rb, 0, none⟩ = some (.pointer (some ⟨br, 0, none⟩)) := h.row.cell 0
theorem IsG.read {w w' : World} {rb br : Nat} {d : DG} {s t : ByteArray} {bad : Bool} (h : IsG w rb br d s bad) (hc : Chg (· = br) w w') (hr : IsR w' br (t, 0)) (ht : t.size ≤ s.size) : IsG w' rb br d t bad :=
  ⟨h.row.chg hc h.ne, h.ne, hr, Nat.le_trans ht h.small⟩

set_option maxRecDepth 100000 in
set_option maxHeartbeats 4000000 in
theorem text_ok (rb br : Nat) (d : DG) (s : ByteArray) (bad : Bool) (n : Nat) (hn : n ≤ s.size) (w : World) (h : IsG w rb br d s bad) :
    Calls Tryz.prog 81 #[.pointer (some ⟨rb, 0, none⟩), .int .i64 (n : Int)] w fun e w' => e = .returned (.string (s.extract 0 n)) ∧ IsG w' rb br d (s.extract n s.size) bad ∧ Chg (· = br) w w' := by
  have hsm := h.small
  have c0 := h.cell0
  have H := Lib.hid h
  have CL := Lib.hid (left_any br (s, 0) w h.rd)
  have CB := Lib.hid (rbytes_any br s n hn (by omega) w h.rd)
  have h0 : ¬ (n : Int) < 0 := by omega
  have h1 : ¬ (s.size : Int) < (n : Int) := by omega
  have HX := Lib.hid (show (s.extract n s.size).size ≤ s.size by simp)
  clear h
  go_enter Tryz.func81, Tryz.ntmps81
  go_wp2_with (first
    | (go_at_call 36; with_reducible refine CL.out.mono ?_; rintro e w1 ⟨rfl, rfl⟩)
    | (go_at_call 95; with_reducible refine CB.out.mono ?_; rintro e w1 ⟨rfl, hI, hk⟩))
  go_ret
  exact ⟨rfl, H.out.read hk hI HX.out, hk⟩

set_option maxRecDepth 100000 in
set_option maxHeartbeats 4000000 in
theorem text_short (rb br : Nat) (d : DG) (s : ByteArray) (bad : Bool) (n : Int) (hn : n < 0 ∨ (s.size : Int) < n) (w : World) (h : IsG w rb br d s bad) :
    Calls Tryz.prog 81 #[.pointer (some ⟨rb, 0, none⟩), .int .i64 n] w fun e w' => e = short72 ∧ w = w' := by
  have hsm := h.small
  have c0 := h.cell0
  have CL := Lib.hid (left_any br (s, 0) w h.rd)
  clear h
  by_cases h0 : n < 0
  · go_enter Tryz.func81, Tryz.ntmps81
    go_wp2
    exact ⟨rfl, rfl, rfl⟩
  · have h1 : (s.size : Int) < n := by omega
    go_enter Tryz.func81, Tryz.ntmps81
    go_wp2_with ((go_at_call 36; with_reducible refine CL.out.mono ?_; rintro e w1 ⟨rfl, rfl⟩))
    exact ⟨rfl, rfl, rfl⟩

theorem ret_int {k : IntKind} {a b : Int} (h : a = b) : Ending.returned (.int k a) = .returned (.int k b) := by rw [h]
theorem IsG.keep {w w' : World} {F : Nat → Prop} {rb br : Nat} {d : DG} {s : ByteArray} {bad : Bool} (h : IsG w rb br d s bad) (hc : Chg F w w') (h1 : ¬ F rb) (h2 : ¬ F br) : IsG w' rb br d s bad :=
  ⟨h.row.chg hc h1, h.ne, h.rd.chg hc h2, h.small⟩
theorem IsR.lt {w : World} {br : Nat} {st : RS} (h : IsR w br st) : br < w.heap.size := Row.lt h
theorem Chg.fresh {w1 w2 w3 : World} (h : Chg (fun _ => False) w1 w2) (k : Chg (· = w1.heap.size) w2 w3) : Chg (fun _ => False) w1 w3 :=
  h.then k (fun i hi e => by subst e; exact absurd hi (Nat.lt_irrefl _))
theorem bs_ext (s : ByteArray) (a b : Nat) : bs (s.extract a b) = ((bs s).take b).drop a := by simp [bs, List.drop_take]

set_option maxRecDepth 100000 in
set_option maxHeartbeats 4000000 in
theorem number_ok (rb br : Nat) (d : DG) (s : ByteArray) (bad : Bool) (n : Nat) (h8 : 1 ≤ n ∧ n ≤ 8) (hn : n ≤ s.size) (w : World) (h : IsG w rb br d s bad) :
    Calls Tryz.prog 84 #[.pointer (some ⟨rb, 0, none⟩), .int .i64 (n : Int)] w fun e w' => e = .returned (.int .u64 (num ((bs s).take n) : Nat)) ∧ IsG w' rb br d (s.extract n s.size) bad ∧ Chg (· = br) w w' := by
  have hsm := h.small
  have CT := Lib.hid (text_ok rb br d s bad n hn w h)
  have HT := Lib.hid (show n ≤ (s.extract 0 n).size by simp; omega)
  have HS := Lib.hid (show (s.extract 0 n).size < 140737488355328 by simp; omega)
  have H8 := Lib.hid h8
  have HB : Hid ((bs (s.extract 0 n)).take n = (bs s).take n) := by show _ = _; rw [bs_ext, List.drop_zero, List.take_take, Nat.min_self]
  generalize s.extract 0 n = t at *
  clear h h8 hn hsm
  go_enter Tryz.func84, Tryz.ntmps84
  go_wp2_with (first
    | (go_at_call 81; with_reducible refine CT.out.mono ?_; rintro e w1 ⟨rfl, hG, hk⟩)
    | (go_at_call 35; with_reducible refine (newReader_any t _).mono ?_; rintro e w2 ⟨rfl, hI2, hk2⟩)
    | (go_at_call 103; with_reducible refine (rnumber_any _ t n H8.out HT.out HS.out _ hI2).mono ?_; rintro e w3 ⟨rfl, hI3, hk3⟩))
  go_ret
  have hc := Chg.fresh hk2 hk3
  exact ⟨ret_int (by rw [HB.out]), hG.keep hc id id, hk.trans (hc.mono (fun _ _ h => h.elim))⟩

set_option maxRecDepth 100000 in
set_option maxHeartbeats 4000000 in
theorem number_short (rb br : Nat) (d : DG) (s : ByteArray) (bad : Bool) (n : Int) (hn : (s.size : Int) < n) (w : World) (h : IsG w rb br d s bad) :
    Calls Tryz.prog 84 #[.pointer (some ⟨rb, 0, none⟩), .int .i64 n] w fun e w' => e = short72 ∧ w = w' := by
  have CT := Lib.hid (text_short rb br d s bad n (.inr hn) w h)
  clear h hn
  go_enter Tryz.func84, Tryz.ntmps84
  go_wp2_with (go_at_call 81; with_reducible refine CT.out.mono ?_; rintro e w1 ⟨rfl, rfl⟩)
  exact ⟨rfl, rfl, rfl⟩

set_option maxRecDepth 100000 in
set_option maxHeartbeats 4000000 in
theorem signed_ok (rb br : Nat) (d : DG) (s : ByteArray) (bad : Bool) (hn : 1 ≤ s.size) (w : World) (h : IsG w rb br d s bad) :
    Calls Tryz.prog 86 #[.pointer (some ⟨rb, 0, none⟩)] w fun e w' => e = .returned (.int .i64 (sgn8 ((bs s).getD 0 0))) ∧ IsG w' rb br d (s.extract 1 s.size) bad ∧ Chg (· = br) w w' := by
  have hsm := h.small
  have CT : Hid (Calls Tryz.prog 81 #[.pointer (some ⟨rb, 0, none⟩), .int .i64 1] w fun e w' => e = .returned (.string (s.extract 0 1)) ∧ IsG w' rb br d (s.extract 1 s.size) bad ∧ Chg (· = br) w w') := text_ok rb br d s bad 1 hn w h
  have HT := Lib.hid (show 1 ≤ (s.extract 0 1).size by simp; omega)
  have HS := Lib.hid (show (s.extract 0 1).size < 140737488355328 by simp; omega)
  have HB : Hid ((bs (s.extract 0 1)).getD 0 0 = (bs s).getD 0 0) := by show _ = _; rw [bs_ext]; simp [List.getD, List.getElem?_take]
  generalize s.extract 0 1 = t at *
  clear h hn hsm
  go_enter Tryz.func86, Tryz.ntmps86
  go_wp2_with (first
    | (go_at_call 81; with_reducible refine CT.out.mono ?_; rintro e w1 ⟨rfl, hG, hk⟩)
    | (go_at_call 35; with_reducible refine (newReader_any t _).mono ?_; rintro e w2 ⟨rfl, hI2, hk2⟩)
    | (go_at_call 104; with_reducible refine (rsigned1_any _ t HT.out HS.out _ hI2).mono ?_; rintro e w3 ⟨rfl, hI3, hk3⟩))
  go_ret
  have hc := Chg.fresh hk2 hk3
  exact ⟨ret_int (by show sgn8 ((bs t).getD 0 0) = _; rw [HB.out]), hG.keep hc id id, hk.trans (hc.mono (fun _ _ h => h.elim))⟩

set_option maxRecDepth 100000 in
set_option maxHeartbeats 4000000 in
theorem signed_short (rb br : Nat) (d : DG) (s : ByteArray) (bad : Bool) (hn : s.size < 1) (w : World) (h : IsG w rb br d s bad) :
    Calls Tryz.prog 86 #[.pointer (some ⟨rb, 0, none⟩)] w fun e w' => e = short72 ∧ w = w' := by
  have CT : Hid (Calls Tryz.prog 81 #[.pointer (some ⟨rb, 0, none⟩), .int .i64 1] w fun e w' => e = short72 ∧ w = w') := text_short rb br d s bad 1 (.inr (by omega)) w h
  clear h hn
  go_enter Tryz.func86, Tryz.ntmps86
  go_wp2_with (go_at_call 81; with_reducible refine CT.out.mono ?_; rintro e w1 ⟨rfl, rfl⟩)
  exact ⟨rfl, rfl, rfl⟩
end Go.Proofs.YtejlffeiebfboaaGreatDoor.Get
