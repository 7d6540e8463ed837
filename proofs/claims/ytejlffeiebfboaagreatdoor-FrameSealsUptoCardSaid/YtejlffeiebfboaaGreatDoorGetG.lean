/- The program's frame: the fields that are read otherwise than by one text or number: name, data, zeros, command. -/
import Derived.Test.YtejlffeiebfboaaGreatDoorGetF
set_option linter.unusedVariables false
set_option linter.unusedSimpArgs false
namespace Go.Proofs.YtejlffeiebfboaaGreatDoor.Get
open Go Go.RowKit Go.Proofs.YtejlffeiebfboaaGreatDoor.Mem Go.Proofs.YtejlffeiebfboaaGreatDoor.PackW Go.Proofs.YtejlffeiebfboaaGreatDoor.PackR Go.Proofs.YtejlffeiebfboaaGreatDoor.Put

set_option maxRecDepth 100000 in
set_option maxHeartbeats 4000000 in
theorem getData_ok (rb br : Nat) (d : DG) (s : ByteArray) (bad : Bool) (hn : 32 ≤ s.size) (w : World) (h : IsG w rb br d s bad) :
    Calls Tryz.prog 65 #[.pointer (some ⟨rb, 0, none⟩)] w fun e w' => e = .returned (.tuple #[]) ∧ IsG w' rb br { d with data := s.extract 0 (s.size - 32) } (s.extract (s.size - 32) s.size) bad ∧ Chg (fun k => k = rb ∨ k = br) w w' := by
  have hsm := h.small
  have c0 := h.cell0
  have CL := Lib.hid (left_any br (s, 0) w h.rd)
  have CT0 := text_ok rb br d s bad (s.size - 32) (by omega) w h
  have hz : (((s.size - 32 : Nat)) : Int) = (s.size : Int) - 32 := by omega
  rw [hz] at CT0
  have CT := Lib.hid CT0
  clear h hn hz CT0
  generalize s.extract 0 (s.size - 32) = t at *
  generalize s.extract (s.size - 32) s.size = r at *
  go_enter Tryz.func65, Tryz.ntmps65
  go_wp2_with (first
    | (go_at_call 36; with_reducible refine CL.out.mono ?_; rintro e w1 ⟨rfl, rfl⟩)
    | (go_at_call 81; with_reducible refine CT.out.mono ?_; rintro e w1 ⟨rfl, hG, hk⟩; (have cz := IsG.c_data hG); (have fz := IsG.fz hG 14)))
  go_end0
  exact ⟨rfl, hG.set 14 _ rfl, chg_rb hk⟩

set_option maxRecDepth 100000 in
set_option maxHeartbeats 4000000 in
theorem getData_short (rb br : Nat) (d : DG) (s : ByteArray) (bad : Bool) (hn : s.size < 32) (w : World) (h : IsG w rb br d s bad) :
    Calls Tryz.prog 65 #[.pointer (some ⟨rb, 0, none⟩)] w fun e w' => e = short72 ∧ Chg (fun k => k = rb ∨ k = br) w w' := by
  have hsm := h.small
  have c0 := h.cell0
  have CL := Lib.hid (left_any br (s, 0) w h.rd)
  have CT := Lib.hid (text_short rb br d s bad ((s.size : Int) - 32) (.inl (by omega)) w h)
  clear h hn
  go_enter Tryz.func65, Tryz.ntmps65
  go_wp2_with (first
    | (go_at_call 36; with_reducible refine CL.out.mono ?_; rintro e w1 ⟨rfl, rfl⟩)
    | (go_at_call 81; with_reducible refine CT.out.mono ?_; rintro e w1 ⟨rfl, rfl⟩))
  exact ⟨rfl, rfl, Chg.refl _ _⟩

/-- The first byte as a number. -/
def fstN (s : ByteArray) : Nat := num ((bs s).take 1)
theorem fstN_le (s : ByteArray) : fstN s ≤ 255 := by
  unfold fstN
  have HB := num_lt ((bs s).take 1)
  have h2 : ((bs s).take 1).length ≤ 1 := by simp; omega
  have h3 : 256 ^ ((bs s).take 1).length ≤ 256 ^ 1 := Nat.pow_le_pow_right (by decide) h2
  omega

set_option maxRecDepth 100000 in
set_option maxHeartbeats 4000000 in
theorem getName_ok (rb br : Nat) (d : DG) (s : ByteArray) (bad : Bool) (h1 : 1 ≤ s.size) (hn : 1 + fstN s ≤ s.size) (w : World) (h : IsG w rb br d s bad) :
    Calls Tryz.prog 51 #[.pointer (some ⟨rb, 0, none⟩)] w fun e w' => e = .returned (.tuple #[]) ∧ IsG w' rb br { d with name := (s.extract 1 s.size).extract 0 (fstN s) } ((s.extract 1 s.size).extract (fstN s) (s.extract 1 s.size).size) bad ∧ Chg (fun k => k = rb ∨ k = br) w w' := by
  have CN : Hid (Calls Tryz.prog 84 #[.pointer (some ⟨rb, 0, none⟩), .int .i64 1] w fun e w' => e = .returned (.int .u64 (fstN s : Nat)) ∧ IsG w' rb br d (s.extract 1 s.size) bad ∧ Chg (· = br) w w') := number_ok rb br d s bad 1 (by omega) h1 w h
  have hf := fstN_le s
  have HN : Hid (fstN s ≤ (s.extract 1 s.size).size) := by show _ ≤ _; simp; omega
  clear h hn h1
  generalize fstN s = n at *
  generalize s.extract 1 s.size = r at *
  go_enter Tryz.func51, Tryz.ntmps51
  go_wp2_with (first
    | (go_at_call 84; with_reducible refine CN.out.mono ?_; rintro e w1 ⟨rfl, hG, hk⟩)
    | (go_at_call 81; with_reducible refine (text_ok rb br d r bad n HN.out _ hG).mono ?_; rintro e w2 ⟨rfl, hG2, hk2⟩; (have cz := IsG.c_name hG2); (have fz := IsG.fz hG2 5)))
  go_end0
  exact ⟨rfl, hG2.set 5 _ rfl, chg_rb (hk.trans hk2)⟩

set_option maxRecDepth 100000 in
set_option maxHeartbeats 4000000 in
theorem getName_short1 (rb br : Nat) (d : DG) (s : ByteArray) (bad : Bool) (h1 : s.size < 1) (w : World) (h : IsG w rb br d s bad) :
    Calls Tryz.prog 51 #[.pointer (some ⟨rb, 0, none⟩)] w fun e w' => e = short72 ∧ Chg (fun k => k = rb ∨ k = br) w w' := by
  have CN : Hid (Calls Tryz.prog 84 #[.pointer (some ⟨rb, 0, none⟩), .int .i64 1] w fun e w' => e = short72 ∧ w = w') := number_short rb br d s bad 1 (by omega) w h
  clear h h1
  go_enter Tryz.func51, Tryz.ntmps51
  go_wp2_with (go_at_call 84; with_reducible refine CN.out.mono ?_; rintro e w1 ⟨rfl, rfl⟩)
  exact ⟨rfl, rfl, Chg.refl _ _⟩

set_option maxRecDepth 100000 in
set_option maxHeartbeats 4000000 in
theorem getName_short2 (rb br : Nat) (d : DG) (s : ByteArray) (bad : Bool) (h1 : 1 ≤ s.size) (hn : s.size < 1 + fstN s) (w : World) (h : IsG w rb br d s bad) :
    Calls Tryz.prog 51 #[.pointer (some ⟨rb, 0, none⟩)] w fun e w' => e = short72 ∧ Chg (fun k => k = rb ∨ k = br) w w' := by
  have CN : Hid (Calls Tryz.prog 84 #[.pointer (some ⟨rb, 0, none⟩), .int .i64 1] w fun e w' => e = .returned (.int .u64 (fstN s : Nat)) ∧ IsG w' rb br d (s.extract 1 s.size) bad ∧ Chg (· = br) w w') := number_ok rb br d s bad 1 (by omega) h1 w h
  have hf := fstN_le s
  have HN : Hid (((s.extract 1 s.size).size : Int) < (fstN s : Int)) := by show _ < _; simp; omega
  clear h hn h1
  generalize fstN s = n at *
  generalize s.extract 1 s.size = r at *
  go_enter Tryz.func51, Tryz.ntmps51
  go_wp2_with (first
    | (go_at_call 84; with_reducible refine CN.out.mono ?_; rintro e w1 ⟨rfl, hG, hk⟩)
    | (go_at_call 81; with_reducible refine (text_short rb br d r bad (n : Int) (.inr HN.out) _ hG).mono ?_; rintro e w2 ⟨rfl, rfl⟩))
  exact ⟨rfl, rfl, hk.mono (fun _ _ e => .inr e)⟩

/-- What is left of the zeros when the zeros are taken off both ends. -/
def trim0 (s : ByteArray) : ByteArray := ⟨(Lib.trimB (s.extract 0 76).data.toList 0).toArray⟩

set_option maxRecDepth 100000 in
set_option maxHeartbeats 4000000 in
theorem getZeros_ok (rb br : Nat) (d : DG) (s : ByteArray) (bad : Bool) (hn : 76 ≤ s.size) (w : World) (h : IsG w rb br d s bad) :
    Calls Tryz.prog 45 #[.pointer (some ⟨rb, 0, none⟩)] w fun e w' => e = .returned (.tuple #[]) ∧ IsG w' rb br d (s.extract 76 s.size) (!(trim0 s).toList.isEmpty) ∧ Chg (fun k => k = rb ∨ k = br) w w' := by
  have CT : Hid (Calls Tryz.prog 81 #[.pointer (some ⟨rb, 0, none⟩), .int .i64 76] w fun e w' => e = .returned (.string (s.extract 0 76)) ∧ IsG w' rb br d (s.extract 76 s.size) bad ∧ Chg (· = br) w w') := text_ok rb br d s bad 76 hn w h
  have hz : (s.extract 0 76).size ≤ 9223372036854775807 := by have := h.small; simp; omega
  have CZ : Hid (∀ w, Calls Tryz.prog 83 #[.string (s.extract 0 76), .string ⟨#[0]⟩] w fun e w' => e = .returned (.string (trim0 s)) ∧ Chg (fun _ => False) w w') := by
    intro w
    refine (Tryz.strings_Trim_one (s.extract 0 76) 0 (by decide) w hz).mono ?_
    rintro e w' ⟨rfl, rfl | rfl⟩
    · exact ⟨rfl, Chg.refl _ _⟩
    · exact ⟨rfl, (Chg.refl _ _).drew⟩
  clear h hn hz
  generalize s.extract 0 76 = t at *
  generalize s.extract 76 s.size = r at *
  generalize trim0 s = u at *
  go_enter Tryz.func45, Tryz.ntmps45
  go_wp2_with (first
    | (go_at_call 81; with_reducible refine CT.out.mono ?_; rintro e w1 ⟨rfl, hG, hk⟩)
    | (go_at_call 83; with_reducible refine (CZ.out _).mono ?_; rintro e w2 ⟨rfl, hk2⟩; (have hG2 := IsG.keep hG hk2 id id); (have cz := IsG.c_bad hG2); (have fz := IsG.fz hG2 16)))
  go_end0
  exact ⟨rfl, hG2.set 16 _ rfl, chg_rb (hk.trans (hk2.mono (fun _ _ h => h.elim)))⟩

set_option maxRecDepth 100000 in
set_option maxHeartbeats 4000000 in
theorem getZeros_short (rb br : Nat) (d : DG) (s : ByteArray) (bad : Bool) (hn : s.size < 76) (w : World) (h : IsG w rb br d s bad) :
    Calls Tryz.prog 45 #[.pointer (some ⟨rb, 0, none⟩)] w fun e w' => e = short72 ∧ Chg (fun k => k = rb ∨ k = br) w w' := by
  have CT : Hid (Calls Tryz.prog 81 #[.pointer (some ⟨rb, 0, none⟩), .int .i64 76] w fun e w' => e = short72 ∧ w = w') := text_short rb br d s bad 76 (.inr (by omega)) w h
  clear h hn
  go_enter Tryz.func45, Tryz.ntmps45
  go_wp2_with (go_at_call 81; with_reducible refine CT.out.mono ?_; rintro e w1 ⟨rfl, rfl⟩)
  exact ⟨rfl, rfl, Chg.refl _ _⟩

/-- A command's bytes. -/
def cmd0 (s : ByteArray) : Int := sgn8 ((bs s).getD 0 0)
def tail1 (s : ByteArray) : ByteArray := s.extract 1 s.size
def cmd1 (s : ByteArray) : Int := cmd0 (tail1 s)
def cmd2 (s : ByteArray) : Nat := fstN (tail1 (tail1 s))
def hasBit (n : Nat) (b : Int) : Bool := bits .and .u64 (n : Int) b != 0
theorem tail1_size (s : ByteArray) : (tail1 s).size = s.size - 1 := by simp [tail1]
theorem IsG.set_throttle {w : World} {rb br : Nat} {d : DG} {s : ByteArray} {bad : Bool} (h : IsG w rb br d s bad) (x : Int) : IsG (w.setCell ⟨rb, 10, none⟩ (.int .i64 x)) rb br { d with throttle := x } s bad := h.set 10 _ rfl
theorem IsG.set_turn {w : World} {rb br : Nat} {d : DG} {s : ByteArray} {bad : Bool} (h : IsG w rb br d s bad) (x : Int) : IsG (w.setCell ⟨rb, 11, none⟩ (.int .i64 x)) rb br { d with turn := x } s bad := h.set 11 _ rfl
theorem IsG.set_flags {w : World} {rb br : Nat} {d : DG} {s : ByteArray} {bad : Bool} (h : IsG w rb br d s bad) (x y b2 : Bool) : IsG (((w.setCell ⟨rb, 12, none⟩ (.bool x)).setCell ⟨rb, 13, none⟩ (.bool y)).setCell ⟨rb, 16, none⟩ (.bool b2)) rb br { d with fire := x, boost := y } s b2 :=
  (((h.set (d' := { d with fire := x }) 12 _ rfl).set (d' := { d with fire := x, boost := y }) 13 _ rfl).set 16 _ rfl)
theorem chg_set {w w1 : World} {rb br i : Nat} {v : Value} (h : Chg (fun k => k = rb ∨ k = br) w w1) : Chg (fun k => k = rb ∨ k = br) w (w1.setCell ⟨rb, i, none⟩ v) :=
  h.setCell _ _ (fun _ => .inl rfl)
theorem signed_ok1 (rb br : Nat) (d : DG) (s : ByteArray) (bad : Bool) (hn : 1 ≤ s.size) (w : World) (h : IsG w rb br d s bad) :
    Calls Tryz.prog 86 #[.pointer (some ⟨rb, 0, none⟩)] w fun e w' => e = .returned (.int .i64 (cmd0 s)) ∧ IsG w' rb br d (tail1 s) bad ∧ Chg (fun k => k = rb ∨ k = br) w w' :=
  (signed_ok rb br d s bad hn w h).mono fun _ _ ⟨a, b, c⟩ => ⟨a, b, c.mono (fun _ _ e => .inr e)⟩
theorem number_ok1 (rb br : Nat) (d : DG) (s : ByteArray) (bad : Bool) (hn : 1 ≤ s.size) (w : World) (h : IsG w rb br d s bad) :
    Calls Tryz.prog 84 #[.pointer (some ⟨rb, 0, none⟩), .int .i64 1] w fun e w' => e = .returned (.int .u64 (fstN s : Nat)) ∧ IsG w' rb br d (tail1 s) bad ∧ Chg (fun k => k = rb ∨ k = br) w w' :=
  (number_ok rb br d s bad 1 (by omega) hn w h).mono fun _ _ ⟨a, b, c⟩ => ⟨a, b, c.mono (fun _ _ e => .inr e)⟩
theorem number_short1 (rb br : Nat) (d : DG) (s : ByteArray) (bad : Bool) (hn : s.size < 1) (w : World) (h : IsG w rb br d s bad) :
    Calls Tryz.prog 84 #[.pointer (some ⟨rb, 0, none⟩), .int .i64 1] w fun e w' => e = short72 ∧ w = w' :=
  number_short rb br d s bad 1 (by omega) w h

set_option maxRecDepth 100000 in
set_option maxHeartbeats 4000000 in
theorem getCommand_ok (rb br : Nat) (d : DG) (s : ByteArray) (bad : Bool) (hn : 3 ≤ s.size) (w : World) (h : IsG w rb br d s bad) :
    Calls Tryz.prog 63 #[.pointer (some ⟨rb, 0, none⟩)] w fun e w' => e = .returned (.tuple #[]) ∧ IsG w' rb br { d with throttle := cmd0 s, turn := cmd1 s, fire := hasBit (cmd2 s) 1, boost := hasBit (cmd2 s) 2 } (tail1 (tail1 (tail1 s))) (decide ((3 : Int) < (cmd2 s : Int))) ∧ Chg (fun k => k = rb ∨ k = br) w w' := by
  unfold cmd1 cmd2 hasBit
  obtain ⟨x0, hx0⟩ : ∃ x, Hid (cmd0 s = x) := ⟨_, rfl⟩
  obtain ⟨x1, hx1⟩ : ∃ x, Hid (cmd0 (tail1 s) = x) := ⟨_, rfl⟩
  obtain ⟨n, hn2⟩ : ∃ x, Hid (fstN (tail1 (tail1 s)) = x) := ⟨_, rfl⟩
  rw [hx0.out, hx1.out, hn2.out]
  have C1 := signed_ok1 rb br d s bad (by omega) w h
  rw [hx0.out] at C1
  clear h
  have HN := Lib.hid hn
  clear hn
  go_enter Tryz.func63, Tryz.ntmps63
  go_wp2_with (fail)
  with_reducible refine C1.mono ?_
  rintro e w1 ⟨rfl, hG1, hk1⟩
  clear C1
  have c10 := hG1.c_throttle
  have f10 := hG1.fz 10
  go_wp2_with (fail)
  have hG2 := hG1.set_throttle x0
  have hk2 := Lib.hid (chg_set (i := 10) (v := .int .i64 x0) hk1)
  clear hG1 hk1 c10 f10
  generalize w1.setCell ⟨rb, 10, none⟩ (.int .i64 x0) = w2 at *
  clear w1
  have C2 := signed_ok1 rb br _ (tail1 s) bad (by rw [tail1_size]; have := HN.out; omega) w2 hG2
  rw [hx1.out] at C2
  with_reducible refine C2.mono ?_
  clear hG2
  rintro e w3 ⟨rfl, hG3, hk3⟩
  clear C2
  have c11 := hG3.c_turn
  have f11 := hG3.fz 11
  replace c11 : w3.cell? ⟨rb, 11, none⟩ = some (.int .i64 d.turn) := c11
  go_wp2_with (fail)
  have hG4 := hG3.set_turn x1
  have hk4 := Lib.hid (chg_set (i := 11) (v := .int .i64 x1) (hk2.out.trans hk3))
  clear hG3 hk3 c11 f11 hk2
  generalize w3.setCell ⟨rb, 11, none⟩ (.int .i64 x1) = w4 at *
  clear w3 w2
  have C3 := number_ok1 rb br _ (tail1 (tail1 s)) bad (by rw [tail1_size, tail1_size]; have := HN.out; omega) w4 hG4
  rw [hn2.out] at C3
  with_reducible refine C3.mono ?_
  clear hG4
  rintro e w5 ⟨rfl, hG5, hk5⟩
  clear C3
  have hb : n ≤ 255 := by rw [← hn2.out]; exact fstN_le _
  have c12 : w5.cell? ⟨rb, 12, none⟩ = some (.bool d.fire) := hG5.c_fire
  have c13 : w5.cell? ⟨rb, 13, none⟩ = some (.bool d.boost) := hG5.c_boost
  have c16 : w5.cell? ⟨rb, 16, none⟩ = some (.bool bad) := hG5.c_bad
  have f12 := hG5.fz 12
  have f13 := hG5.fz 13
  have f16 := hG5.fz 16
  go_wp2_with (fail)
  go_end0
  exact ⟨rfl, hG5.set_flags _ _ _, chg_set (chg_set (chg_set (hk4.out.trans hk5)))⟩

set_option maxRecDepth 100000 in
set_option maxHeartbeats 4000000 in
theorem getCommand_short (rb br : Nat) (d : DG) (s : ByteArray) (bad : Bool) (hn : s.size < 3) (w : World) (h : IsG w rb br d s bad) :
    Calls Tryz.prog 63 #[.pointer (some ⟨rb, 0, none⟩)] w fun e w' => e = short72 ∧ Chg (fun k => k = rb ∨ k = br) w w' := by
  by_cases h0 : s.size < 1
  · have C1 : Hid (Calls Tryz.prog 86 #[.pointer (some ⟨rb, 0, none⟩)] w fun e w' => e = short72 ∧ w = w') := signed_short rb br d s bad h0 w h
    clear h hn h0
    go_enter Tryz.func63, Tryz.ntmps63
    go_wp2_with (go_at_call 86; with_reducible refine C1.out.mono ?_; rintro e w1 ⟨rfl, rfl⟩)
    exact ⟨rfl, rfl, Chg.refl _ _⟩
  · obtain ⟨x0, hx0⟩ : ∃ x, Hid (cmd0 s = x) := ⟨_, rfl⟩
    have C1 := signed_ok1 rb br d s bad (by omega) w h
    rw [hx0.out] at C1
    clear h
    have HN := Lib.hid hn
    have H0 := Lib.hid h0
    clear hn h0
    go_enter Tryz.func63, Tryz.ntmps63
    go_wp2_with (fail)
    with_reducible refine C1.mono ?_
    rintro e w1 ⟨rfl, hG1, hk1⟩
    clear C1
    have c10 := hG1.c_throttle
    have f10 := hG1.fz 10
    go_wp2_with (fail)
    have hG2 := hG1.set_throttle x0
    have hk2 := Lib.hid (chg_set (i := 10) (v := .int .i64 x0) hk1)
    clear hG1 hk1 c10 f10
    generalize w1.setCell ⟨rb, 10, none⟩ (.int .i64 x0) = w2 at *
    clear w1
    by_cases h1 : (tail1 s).size < 1
    · have C2 := signed_short rb br _ (tail1 s) bad h1 w2 hG2
      with_reducible refine C2.mono ?_
      rintro e w3 ⟨rfl, rfl⟩
      clear C2 hG2 h1
      go_wp2_with (fail)
      exact ⟨rfl, rfl, hk2.out⟩
    · obtain ⟨x1, hx1⟩ : ∃ x, Hid (cmd0 (tail1 s) = x) := ⟨_, rfl⟩
      have C2 := signed_ok1 rb br _ (tail1 s) bad (by omega) w2 hG2
      rw [hx1.out] at C2
      with_reducible refine C2.mono ?_
      clear hG2
      rintro e w3 ⟨rfl, hG3, hk3⟩
      clear C2 h1
      have c11 := hG3.c_turn
      have f11 := hG3.fz 11
      replace c11 : w3.cell? ⟨rb, 11, none⟩ = some (.int .i64 d.turn) := c11
      go_wp2_with (fail)
      have hG4 := hG3.set_turn x1
      have hk4 := Lib.hid (chg_set (i := 11) (v := .int .i64 x1) (hk2.out.trans hk3))
      clear hG3 hk3 c11 f11 hk2
      generalize w3.setCell ⟨rb, 11, none⟩ (.int .i64 x1) = w4 at *
      clear w3 w2
      have C3 := number_short1 rb br _ (tail1 (tail1 s)) bad (by rw [tail1_size, tail1_size]; have := HN.out; have := H0.out; omega) w4 hG4
      with_reducible refine C3.mono ?_
      rintro e w5 ⟨rfl, rfl⟩
      clear C3 hG4
      go_wp2_with (fail)
      exact ⟨rfl, rfl, hk4.out⟩
end Go.Proofs.YtejlffeiebfboaaGreatDoor.Get
