/- The program's pack.Reader: what is left, and its first error. -/
import Derived.Test.YtejlffeiebfboaaGreatDoorPackT
set_option linter.unusedVariables false
set_option linter.unusedSimpArgs false
namespace Go.Proofs.YtejlffeiebfboaaGreatDoor.PackR
open Go Go.RowKit Go.Proofs.YtejlffeiebfboaaGreatDoor.Mem Go.Proofs.YtejlffeiebfboaaGreatDoor.PackW

/-- A reader's state: what is left, the first error. -/
abbrev RS := ByteArray × Int
def IsR (w : World) (br : Nat) (st : RS) : Prop :=
  Row w br 95 [.string st.1, .int .i64 st.2, .func (.func (if st.2 = 0 then 75 else 108)) #[.pointer (some ⟨br, 0, none⟩)] #[]]
def failR (st : RS) (e : Int) : RS := if st.2 = 0 then (⟨#[]⟩, e) else st

theorem newReader_any (s : ByteArray) (w : World) : Calls Tryz.prog 35 #[.string s] w fun e w' => e = .returned (.pointer (some ⟨w.heap.size, 0, none⟩)) ∧ IsR w' w.heap.size (s, 0) ∧ Chg (fun _ => False) w w' := by
  have hmf : ∀ (fn : Fn) (first cap : Array Value) (w : World), (Instr.makeFunc fn first cap).run Tryz.prog w = .ok (.func fn first cap) w := fun _ _ _ _ => rfl
  go_enter Tryz.func35, Tryz.ntmps35
  go_wp2
  go_ret
  refine ⟨rfl, ?_, (Chg.refl _ _).alloc _⟩
  unfold IsR
  rw [if_pos rfl]
  exact Row.alloc_new w 95 [.string s, .int .i64 0, .func (.func 75) #[.pointer (some ⟨w.heap.size, 0, none⟩)] #[]]

theorem rfail_any (br : Nat) (st : RS) (x : Int) (hx : x ≠ 0) (w : World) (h : IsR w br st) :
    Calls Tryz.prog 93 #[.pointer (some ⟨br, 0, none⟩), .int .i64 x] w fun e w' => e = .returned (.tuple #[]) ∧ IsR w' br (failR st x) ∧ Chg (· = br) w w' := by
  have hmf : ∀ (fn : Fn) (first cap : Array Value) (w : World), (Instr.makeFunc fn first cap).run Tryz.prog w = .ok (.func fn first cap) w := fun _ _ _ _ => rfl
  obtain ⟨s, err⟩ := st
  unfold IsR at h
  have HX := Lib.hid hx
  clear hx
  have c1 : w.cell? ⟨br, 1, none⟩ = some (.int .i64 err) := h.cell 1
  have f0 := h.frozen 0
  have f1 := h.frozen 1
  have f2 := h.frozen 2
  by_cases he : err = 0
  · subst he
    have c0 : w.cell? ⟨br, 0, none⟩ = some (.string s) := h.cell 0
    have c2 : w.cell? ⟨br, 2, none⟩ = some _ := h.cell 2
    go_enter Tryz.func93, Tryz.ntmps93
    go_wp2
    go_end0
    refine ⟨rfl, ?_, Chg.setCell (F := (· = br)) (Chg.setCell (F := (· = br)) (Chg.setCell (F := (· = br)) (Chg.refl _ _) ⟨br, 1, none⟩ _ (fun _ => rfl)) ⟨br, 0, none⟩ _ (fun _ => rfl)) ⟨br, 2, none⟩ _ (fun _ => rfl)⟩
    unfold IsR failR
    rw [if_pos rfl, if_neg HX.out]
    exact ((h.set 1 _).set 0 _).set 2 _
  · have hb : (err == 0) = false := by simp [he]
    have HE := Lib.hid he
    clear he
    go_enter Tryz.func93, Tryz.ntmps93
    go_wp2
    go_end0
    refine ⟨rfl, ?_, Chg.refl _ _⟩
    unfold IsR failR
    rw [if_neg HE.out]; exact h

theorem next_any (br : Nat) (s : ByteArray) (n : Nat) (hn : n ≤ s.size) (hsz : s.size < 140737488355328) (w : World) (h : IsR w br (s, 0)) :
    Calls Tryz.prog 75 #[.pointer (some ⟨br, 0, none⟩), .int .i64 (n : Int)] w fun e w' => e = .returned (.tuple #[.string (s.extract 0 n), .bool true]) ∧ IsR w' br (s.extract n s.size, 0) ∧ Chg (· = br) w w' := by
  unfold IsR at h
  have c0 : w.cell? ⟨br, 0, none⟩ = some (.string s) := h.cell 0
  have f0 := h.frozen 0
  have hnI : (n : Int) ≤ (s.size : Int) := by omega
  go_enter Tryz.func75, Tryz.ntmps75
  go_wp2
  go_ret2
  refine ⟨rfl, ?_, Chg.setCell (F := (· = br)) (Chg.refl _ _) ⟨br, 0, none⟩ _ (fun _ => rfl)⟩
  unfold IsR
  exact h.set 0 _

theorem IsR.chg {w w' : World} {F : Nat → Prop} {br : Nat} {st : RS} (h : IsR w br st) (c : Chg F w w') (hF : ¬ F br) : IsR w' br st := Row.chg h c hF

theorem IsR.err0 {w : World} {br : Nat} {s : ByteArray} (h : IsR w br (s, 0)) : w.cell? ⟨br, 1, none⟩ = some (.int .i64 0) := Row.cell h 1

theorem left_any (br : Nat) (st : RS) (w : World) (h : IsR w br st) :
    Calls Tryz.prog 36 #[.pointer (some ⟨br, 0, none⟩)] w fun e w' => e = .returned (.int .i64 st.1.size) ∧ w = w' := by
  unfold IsR at h
  have c0 : w.cell? ⟨br, 0, none⟩ = some (.string st.1) := h.cell 0
  go_enter Tryz.func36, Tryz.ntmps36
  go_wp2
  go_ret
  exact ⟨rfl, rfl⟩

theorem rbytes_any (br : Nat) (s : ByteArray) (n : Nat) (hn : n ≤ s.size) (hsz : s.size < 140737488355328) (w : World) (h : IsR w br (s, 0)) :
    Calls Tryz.prog 95 #[.pointer (some ⟨br, 0, none⟩), .int .i64 (n : Int)] w fun e w' => e = .returned (.string (s.extract 0 n)) ∧ IsR w' br (s.extract n s.size, 0) ∧ Chg (· = br) w w' := by
  have C := Lib.hid (next_any br s n hn hsz w h)
  unfold IsR at h
  have c2 : w.cell? ⟨br, 2, none⟩ = some (.func (.func 75) #[.pointer (some ⟨br, 0, none⟩)] #[]) := h.cell 2
  clear h
  go_enter Tryz.func95, Tryz.ntmps95
  go_wp2_with (go_at_call 75; with_reducible refine C.out.mono ?_; rintro e w1 ⟨rfl, hI, hk⟩)
  go_ret
  exact ⟨rfl, hI, hk⟩

/-- Bytes as a number, the highest first. -/
def num (l : List UInt8) : Nat := l.foldl (fun x b => x * 256 + b.toNat) 0
theorem num_snoc (l : List UInt8) (b : UInt8) : num (l ++ [b]) = num l * 256 + b.toNat := by simp [num]
theorem num_lt_from (l : List UInt8) (a : Nat) : l.foldl (fun x b => x * 256 + b.toNat) a < (a + 1) * 256 ^ l.length := by
  induction l generalizing a with
  | nil => simp
  | cons b l ih =>
    simp only [List.foldl_cons, List.length_cons]
    refine Nat.lt_of_lt_of_le (ih _) ?_
    have hb := b.toNat_lt
    rw [Nat.pow_succ, Nat.mul_comm (256 ^ l.length), ← Nat.mul_assoc]
    exact Nat.mul_le_mul_right _ (by omega)
theorem num_lt (l : List UInt8) : num l < 256 ^ l.length := by
  have := num_lt_from l 0
  simpa [num] using this
theorem num_take (l : List UInt8) (k : Nat) (hk : k < l.length) : num (l.take (k + 1)) = num (l.take k) * 256 + l[k].toNat := by
  rw [List.take_succ_eq_append_getElem hk, num_snoc]
theorem or_num (x : Nat) (b : UInt8) (hx : x < 72057594037927936) : bits .or .u64 ((x : Int) * 256) (b.toNat : Int) = ((x * 256 + b.toNat : Nat) : Int) := by
  have hb := b.toNat_lt
  unfold bits
  have h1 : (BitVec.ofInt (IntKind.bits .u64) ((x : Int) * 256)).toNat = x * 256 := by
    show (BitVec.ofInt 64 _).toNat = _
    rw [BitVec.toNat_ofInt]; omega
  have h2 : (BitVec.ofInt (IntKind.bits .u64) (b.toNat : Int)).toNat = b.toNat := by
    show (BitVec.ofInt 64 _).toNat = _
    rw [BitVec.toNat_ofInt]; omega
  show IntKind.wrap .u64 (((BitVec.ofInt (IntKind.bits .u64) ((x : Int) * 256) ||| BitVec.ofInt (IntKind.bits .u64) (b.toNat : Int)).toNat : Nat) : Int) = _
  rw [BitVec.toNat_or, h1, h2]
  have h3 : x * 256 ||| b.toNat = x * 256 + b.toNat := by
    have := Nat.two_pow_add_eq_or_of_lt (i := 8) (b := b.toNat) hb x
    rw [Nat.mul_comm x 256]; exact this.symm
  rw [h3]
  simp [IntKind.wrap, IntKind.bits, IntKind.signed]; omega

set_option maxHeartbeats 2000000 in
theorem rnumber_any (br : Nat) (s : ByteArray) (n : Nat) (h8 : 1 ≤ n ∧ n ≤ 8) (hn : n ≤ s.size) (hsz : s.size < 140737488355328) (w : World) (h : IsR w br (s, 0)) :
    Calls Tryz.prog 103 #[.pointer (some ⟨br, 0, none⟩), .int .i64 (n : Int)] w fun e w' => e = .returned (.int .u64 (num ((bs s).take n) : Nat)) ∧ IsR w' br (s.extract n s.size, 0) ∧ Chg (· = br) w w' := by
  have C := Lib.hid (next_any br s n hn hsz w h)
  unfold IsR at h
  have c2 : w.cell? ⟨br, 2, none⟩ = some (.func (.func 75) #[.pointer (some ⟨br, 0, none⟩)] #[]) := h.cell 2
  clear h
  have hnI : 1 ≤ (n : Int) ∧ (n : Int) ≤ 8 := by omega
  have hsd : decide (1 ≤ (n : Int) ∧ (n : Int) ≤ 8) = true := by simp [hnI.1, hnI.2]
  have htS : (s.extract 0 n).size = n := by simp; omega
  have htB : Hid (bs (s.extract 0 n) = (bs s).take n) := by show _ = _; simp [bs]
  generalize s.extract 0 n = t at *
  go_enter Tryz.func103, Tryz.ntmps103
  go_wp2_with (first
    | (go_at_call 41; with_reducible refine (sized_any _ _).mono ?_; rintro e w1 ⟨rfl, rfl⟩)
    | (go_at_call 75; with_reducible refine C.out.mono ?_; rintro e w1 ⟨rfl, hI, hk⟩))
  have HN := Lib.hid h8
  clear c2 C h8
  have l0 : Value.int .u64 0 = .int .u64 (num ((bs t).take 0) : Nat) := rfl
  go_loopw [7, 25] (fun x i wr => ∃ k : Nat, k ≤ n ∧ i = .int .i64 k ∧ x = .int .u64 (num ((bs t).take k) : Nat) ∧ wr = w1) (fun _ i _ => n - (intOf i).toNat)
  case atStart => exact ⟨0, by omega, rfl, l0, rfl⟩
  case round =>
    obtain ⟨k, hk2, rfl, rfl, rfl⟩ := hrel
    clear l0
    by_cases hlt : k < n
    · have hltI : (k : Int) < (n : Int) := by omega
      have hkt : k < t.size := by omega
      have hX : num ((bs t).take k) < 72057594037927936 := by
        have h1 := num_lt ((bs t).take k)
        have h2 : ((bs t).take k).length ≤ 7 := by simp; have := HN.out; omega
        have h3 : 256 ^ ((bs t).take k).length ≤ 256 ^ 7 := Nat.pow_le_pow_right (by decide) h2
        exact Nat.lt_of_lt_of_le h1 h3
      have hS : Hid (num ((bs t).take (k + 1)) = num ((bs t).take k) * 256 + t[k].toNat) := by
        show _ = _
        rw [num_take _ _ (by rw [bs_length]; exact hkt)]
        simp [bs]; rfl
      generalize num ((bs t).take k) = x at *
      have hor := or_num x t[k] hX
      have hw8 : IntKind.wrap .u64 (t[k].toNat : Int) = (t[k].toNat : Int) := by
        have := t[k].toNat_lt
        simp [IntKind.wrap, IntKind.bits, IntKind.signed]; omega
      go_wp2
      go_roundw
      case rel => exact ⟨k + 1, by omega, by go_num, by rw [hS.out]; congr 1, trivial⟩
      case measure => simp [intOf]; omega
    · have hltI : ¬ (k : Int) < (n : Int) := by omega
      have ek : k = n := by omega
      have hT : Hid (num ((bs t).take k) = num ((bs s).take n)) := by
        show _ = _
        rw [ek, htB.out, List.take_take, Nat.min_self]
      clear ek
      go_wp2
      go_ret
      exact ⟨by rw [← hT.out]; rfl, hI, hk⟩
/-- A byte as a number with its sign. -/
def sgn8 (b : UInt8) : Int := if b.toNat < 128 then b.toNat else (b.toNat : Int) - 256

theorem sgn8_fin : ∀ n : Fin 256, wrap64 ((n.val : Int) * 72057594037927936) / 72057594037927936 = if n.val < 128 then (n.val : Int) else (n.val : Int) - 256 := by decide +kernel
theorem sgn8_wrap (b : UInt8) : wrap64 ((b.toNat : Int) * 72057594037927936) / 72057594037927936 = sgn8 b := sgn8_fin ⟨b.toNat, b.toNat_lt⟩

theorem rsigned1_any (br : Nat) (s : ByteArray) (hn : 1 ≤ s.size) (hsz : s.size < 140737488355328) (w : World) (h : IsR w br (s, 0)) :
    Calls Tryz.prog 104 #[.pointer (some ⟨br, 0, none⟩), .int .i64 1] w fun e w' => e = .returned (.int .i64 (sgn8 ((bs s).getD 0 0))) ∧ IsR w' br (s.extract 1 s.size, 0) ∧ Chg (· = br) w w' := by
  obtain ⟨b, hb⟩ : ∃ b, Hid (b = (bs s).getD 0 0) := ⟨_, rfl⟩
  have hne : Hid (num ((bs s).take 1) = b.toNat) := by
    show _ = _
    rw [num_take _ 0 (by rw [bs_length]; omega), hb.out]
    have : 0 < (bs s).length := by rw [bs_length]; omega
    simp [num, List.getD, this]
  have C0 := rnumber_any br s 1 (by omega) hn hsz w h
  rw [hne.out] at C0
  have C : Hid (Calls Tryz.prog 103 #[.pointer (some ⟨br, 0, none⟩), .int .i64 1] w fun e w' => e = .returned (.int .u64 (b.toNat : Nat)) ∧ IsR w' br (s.extract 1 s.size, 0) ∧ Chg (· = br) w w') := Lib.hid C0
  clear C0 h
  rw [← hb.out]
  have hb8 := b.toNat_lt
  go_enter Tryz.func104, Tryz.ntmps104
  go_wp2_with (first
    | (go_at_call 103; go_loud (with_reducible refine C.out.mono ?_; rintro e w1 ⟨rfl, hI, hk⟩; (have c1 : w1.cell? ⟨br, 1, none⟩ = some (.int .i64 0) := IsR.err0 hI))))
  go_ret
  exact ⟨by rw [← sgn8_wrap]; rfl, hI, hk⟩
end Go.Proofs.YtejlffeiebfboaaGreatDoor.PackR
