/- The program's pack.Writer: Signed (of one byte), Text, Done. -/
import Derived.Test.YtejlffeiebfboaaGreatDoorPackW
set_option linter.unusedVariables false
set_option linter.unusedSimpArgs false
namespace Go.Proofs.YtejlffeiebfboaaGreatDoor.PackW
open Go Go.RowKit Go.Proofs.YtejlffeiebfboaaGreatDoor.Mem

def sgn1 (st : WS) (x : Int) : WS := if -128 ≤ x ∧ x < 128 then layS st [UInt8.ofNat (x % 256).toNat] else failS st 51
theorem be_one (y : Nat) : be 1 y = [UInt8.ofNat y] := by simp [be]
theorem numS_one (st : WS) (y : Nat) (h : y < 256) : numS st y 1 = layS st [UInt8.ofNat y] := by
  unfold numS; rw [if_pos (by omega), be_one]

theorem and255 (x : Int) : bits .and .u64 (IntKind.wrap .u64 x) 255 = (((x % 256).toNat : Nat) : Int) := by
  have hw : IntKind.wrap .u64 x = x % 18446744073709551616 := by simp [IntKind.wrap, IntKind.bits, IntKind.signed]
  rw [hw]
  unfold bits
  have h1 : (BitVec.ofInt (IntKind.bits .u64) (x % 18446744073709551616)).toNat = (x % 18446744073709551616).toNat := by
    show (BitVec.ofInt 64 _).toNat = _
    rw [BitVec.toNat_ofInt]; simp
  have h2 : (BitVec.ofInt (IntKind.bits .u64) 255).toNat = 2 ^ 8 - 1 := by decide
  show IntKind.wrap .u64 (((BitVec.ofInt (IntKind.bits .u64) (x % 18446744073709551616) &&& BitVec.ofInt (IntKind.bits .u64) 255).toNat : Nat) : Int) = _
  rw [BitVec.toNat_and, h1, h2, Nat.and_two_pow_sub_one_eq_mod]
  have h3 : (x % 18446744073709551616).toNat % 2 ^ 8 = (x % 256).toNat := by omega
  rw [h3]
  have h4 : (x % 256).toNat < 256 := by omega
  simp [IntKind.wrap, IntKind.bits, IntKind.signed]; omega

set_option maxHeartbeats 4000000 in
theorem signed1_any (B bw bw2 : Nat) (st : WS) (x : Int) (w : World) (h : IsWS w B bw bw2 st) (hx : -9223372036854775808 ≤ x ∧ x < 9223372036854775808) (hlen : st.1.length + 8 ≤ 140737488355328) :
    Calls Tryz.prog 87 #[.pointer (some ⟨bw, 0, none⟩), .int .i64 x, .int .i64 1] w fun e w' => e = .returned (.tuple #[]) ∧ IsWS w' B bw bw2 (sgn1 st x) ∧ Kp B bw w w' := by
  have HX := Lib.hid hx
  clear hx
  have CF := Lib.hid (fail_any B bw bw2 st 51 (by decide) w h)
  obtain ⟨y, hy⟩ : ∃ y, Hid (y = (x % 256).toNat) := ⟨_, rfl⟩
  have CN : Hid (Calls Tryz.prog 24 #[.pointer (some ⟨bw, 0, none⟩), .int .u64 (y : Int), .int .i64 1] w fun e w' => e = .returned (.tuple #[]) ∧ IsWS w' B bw bw2 (numS st y 1) ∧ Kp B bw w w') := Lib.hid (number_any B bw bw2 st y 1 w h (by omega) (by rw [hy.out]; omega) hlen)
  have hand := and255 x
  rw [← hy.out] at hand
  have hs : decide (1 ≤ (1 : Int) ∧ (1 : Int) ≤ 8) = true := by decide
  clear h
  by_cases h1 : x < -128
  · have hE : sgn1 st x = failS st 51 := by unfold sgn1; rw [if_neg (by omega)]
    rw [hE]
    clear hE
    go_enter Tryz.func87, Tryz.ntmps87
    go_wp2_with (first
      | (go_at_call 41; with_reducible refine (sized_any _ _).mono ?_; rintro e w1 ⟨rfl, rfl⟩)
      | (go_at_call 42; with_reducible refine CF.out.mono ?_; rintro e w3 ⟨rfl, hI, hk⟩))
    (try simp only [Exit.inBlock, Exit.then])
    refine bodyPost_ret (results_none rfl _ _ _) rfl ?_
    exact ⟨rfl, hI, hk⟩
  · by_cases h2 : x ≥ 128
    · have hE : sgn1 st x = failS st 51 := by unfold sgn1; rw [if_neg (by omega)]
      rw [hE]
      clear hE
      go_enter Tryz.func87, Tryz.ntmps87
      go_wp2_with (first
        | (go_at_call 41; with_reducible refine (sized_any _ _).mono ?_; rintro e w1 ⟨rfl, rfl⟩)
        | (go_at_call 42; with_reducible refine CF.out.mono ?_; rintro e w3 ⟨rfl, hI, hk⟩))
      (try simp only [Exit.inBlock, Exit.then])
      refine bodyPost_ret (results_none rfl _ _ _) rfl ?_
      exact ⟨rfl, hI, hk⟩
    · have hE : Hid (sgn1 st x = numS st (x % 256).toNat 1) := by show _ = _; unfold sgn1; rw [if_pos (by omega), numS_one _ _ (by omega)]
      go_enter Tryz.func87, Tryz.ntmps87
      go_wp2_with (first
        | (go_at_call 41; with_reducible refine (sized_any _ _).mono ?_; rintro e w1 ⟨rfl, rfl⟩)
        | (go_at_call 24; with_reducible refine CN.out.mono ?_; rintro e w3 ⟨rfl, hI, hk⟩))
      go_end0
      exact ⟨rfl, by rw [hE.out, ← hy.out]; exact hI, hk⟩

theorem IsWS.cell_ok {w : World} {B bw bw2 : Nat} {st : WS} (h : IsWS w B bw bw2 st) (he : st.2 = 0) : w.cell? ⟨bw, 2, none⟩ = some (.func (.func 40) #[] #[.pointer (some ⟨bw2, 0, none⟩)]) := by
  obtain ⟨v, hw, _⟩ := h.ok he
  exact hw.cell 2
theorem IsWS.cell_bad {w : World} {B bw bw2 : Nat} {st : WS} (h : IsWS w B bw bw2 st) (he : st.2 ≠ 0) : w.cell? ⟨bw, 2, none⟩ = some (.func (.func 80) #[] #[]) := by
  obtain ⟨v, hw⟩ := h.bad he
  exact hw.cell 2
theorem layS_err (st : WS) (s : List UInt8) : (layS st s).2 = st.2 := by unfold layS; split <;> simp_all
theorem layS_ok {st : WS} (he : st.2 = 0) (s : List UInt8) : layS st s = (st.1 ++ s, 0) := by unfold layS; rw [if_pos he]
theorem layS_bad {st : WS} (he : st.2 ≠ 0) (s : List UInt8) : layS st s = st := by unfold layS; rw [if_neg he]
/-- The writer's own function, called. -/
theorem lay_ok {w : World} {B bw bw2 : Nat} {st : WS} (h : IsWS w B bw bw2 st) (he : st.2 = 0) (s : ByteArray) (hlen : st.1.length + s.size ≤ 140737488355328) :
    Calls Tryz.prog 40 #[.string s, .pointer (some ⟨bw2, 0, none⟩)] w fun e w' => e = .returned (.tuple #[]) ∧ IsWS w' B bw bw2 (layS st (bs s)) ∧ Kp B bw w w' := by
  obtain ⟨out, err⟩ := st
  have he' : err = 0 := he
  subst he'
  rw [layS_ok he]
  exact lay_any B bw bw2 out s w h hlen

def textS (st : WS) (s : ByteArray) : WS := if s.size ≤ 255 then layS (numS st s.size 1) (bs s) else failS st 51

set_option maxHeartbeats 4000000 in
theorem text_any (B bw bw2 : Nat) (st : WS) (s : ByteArray) (w : World) (h : IsWS w B bw bw2 st) (hlen : st.1.length + 300 ≤ 140737488355328) :
    Calls Tryz.prog 85 #[.pointer (some ⟨bw, 0, none⟩), .string s] w fun e w' => e = .returned (.tuple #[]) ∧ IsWS w' B bw bw2 (textS st s) ∧ Kp B bw w w' := by
  by_cases hs : s.size ≤ 255
  · have hsI : (s.size : Int) ≤ 255 := by omega
    have hE : Hid (textS st s = layS (numS st s.size 1) (bs s)) := by show _ = _; unfold textS; rw [if_pos hs]
    have CN : Hid (Calls Tryz.prog 24 #[.pointer (some ⟨bw, 0, none⟩), .int .u64 (s.size : Int), .int .i64 1] w fun e w' => e = .returned (.tuple #[]) ∧ IsWS w' B bw bw2 (numS st s.size 1) ∧ Kp B bw w w') := Lib.hid (number_any B bw bw2 st s.size 1 w h (by omega) (by omega) (by omega))
    have hN : Hid (numS st s.size 1 = layS st [UInt8.ofNat s.size]) := numS_one _ _ (by omega)
    have HL := Lib.hid hlen
    clear h hlen
    by_cases he : st.2 = 0
    · have HE := Lib.hid he
      clear he
      go_enter Tryz.func85, Tryz.ntmps85
      go_wp2_with (first
        | (go_at_call 24; with_reducible refine CN.out.mono ?_; rintro e w3 ⟨rfl, hI, hk⟩; rw [hN.out] at hI; (have q2 := hI.cell_ok ((layS_err _ _).trans HE.out)); (have CL := Lib.hid (lay_ok hI ((layS_err _ _).trans HE.out) s (by rw [layS_ok HE.out]; have := HL.out; simp; omega))))
        | (go_at_call 40; with_reducible refine CL.out.mono ?_; rintro e w4 ⟨rfl, hI2, hk2⟩))
      go_end0
      exact ⟨rfl, by rw [hE.out, hN.out]; exact hI2, hk.trans hk2⟩
    · have HE := Lib.hid he
      clear he
      go_enter Tryz.func85, Tryz.ntmps85
      go_wp2_with (first
        | (go_at_call 24; with_reducible refine CN.out.mono ?_; rintro e w3 ⟨rfl, hI, hk⟩; rw [hN.out] at hI; (have q2 := hI.cell_bad (by rw [layS_err]; exact HE.out)))
        | (go_at_call 80; with_reducible refine (laynot_any _ _).mono ?_; rintro e w4 ⟨rfl, rfl⟩))
      go_end0
      exact ⟨rfl, by rw [hE.out, hN.out, layS_bad (by rw [layS_err]; exact HE.out)]; exact hI, hk⟩
  · have hE : textS st s = failS st 51 := by unfold textS; rw [if_neg hs]
    rw [hE]
    clear hE
    have hsI : 255 < (s.size : Int) := by omega
    have CF := Lib.hid (fail_any B bw bw2 st 51 (by decide) w h)
    go_enter Tryz.func85, Tryz.ntmps85
    go_wp2_with (first
      | (go_at_call 42; with_reducible refine CF.out.mono ?_; rintro e w3 ⟨rfl, hI, hk⟩))
    (try simp only [Exit.inBlock, Exit.then])
    refine bodyPost_ret (results_none rfl _ _ _) rfl ?_
    exact ⟨rfl, hI, hk⟩
/-- What Done gives. -/
def doneS (st : WS) : ByteArray × Int := if st.2 = 0 then (⟨st.1.toArray⟩, 0) else (⟨#[]⟩, st.2)

theorem own_SlB {w : World} {base : Nat} {e : TypeId} {v : Value} {l : List UInt8} (h : w.ownsRow base e 1 v l.length (l.map bv)) : SlB w (fun _ => True) v l := by
  rcases h.2 with ⟨rfl, hn⟩ | ⟨g, cap, cur, rfl, _, hg, hc, _, hsz, ht⟩
  · exact ⟨none, 0, by rw [hn], by omega, fun hne => absurd (List.length_eq_zero_iff.1 hn) hne⟩
  · refine ⟨some ⟨g, 0, none⟩, cap, rfl, hc, fun _ => ⟨g, 0, rfl, trivial, fun j hj => ?_⟩⟩
    rw [Nat.zero_add, cell_of_row w g j cur e _ hg]
    have h1 : (cur.toList.take (l.length * 1))[j]? = (l.map bv)[j]? := by rw [ht]
    rw [List.getElem?_take_of_lt (by omega), Array.getElem?_toList] at h1
    rw [h1, List.getElem?_map]
    simp [List.getD, hj, bv]

set_option maxHeartbeats 4000000 in
theorem done_any (B bw bw2 : Nat) (st : WS) (w : World) (h : IsWS w B bw bw2 st) :
    Calls Tryz.prog 26 #[.pointer (some ⟨bw, 0, none⟩)] w fun e w' => e = .returned (.tuple #[.string (doneS st).1, .int .i64 (doneS st).2]) ∧ Chg (fun _ => False) w w' := by
  obtain ⟨out, err⟩ := st
  unfold IsWS at h
  by_cases he : err = 0
  · subst he
    obtain ⟨v, hw, hw2, hown⟩ := h.ok rfl
    have c0 : w.cell? ⟨bw, 0, none⟩ = some v := hw.cell 0
    have c1 : w.cell? ⟨bw, 1, none⟩ = some (.int .i64 0) := hw.cell 1
    have HS := Lib.hid (own_SlB hown)
    obtain ⟨A, cap, rfl⟩ := own_form hown
    have HE : Hid (doneS (out, 0) = (⟨out.toArray⟩, 0)) := rfl
    clear hw hw2 hown h
    go_enter Tryz.func26, Tryz.ntmps26
    go_wp2_with (refine wpList_stringA rfl 38 9 (.tmp 16) rfl _ rfl 5 Tryz.underlying38 Tryz.underlying5 Tryz.underlying9 (fun _ => True) out HS.out ?_)
    go_ret2
    exact ⟨by rw [HE.out]; rfl, Chg.refl _ _⟩
  · obtain ⟨v, hw⟩ := h.bad he
    have c1 : w.cell? ⟨bw, 1, none⟩ = some (.int .i64 err) := hw.cell 1
    have hb : (err != 0) = true := by simp [he]
    have HE : Hid (doneS (out, err) = (⟨#[]⟩, err)) := by show _ = _; unfold doneS; rw [if_neg he]
    clear hw he h
    go_enter Tryz.func26, Tryz.ntmps26
    go_wp2
    go_quiet (fail)
    go_wp2
    go_ret2
    exact ⟨by rw [HE.out]; rfl, (Chg.refl _ _).drewN _⟩
end Go.Proofs.YtejlffeiebfboaaGreatDoor.PackW
