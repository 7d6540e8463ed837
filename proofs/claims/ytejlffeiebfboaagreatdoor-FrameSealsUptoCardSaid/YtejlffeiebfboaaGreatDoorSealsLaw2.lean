/- The plain law of FrameSeals: a string whose body another byte turned, and one cut by a byte. -/
import Derived.Test.YtejlffeiebfboaaGreatDoorSealsWalk
import Derived.Test.YtejlffeiebfboaaGreatDoorSealsLaw
set_option linter.unusedVariables false
set_option linter.unusedSimpArgs false
namespace Go.Proofs.YtejlffeiebfboaaGreatDoor.Law
open Go Go.RowKit Go.Proofs.YtejlffeiebfboaaGreatDoor.Mem Go.Proofs.YtejlffeiebfboaaGreatDoor.PackW Go.Proofs.YtejlffeiebfboaaGreatDoor.PackR Go.Proofs.YtejlffeiebfboaaGreatDoor.Put Go.Proofs.YtejlffeiebfboaaGreatDoor.Get

/-- The body of whatever begins as a frame. -/
theorem body_gen (s : ByteArray) (k : UInt8) (R : List UInt8) (hs : bs s = magicB ++ (k :: R)) (h36 : 36 ≤ s.size) (hk : 3 ≤ k.toNat ∧ k.toNat ≤ 7) : (bodyOf s).size = s.size - 32 := by
  have hz := size_of hs
  simp only [magicB, List.length_append, List.length_cons, List.length_nil] at hz
  have h1 : bs s = (magicB ++ (k :: R.take (s.size - 36))) ++ bs ⟨(R.drop (s.size - 36)).toArray⟩ := by
    rw [hs, bs_mk, List.append_assoc, List.cons_append, List.take_append_drop]
  have := body_of (s := s) (T := ⟨(R.drop (s.size - 36)).toArray⟩) (R := R.take (s.size - 36)) rfl h1 (by rw [ba_mk_size, List.length_drop]; omega) hk
  rw [this, ba_mk_size]
  simp only [magicB, List.length_append, List.length_cons, List.length_nil, List.length_take]
  omega
/-- Sealed of whatever begins as a frame. -/
theorem sealed_gen (s key : ByteArray) (k : UInt8) (R : List UInt8) (hs : bs s = magicB ++ (k :: R)) (h36 : 36 ≤ s.size) (hk : 3 ≤ k.toNat ∧ k.toNat ≤ 7) : sealedF s key = decide (lastB s = Mac.tagB key (bodyOf s)) := by
  have hb := body_gen s k R hs h36 hk
  unfold sealedF lastB
  rw [if_neg (by omega), if_neg (by omega), hb]
theorem last_tail {s : ByteArray} {l : List UInt8} {T : ByteArray} (hs : bs s = l ++ bs T) (hT : T.size = 32) (h36 : 36 ≤ s.size) : lastB s = T := by
  have hz := size_of hs
  rw [List.length_append, bs_length, hT] at hz
  unfold lastB
  rw [if_neg (by omega)]
  exact bs_inj (ext_tail hs (by omega))
/-- The two ways of a comparison of strings. -/
theorem two_ways {b : Bool} {x y : ByteArray} (h : b = decide (x = y)) : (b = true ∧ y.toList = x.toList) ∨ (b = false ∧ ¬ y.toList = x.toList) := by
  by_cases e : x = y
  · exact .inl ⟨by rw [h, decide_eq_true e], by rw [e]⟩
  · exact .inr ⟨by rw [h, decide_eq_false e], fun hh => e (bs_inj (by rw [ByteArray.toList_eq, ByteArray.toList_eq] at hh; exact hh.symm))⟩
theorem two_beq {b : Bool} {x y : ByteArray} (h : b = decide (x = y)) : b = (y.toList == x.toList) := by
  rcases two_ways h with ⟨h, t⟩ | ⟨h, t⟩
  · rw [h, t]; simp
  · rw [h]; symm; exact beq_eq_false_iff_ne.2 t
/-- The body's last byte turned. -/
theorem sealed_turned (d : DG) (h3 : 3 ≤ d.kind) (h7 : d.kind ≤ 7) (hp : 20 ≤ (preB d).length) (key s T : ByteArray) (hs : bs s = preB d ++ bs T) (hT : T.size = 32) (c : UInt8) :
    sealedF ⟨((bs s).set ((preB d).length - 1) c).toArray⟩ key = decide (T = Mac.tagB key (bodyOf ⟨((bs s).set ((preB d).length - 1) c).toArray⟩)) := by
  have hset : (bs s).set ((preB d).length - 1) c = (preB d).set ((preB d).length - 1) c ++ bs T := by
    rw [hs, List.set_append_left _ _ (by omega)]
  have hz := size_of hs
  rw [List.length_append, bs_length, hT] at hz
  obtain ⟨n, hn⟩ : ∃ n, (preB d).length - 1 = n + 4 := ⟨(preB d).length - 5, by omega⟩
  have h36 : 36 ≤ (⟨((bs s).set ((preB d).length - 1) c).toArray⟩ : ByteArray).size := by rw [ba_mk_size, List.length_set, bs_length]; omega
  have hpre : (preB d).set ((preB d).length - 1) c = magicB ++ (kd d :: ((ahead d.kind).flatMap (fb d)).set n c) := by
    rw [hn, preB_cons]; rfl
  rw [sealed_gen _ key (kd d) (((ahead d.kind).flatMap (fb d)).set n c ++ bs T) (by rw [bs_mk, hset, hpre]; simp) h36 (kind_byte d h3 h7)]
  rw [last_tail (T := T) (by rw [bs_mk, hset]) hT h36]
/-- Cut by a byte. -/
theorem sealed_cut (d : DG) (h3 : 3 ≤ d.kind) (h7 : d.kind ≤ 7) (hp : 20 ≤ (preB d).length) (key s T : ByteArray) (hs : bs s = preB d ++ bs T) (hT : T.size = 32) :
    sealedF (s.extract 0 (s.size - 1)) key = decide (lastB (s.extract 0 (s.size - 1)) = Mac.tagB key (bodyOf (s.extract 0 (s.size - 1)))) := by
  have hz := size_of hs
  rw [List.length_append, bs_length, hT] at hz
  refine sealed_gen _ key (kd d) (((ahead d.kind).flatMap (fb d) ++ bs T).take (s.size - 5)) ?_ (by simp; omega) (kind_byte d h3 h7)
  rw [bs_ext, List.drop_zero, hs, preB_cons]
  obtain ⟨n, hn⟩ : ∃ n, s.size - 1 = n + 4 := ⟨s.size - 5, by omega⟩
  rw [show s.size - 5 = n by omega, hn]
  rfl
/-- Some bit of a byte turned is another byte. -/
theorem xor_any (v : UInt8) (y : Int) (hy : BitVec.ofInt 8 y ≠ 0#8) : ∃ c : UInt8, c ≠ v ∧ Go.bits .xor .u8 (v.toNat : Int) y = (c.toNat : Int) := by
  refine ⟨⟨v.toBitVec ^^^ BitVec.ofInt 8 y⟩, fun h => hy ?_, ?_⟩
  · have h1 : v.toBitVec ^^^ BitVec.ofInt 8 y = v.toBitVec := congrArg UInt8.toBitVec h
    have h2 : v.toBitVec ^^^ (v.toBitVec ^^^ BitVec.ofInt 8 y) = v.toBitVec ^^^ v.toBitVec := by rw [h1]
    rw [← BitVec.xor_assoc, BitVec.xor_self, BitVec.zero_xor] at h2
    exact h2
  · have h1 : BitVec.ofInt 8 (v.toNat : Int) = v.toBitVec := by
      rw [BitVec.ofInt_natCast]
      apply BitVec.eq_of_toNat_eq
      have := v.toNat_lt
      simp
    show IntKind.wrap .u8 (((BitVec.ofInt 8 (v.toNat : Int) ^^^ BitVec.ofInt 8 y).toNat : Nat) : Int) = _
    rw [h1]
    have := (v.toBitVec ^^^ BitVec.ofInt 8 y).isLt
    exact IntWalk.u8_in _ (by omega)
theorem xor_ne (v : UInt8) (r : Nat) (hr : r < 8) : ∃ c : UInt8, c ≠ v ∧ Go.bits .xor .u8 (v.toNat : Int) (IntKind.wrap .u8 (2 ^ r)) = (c.toNat : Int) := by
  refine xor_any v _ ?_
  have : ∀ r : Fin 8, BitVec.ofInt 8 (IntKind.wrap .u8 (2 ^ r.val)) ≠ 0#8 := by decide +kernel
  exact this ⟨r, hr⟩
end Go.Proofs.YtejlffeiebfboaaGreatDoor.Law
