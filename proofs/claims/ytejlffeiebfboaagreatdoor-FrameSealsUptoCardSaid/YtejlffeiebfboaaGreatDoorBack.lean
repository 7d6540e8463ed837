/- The plain law: what is written of a datagram is taken apart to the same. -/
import Derived.Test.YtejlffeiebfboaaGreatDoorSeal
set_option linter.unusedVariables false
set_option linter.unusedSimpArgs false
namespace Go.Proofs.YtejlffeiebfboaaGreatDoor.Law
open Go Go.RowKit Go.Proofs.YtejlffeiebfboaaGreatDoor.Mem Go.Proofs.YtejlffeiebfboaaGreatDoor.PackW Go.Proofs.YtejlffeiebfboaaGreatDoor.PackR Go.Proofs.YtejlffeiebfboaaGreatDoor.Put Go.Proofs.YtejlffeiebfboaaGreatDoor.Get

/-- A number with its sign as one byte. -/
def sb (x : Int) : UInt8 := UInt8.ofNat (x % 256).toNat
/-- The bytes of a field. -/
def fb (d : DG) : Fld → List UInt8
  | .nonce => bs d.nonce | .zeros => zeros76 | .epoch => PackW.be 8 d.epoch | .cookie => bs d.cookie | .name => UInt8.ofNat d.name.size :: bs d.name | .tag => bs d.tag | .session => PackW.be 8 d.session | .salt => bs d.salt | .seq => PackW.be 8 d.seq | .player => [UInt8.ofNat d.player.toNat] | .data => bs d.data | .command => [sb d.throttle, sb d.turn, UInt8.ofNat (flagsN d)]
/-- Is a field as it must be? -/
def okF (d : DG) : Fld → Prop
  | .nonce => d.nonce.size = 16 | .cookie => d.cookie.size = 32 | .tag => d.tag.size = 32 | .salt => d.salt.size = 16 | .name => d.name.size ≤ 255 | .player => 0 ≤ d.player ∧ d.player < 256
  | .command => (-128 ≤ d.throttle ∧ d.throttle < 128) ∧ (-128 ≤ d.turn ∧ d.turn < 128) | _ => True

theorem wrapN_small {x : Int} (h : 0 ≤ x) (h2 : x < 9223372036854775808) : wrapN x = x.toNat := by unfold wrapN; congr 1; omega

theorem st_ok (d : DG) (hd : d.Ok) (out : List UInt8) (bad : Bool) (f : Fld) (h : okF d f) : Fld.st d (out, 0) f = (out ++ fb d f, 0) ∧ Fld.bd d bad f = bad := by
  cases f with
  | nonce => exact ⟨rfl, by simp only [Fld.bd]; rw [h]; simp⟩
  | zeros => exact ⟨rfl, rfl⟩
  | epoch => exact ⟨rfl, rfl⟩
  | cookie => exact ⟨rfl, by simp only [Fld.bd]; rw [h]; simp⟩
  | name =>
    refine ⟨?_, rfl⟩
    have h' : d.name.size ≤ 255 := h
    simp only [Fld.st]
    unfold textS
    rw [if_pos h', numS_one _ _ (by omega)]
    simp [layS, fb]
  | tag => exact ⟨rfl, by simp only [Fld.bd]; rw [h]; simp⟩
  | session => exact ⟨rfl, rfl⟩
  | salt => exact ⟨rfl, by simp only [Fld.bd]; rw [h]; simp⟩
  | seq => exact ⟨rfl, rfl⟩
  | player =>
    have h' : 0 ≤ d.player ∧ d.player < 256 := h
    refine ⟨?_, by simp only [Fld.bd]; rw [decide_eq_false (by omega)]; simp⟩
    simp only [Fld.st]
    rw [wrapN_small h'.1 (by omega), numS_one _ _ (by omega)]
    rfl
  | data => exact ⟨rfl, rfl⟩
  | command =>
    have h' : (-128 ≤ d.throttle ∧ d.throttle < 128) ∧ (-128 ≤ d.turn ∧ d.turn < 128) := h
    refine ⟨?_, rfl⟩
    simp only [Fld.st]
    unfold cmdS sgn1
    rw [if_pos h'.1, if_pos h'.2]
    simp [layS, fb, sb]
theorem layS_err {st : WS} (h : st.2 ≠ 0) (s : List UInt8) : layS st s = st := by unfold layS; rw [if_neg h]
theorem failS_err {st : WS} (h : st.2 ≠ 0) (x : Int) : failS st x = st := by unfold failS; rw [if_neg h]
theorem numS_err {st : WS} (h : st.2 ≠ 0) (x n : Nat) : numS st x n = st := by unfold numS; split; exact layS_err h _; exact failS_err h _
theorem sgn1_err {st : WS} (h : st.2 ≠ 0) (x : Int) : sgn1 st x = st := by unfold sgn1; split; exact layS_err h _; exact failS_err h _
theorem st_err (d : DG) {st : WS} (h : st.2 ≠ 0) (f : Fld) : Fld.st d st f = st := by
  cases f with
  | name =>
    simp only [Fld.st]; unfold textS
    split
    · rw [numS_err h, layS_err h]
    · exact failS_err h _
  | player => exact numS_err h _ _
  | command => simp only [Fld.st]; unfold cmdS; rw [sgn1_err h, sgn1_err h, layS_err h]
  | nonce => exact layS_err h _
  | zeros => exact layS_err h _
  | epoch => exact layS_err h _
  | cookie => exact layS_err h _
  | tag => exact layS_err h _
  | session => exact layS_err h _
  | salt => exact layS_err h _
  | seq => exact layS_err h _
  | data => exact layS_err h _
theorem bd_true (d : DG) (f : Fld) : Fld.bd d true f = true := by cases f <;> simp [Fld.bd]
theorem failS_ne (st : WS) : (failS st 51).2 ≠ 0 := by
  unfold failS; split
  · show (51 : Int) ≠ 0; decide
  · assumption
theorem st_bad (d : DG) (hd : d.Ok) (st : WS) (bad : Bool) (f : Fld) (h : ¬ okF d f) : (Fld.st d st f).2 ≠ 0 ∨ Fld.bd d bad f = true := by
  cases f with
  | nonce => right; have h' : ¬ d.nonce.size = 16 := h; simp [Fld.bd, h']
  | zeros => exact absurd trivial h
  | epoch => exact absurd trivial h
  | cookie => right; have h' : ¬ d.cookie.size = 32 := h; simp [Fld.bd, h']
  | name => left; have h' : ¬ d.name.size ≤ 255 := h; simp only [Fld.st]; unfold textS; rw [if_neg h']; exact failS_ne st
  | tag => right; have h' : ¬ d.tag.size = 32 := h; simp [Fld.bd, h']
  | session => exact absurd trivial h
  | salt => right; have h' : ¬ d.salt.size = 16 := h; simp [Fld.bd, h']
  | seq => exact absurd trivial h
  | player =>
    have h' : ¬ (0 ≤ d.player ∧ d.player < 256) := h
    by_cases h0 : d.player < 0
    · right; simp [Fld.bd, h0]
    · left
      have := hd.player
      simp only [Fld.st]
      rw [wrapN_small (by omega) (by omega)]
      unfold numS
      rw [if_neg (by simp; omega)]
      exact failS_ne st
  | data => exact absurd trivial h
  | command =>
    left
    have h' : ¬ ((-128 ≤ d.throttle ∧ d.throttle < 128) ∧ (-128 ≤ d.turn ∧ d.turn < 128)) := h
    simp only [Fld.st]
    unfold cmdS
    by_cases h1 : -128 ≤ d.throttle ∧ d.throttle < 128
    · have h2 : ¬ (-128 ≤ d.turn ∧ d.turn < 128) := fun h2 => h' ⟨h1, h2⟩
      have : (sgn1 (sgn1 st d.throttle) d.turn).2 ≠ 0 := by rw [show sgn1 (sgn1 st d.throttle) d.turn = failS (sgn1 st d.throttle) 51 from by unfold sgn1; rw [if_neg h2]]; exact failS_ne _
      rw [layS_err this]; exact this
    · have : (sgn1 st d.throttle).2 ≠ 0 := by rw [show sgn1 st d.throttle = failS st 51 from by unfold sgn1; rw [if_neg h1]]; exact failS_ne _
      rw [sgn1_err this, layS_err this]; exact this

theorem sts_ok (d : DG) (hd : d.Ok) (bad : Bool) : ∀ (l : List Fld) (out : List UInt8), (∀ f ∈ l, okF d f) → stsF d (out, 0) l = (out ++ l.flatMap (fb d), 0) ∧ bdsF d bad l = bad
  | [], out, _ => ⟨by simp [stsF], rfl⟩
  | f :: r, out, h => by
    obtain ⟨h1, h2⟩ := st_ok d hd out bad f (h f (by simp))
    obtain ⟨h3, h4⟩ := sts_ok d hd bad r (out ++ fb d f) (fun g hg => h g (by simp [hg]))
    constructor
    · show stsF d (Fld.st d (out, 0) f) r = _
      rw [h1, h3]; simp
    · show bdsF d (Fld.bd d bad f) r = _
      rw [h2, h4]
theorem sts_err (d : DG) : ∀ (l : List Fld) (st : WS), st.2 ≠ 0 → stsF d st l = st
  | [], st, _ => rfl
  | f :: r, st, h => by show stsF d (Fld.st d st f) r = st; rw [st_err d h]; exact sts_err d r st h
theorem bds_true (d : DG) : ∀ (l : List Fld), bdsF d true l = true
  | [] => rfl
  | f :: r => by show bdsF d (Fld.bd d true f) r = true; rw [bd_true]; exact bds_true d r
theorem sts_bad (d : DG) (hd : d.Ok) : ∀ (l : List Fld) (st : WS) (bad : Bool), (∃ f ∈ l, ¬ okF d f) → (stsF d st l).2 ≠ 0 ∨ bdsF d bad l = true
  | [], _, _, h => by obtain ⟨f, hf, _⟩ := h; simp at hf
  | f :: r, st, bad, h => by
    show (stsF d (Fld.st d st f) r).2 ≠ 0 ∨ bdsF d (Fld.bd d bad f) r = true
    by_cases hf : okF d f
    · refine sts_bad d hd r _ _ ?_
      obtain ⟨g, hg, hn⟩ := h
      rcases List.mem_cons.1 hg with rfl | hg
      · exact absurd hf hn
      · exact ⟨g, hg, hn⟩
    · rcases st_bad d hd st bad f hf with h1 | h1
      · left; rw [sts_err d r _ h1]; exact h1
      · right; rw [h1]; exact bds_true d r

/-- The bytes of a datagram. -/
def wire (d : DG) : List UInt8 := magicB ++ (UInt8.ofNat d.kind.toNat :: (flds d.kind).flatMap (fb d))
/-- What Encode gives, as the document says it. -/
theorem encode_ok (d : DG) (hd : d.Ok) (h1 : 1 ≤ d.kind) (h7 : d.kind ≤ 7) (hok : ∀ f ∈ flds d.kind, okF d f) : encode d = if 1200 < (wire d).length then (⟨#[]⟩, 72) else (⟨(wire d).toArray⟩, 0) := by
  unfold encode
  rw [if_pos ⟨h1, h7⟩]
  have e : headS d = (magicB ++ [UInt8.ofNat d.kind.toNat], 0) := rfl
  obtain ⟨a, b⟩ := sts_ok d hd false (flds d.kind) (magicB ++ [UInt8.ofNat d.kind.toNat]) hok
  rw [e, a, b]
  have e2 : magicB ++ [UInt8.ofNat d.kind.toNat] ++ (flds d.kind).flatMap (fb d) = wire d := by unfold wire; simp
  rw [e2]
  unfold encR doneS
  rw [if_neg (by decide)]
  simp only [if_true]
  rw [if_neg (by simp)]
  rfl
theorem encode_bad (d : DG) (hd : d.Ok) (h1 : 1 ≤ d.kind) (h7 : d.kind ≤ 7) (hbad : ∃ f ∈ flds d.kind, ¬ okF d f) : encode d = (⟨#[]⟩, 73) := by
  unfold encode
  rw [if_pos ⟨h1, h7⟩]
  unfold encR
  rcases sts_bad d hd (flds d.kind) (headS d) false hbad with h | h
  · split
    · rfl
    · rw [if_pos]
      unfold doneS
      rw [if_neg h]
      exact h
  · rw [if_pos h]
/-- Encode gives no error just where all is as it must be. -/
theorem encode_zero (d : DG) (hd : d.Ok) (h : (encode d).2 = 0) : (1 ≤ d.kind ∧ d.kind ≤ 7) ∧ (∀ f ∈ flds d.kind, okF d f) ∧ (wire d).length ≤ 1200 ∧ (encode d).1 = ⟨(wire d).toArray⟩ := by
  by_cases hk : 1 ≤ d.kind ∧ d.kind ≤ 7
  · by_cases hok : ∀ f ∈ flds d.kind, okF d f
    · have e := encode_ok d hd hk.1 hk.2 hok
      rw [e] at h ⊢
      by_cases hl : 1200 < (wire d).length
      · rw [if_pos hl] at h; exact absurd h (by decide)
      · rw [if_neg hl]; exact ⟨hk, hok, by omega, rfl⟩
    · have hex : ∃ f ∈ flds d.kind, ¬ okF d f := by
        refine Classical.byContradiction fun hn => hok fun f hf => Classical.byContradiction fun hno => hn ⟨f, hf, hno⟩
      rw [encode_bad d hd hk.1 hk.2 hex] at h
      exact absurd h (by decide)
  · unfold encode at h; rw [if_neg hk] at h; exact absurd h (by decide)
end Go.Proofs.YtejlffeiebfboaaGreatDoor.Law
