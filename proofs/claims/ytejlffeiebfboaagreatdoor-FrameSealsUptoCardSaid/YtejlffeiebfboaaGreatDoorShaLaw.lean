/- Plain laws on SHA-256's blocks: what is taken in of a text that grows. -/
import Derived.Test.YtejlffeiebfboaaGreatDoorSha
set_option linter.unusedVariables false
set_option linter.unusedSimpArgs false
namespace Go.Proofs.YtejlffeiebfboaaGreatDoor.Sha

theorem absorbN_append (n : Nat) : ∀ (s : St) (m r : List UInt8), 64 * n ≤ m.length → absorbN n s (m ++ r) = absorbN n s m := by
  induction n with
  | zero => intro s m r _; rfl
  | succ n ih =>
    intro s m r h
    simp only [absorbN]
    rw [List.take_append_of_le_length (by omega), List.drop_append_of_le_length (by omega)]
    exact ih _ _ _ (by simp; omega)
theorem absorbN_succ (n : Nat) : ∀ (s : St) (m : List UInt8), absorbN (n + 1) s m = compress (absorbN n s m) ((m.drop (64 * n)).take 64) := by
  induction n with
  | zero => intro s m; simp [absorbN]
  | succ n ih =>
    intro s m
    rw [absorbN, ih]
    simp only [absorbN, List.drop_drop]
    rw [show 64 + 64 * n = 64 * (n + 1) by omega]

/-- What is not yet taken in. -/
def pend (m : List UInt8) : List UInt8 := m.drop (m.length / 64 * 64)
theorem pend_length (m : List UInt8) : (pend m).length = m.length % 64 := by unfold pend; simp; omega

theorem absorb_short (s : St) (m r : List UInt8) (h : m.length % 64 + r.length < 64) : absorb s (m ++ r) = absorb s m := by
  unfold absorb
  have e : (m ++ r).length / 64 = m.length / 64 := by simp; omega
  rw [e, absorbN_append _ _ _ _ (by omega)]
theorem pend_short (m r : List UInt8) (h : m.length % 64 + r.length < 64) : pend (m ++ r) = pend m ++ r := by
  unfold pend
  have e : (m ++ r).length / 64 = m.length / 64 := by simp; omega
  rw [e, List.drop_append_of_le_length (by omega)]
theorem absorb_full (s : St) (m r : List UInt8) (h : m.length % 64 + r.length = 64) : absorb s (m ++ r) = compress (absorb s m) (pend m ++ r) := by
  unfold absorb
  have e : (m ++ r).length / 64 = m.length / 64 + 1 := by simp; omega
  rw [e, absorbN_succ, absorbN_append _ _ _ _ (by omega), show 64 * (m.length / 64) = m.length / 64 * 64 by omega, List.drop_append_of_le_length (by omega)]
  congr 1
  apply List.take_of_length_le
  simp; omega
theorem pend_full (m r : List UInt8) (h : m.length % 64 + r.length = 64) : pend (m ++ r) = [] := by
  apply List.eq_nil_of_length_eq_zero
  rw [pend_length]; simp; omega

theorem beBytes_length (n x : Nat) : (beBytes n x).length = n := by simp [beBytes]
theorem tail_length (n : Nat) : (n + (tail n).length) % 64 = 0 := by
  unfold tail; simp [beBytes_length]; omega
theorem digest_length (s : St) : (digest s).length = 32 := rfl
theorem hash_length (m : List UInt8) : (hash m).length = 32 := rfl
end Go.Proofs.YtejlffeiebfboaaGreatDoor.Sha
