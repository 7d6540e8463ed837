/- The program's mac.Same compares two texts. -/
import Derived.Test.YtejlffeiebfboaaGreatDoorMac
set_option linter.unusedVariables false
set_option linter.unusedSimpArgs false
namespace Go.Proofs.YtejlffeiebfboaaGreatDoor.Mac
open Go Go.RowKit Go.Proofs.YtejlffeiebfboaaGreatDoor.Sha Go.Proofs.YtejlffeiebfboaaGreatDoor.Num Go.Proofs.YtejlffeiebfboaaGreatDoor.Mem Go.Proofs.YtejlffeiebfboaaGreatDoor.Mix Go.Proofs.YtejlffeiebfboaaGreatDoor.ShaWalk

/-- What differs in the first k bytes. -/
def diff (a b : List UInt8) : Nat → UInt8
  | 0 => 0
  | k + 1 => diff a b k ||| (a.getD k 0 ^^^ b.getD k 0)
theorem or_zero (x y : UInt8) : (x ||| y) = 0 ↔ x = 0 ∧ y = 0 := by
  constructor
  · intro h
    have h2 : x.toBitVec ||| y.toBitVec = 0#8 := by have := congrArg UInt8.toBitVec h; simpa using this
    have h3 := BitVec.or_eq_zero_iff.1 h2
    exact ⟨UInt8.eq_of_toBitVec_eq h3.1, UInt8.eq_of_toBitVec_eq h3.2⟩
  · rintro ⟨rfl, rfl⟩; rfl
theorem xor_zero (x y : UInt8) : (x ^^^ y) = 0 ↔ x = y := by
  constructor
  · intro h
    have h2 : x.toBitVec ^^^ y.toBitVec = 0#8 := by have := congrArg UInt8.toBitVec h; simpa using this
    exact UInt8.eq_of_toBitVec_eq (BitVec.xor_eq_zero_iff.1 h2)
  · rintro rfl; simp
theorem diff_zero (a b : List UInt8) (k : Nat) : diff a b k = 0 ↔ ∀ i, i < k → a.getD i 0 = b.getD i 0 := by
  induction k with
  | zero => simp [diff]
  | succ k ih =>
    rw [diff, or_zero, xor_zero, ih]
    constructor
    · rintro ⟨h1, h2⟩ i hi
      rcases Nat.lt_or_ge i k with h | h
      · exact h1 i h
      · have : i = k := by omega
        subst this; exact h2
    · intro h; exact ⟨fun i hi => h i (by omega), h k (by omega)⟩
theorem diff_eq (a b : List UInt8) (h : a.length = b.length) : diff a b a.length = 0 ↔ a = b := by
  rw [diff_zero]
  constructor
  · intro hh
    apply List.ext_getElem h
    intro i h1 h2
    have := hh i h1
    simpa [List.getD, h1, h2] using this
  · rintro rfl i _; rfl
theorem or8 (c d : UInt8) : bits .or .u8 (c.toNat : Int) (d.toNat : Int) = ((c ||| d).toNat : Int) := by
  have h : ∀ c : UInt8, BitVec.ofInt (IntKind.bits .u8) (c.toNat : Int) = c.toBitVec := by
    intro c; apply BitVec.eq_of_toNat_eq; simp [IntKind.bits]
  unfold bits
  simp only [h]
  show IntKind.wrap .u8 (((c.toBitVec ||| d.toBitVec).toNat : Nat) : Int) = _
  rw [IntWalk.u8_in _ (by have := (c.toBitVec ||| d.toBitVec).isLt; omega)]
  rfl

set_option maxRecDepth 100000
set_option maxHeartbeats 2000000 in
theorem same_any (a b : ByteArray) (w : World) (ha : a.size < 300000000000000000) (hb : b.size < 300000000000000000) :
    Calls Tryz.prog 39 #[.string a, .string b] w fun e w' => e = .returned (.bool (decide (a = b))) ∧ Chg (fun _ => False) w w' := by
  by_cases hne : a.size = b.size
  · have hI : ((a.size : Int) != (b.size : Int)) = false := by simp [hne]
    have HA := Lib.hid ha
    have HN := Lib.hid hne
    clear ha hb hne
    go_enter Tryz.func39, Tryz.ntmps39
    go_wp2
    have h0 : Value.int .u8 0 = .int .u8 ((diff (bs a) (bs b) 0).toNat : Int) := rfl
    have hAI : (a.size : Int) < 300000000000000000 := by have := HA.out; omega
    go_loopw [5, 14] (fun d i wr => ∃ k : Nat, k ≤ a.size ∧ i = .int .i64 k ∧ d = .int .u8 ((diff (bs a) (bs b) k).toNat : Int) ∧ Chg (fun _ => False) w wr) (fun _ i _ => a.size - (intOf i).toNat)
    case atStart => exact ⟨0, by omega, rfl, h0, Chg.refl _ _⟩
    case round =>
      clear h0
      obtain ⟨k, hk, rfl, rfl, hC⟩ := hrel
      by_cases hlt : k < a.size
      · have hltb : k < b.size := by rw [← HN.out]; exact hlt
        have hl1 : (k : Int) < (a.size : Int) := by omega
        have hl2 : (k : Int) < (b.size : Int) := by omega
        have hD : Hid (diff (bs a) (bs b) (k + 1) = diff (bs a) (bs b) k ||| ((bs a).getD k 0 ^^^ (bs b).getD k 0)) := rfl
        have ea : (bs a).getD k 0 = a[k] := by simp [bs, List.getD, hlt]; rfl
        have eb : (bs b).getD k 0 = b[k] := by simp [bs, List.getD, hltb]; rfl
        rw [ea, eb] at hD
        clear ea eb
        generalize diff (bs a) (bs b) k = d at *
        have x1 : bits .xor .u8 (a[k].toNat : Int) (b[k].toNat : Int) = ((a[k] ^^^ b[k]).toNat : Int) := xor8 _ _
        generalize a[k] ^^^ b[k] = x at x1 hD
        have x2 : bits .or .u8 (d.toNat : Int) (x.toNat : Int) = ((d ||| x).toNat : Int) := or8 _ _
        generalize d ||| x = d2 at x2 hD
        go_wp2
        go_quiet (fail)
        go_wp2
        go_roundw
        case rel => exact ⟨k + 1, by omega, by go_num, by rw [hD.out], hC.drewN _⟩
        case measure => simp [intOf]; omega
      · have ek : k = a.size := by omega
        have hE : Hid ((((diff (bs a) (bs b) k).toNat : Int) == 0) = decide (a = b)) := by
          show _ = _
          rw [ek, ← bs_length]
          have h := diff_eq (bs a) (bs b) (by rw [bs_length, bs_length]; exact HN.out)
          by_cases hab : a = b
          · subst hab; rw [h.2 rfl]; simp
          · have : diff (bs a) (bs b) (bs a).length ≠ 0 := fun e => hab (bs_inj (h.1 e))
            have h2 : (diff (bs a) (bs b) (bs a).length).toNat ≠ 0 := fun e => this (UInt8.toNat_inj.1 (by simpa using e))
            simp [hab]; omega
        clear ek
        go_wp2
        go_ret
        exact ⟨ret_eq (by rw [← hE.out]; rfl), hC⟩
  · have hI : ((a.size : Int) != (b.size : Int)) = true := by simp; omega
    have e : (decide (a = b)) = false := by simp; intro h; exact hne (by rw [h])
    rw [e]
    clear e ha hb hne
    go_enter Tryz.func39, Tryz.ntmps39
    go_wp2
    go_ret
    exact ⟨rfl, Chg.refl _ _⟩
end Go.Proofs.YtejlffeiebfboaaGreatDoor.Mac
