/- The plain law of FrameLengths: a head with like bytes behind it. -/
import Derived.Test.YtejlffeiebfboaaGreatDoorBack3
set_option linter.unusedVariables false
set_option linter.unusedSimpArgs false
namespace Go.Proofs.YtejlffeiebfboaaGreatDoor.Law
open Go Go.RowKit Go.Proofs.YtejlffeiebfboaaGreatDoor.Mem Go.Proofs.YtejlffeiebfboaaGreatDoor.PackW Go.Proofs.YtejlffeiebfboaaGreatDoor.PackR Go.Proofs.YtejlffeiebfboaaGreatDoor.Put Go.Proofs.YtejlffeiebfboaaGreatDoor.Get

/-- How many of m like bytes a field takes. -/
def takeN (c : UInt8) (m : Nat) : Fld → Option Nat
  | .nonce => if 16 ≤ m then some 16 else none
  | .zeros => if 76 ≤ m then some 76 else none
  | .epoch => if 8 ≤ m then some 8 else none
  | .cookie => if 32 ≤ m then some 32 else none
  | .name => if 1 ≤ m ∧ 1 + c.toNat ≤ m then some (1 + c.toNat) else none
  | .tag => if 32 ≤ m then some 32 else none
  | .session => if 8 ≤ m then some 8 else none
  | .salt => if 16 ≤ m then some 16 else none
  | .seq => if 8 ≤ m then some 8 else none
  | .player => if 1 ≤ m then some 1 else none
  | .data => if 32 ≤ m then some (m - 32) else none
  | .command => if 3 ≤ m then some 3 else none
def badN (c : UInt8) (b : Bool) : Fld → Bool
  | .zeros => decide (c ≠ 0)
  | .command => decide (3 < c.toNat)
  | _ => b
def runN (c : UInt8) : List Fld → Nat → Bool → Option (Nat × Bool)
  | [], m, b => some (m, b)
  | f :: t, m, b => match takeN c m f with
    | none => none
    | some j => runN c t (m - j) (badN c b f)
def errN : Option (Nat × Bool) → Int
  | none => 72
  | some (m, b) => if 0 < m then 72 else if b = true then 73 else 0

theorem trim_rep (c : UInt8) (n : Nat) (h : c ≠ 0) : Lib.trimB (List.replicate (n + 1) c) 0 = List.replicate (n + 1) c := by
  unfold Lib.trimB Lib.trimLeftB Lib.trimRightB
  have hc : (c == 0) = false := by simpa using h
  rw [List.reverse_replicate, List.replicate_succ, List.dropWhile_cons, hc]
  simp only [Bool.false_eq_true, if_false]
  rw [← List.replicate_succ, List.reverse_replicate, List.replicate_succ, List.dropWhile_cons, hc]
  simp
theorem rep_ext {s : ByteArray} {c : UInt8} {m : Nat} (h : bs s = List.replicate m c) (j : Nat) (hj : j ≤ m) : bs (s.extract j s.size) = List.replicate (m - j) c := by
  have hz := size_of h
  rw [List.length_replicate] at hz
  rw [bs_ext, h, List.take_replicate, List.drop_replicate]
  congr 1; omega
theorem take_rep {s : ByteArray} {c : UInt8} {m : Nat} (h : bs s = List.replicate m c) (f : Fld) : Fld.take s f = takeN c m f := by
  have hz := size_of h
  rw [List.length_replicate] at hz
  have hf : 1 ≤ m → fstN s = c.toNat := by
    intro h1
    unfold fstN
    obtain ⟨k, rfl⟩ : ∃ k, m = k + 1 := ⟨m - 1, by omega⟩
    rw [h, List.replicate_succ, num_one]
  cases f <;> simp only [Fld.take, takeN, hz]
  by_cases h1 : 1 ≤ m
  · rw [hf h1]
  · rw [if_neg (fun e => h1 e.1), if_neg (fun e => h1 e.1)]
theorem bad_rep {s : ByteArray} {c : UInt8} {m : Nat} (h : bs s = List.replicate m c) (f : Fld) (b : Bool) (j : Nat) (hj : takeN c m f = some j) : Fld.rbad b s f = badN c b f := by
  cases f <;> simp only [Fld.rbad, badN]
  case zeros =>
    simp only [takeN] at hj
    split at hj
    · rename_i h76
      have e : (s.extract 0 76).data.toList = List.replicate (75 + 1) c := by
        show bs (s.extract 0 76) = _
        rw [bs_ext, h, List.take_replicate, List.drop_replicate]
        congr 1; omega
      rw [isEmpty_of]
      unfold trim0
      rw [e]
      by_cases hc : c = 0
      · subst hc
        have : Lib.trimB (List.replicate (75 + 1) (0 : UInt8)) 0 = [] := by decide +kernel
        rw [this]; decide
      · rw [trim_rep c 75 hc, size_of (bs_mk _)]
        simp [hc]
    · cases hj
  case command =>
    simp only [takeN] at hj
    split at hj
    · rename_i h3
      have e : cmd2 s = c.toNat := by
        unfold cmd2 fstN
        have h1 := rep_ext h 1 (by omega)
        have h2 : bs (tail1 (tail1 s)) = List.replicate (m - 1 - 1) c := rep_ext (s := tail1 s) h1 1 (by omega)
        rw [h2]
        obtain ⟨k, hk⟩ : ∃ k, m - 1 - 1 = k + 1 := ⟨m - 3, by omega⟩
        rw [hk, List.replicate_succ, num_one]
      rw [e, decide_eq_decide]
      omega
    · cases hj
theorem take_le (c : UInt8) (m : Nat) (f : Fld) (j : Nat) (h : takeN c m f = some j) : j ≤ m := by
  cases f <;> simp only [takeN] at h <;> split at h <;> cases h <;> omega
theorem run_rep (c : UInt8) : ∀ (l : List Fld) (d : DG) (s : ByteArray) (m : Nat) (b : Bool), bs s = List.replicate m c → (decR (rdF l d s b)).2 = errN (runN c l m b)
  | [], d, s, m, b, h => by
    have hz := size_of h
    rw [List.length_replicate] at hz
    simp only [rdF, decR, runN, errN, hz]
    split
    · rfl
    · split <;> rfl
  | f :: t, d, s, m, b, h => by
    simp only [rdF, runN]
    rw [take_rep h f]
    cases hj : takeN c m f with
    | none => rfl
    | some j =>
      simp only
      rw [bad_rep h f b j hj]
      exact run_rep c t _ _ (m - j) _ (rep_ext h j (take_le c m f j hj))

/-- The fewest bytes of a kind. -/
def leastK (k : Int) : Nat := if k = 1 then 96 else if k = 2 then 60 else if k = 3 then 93 else if k = 4 then 77 else if k = 5 then 55 else 52
/-- What FrameLengths says. -/
def wantN (k : Int) (n : Nat) (c : UInt8) : Int :=
  if 1200 < 4 + n then 72 else if k < 1 ∨ 7 < k then 71
  else if (k = 3 ∧ (4 + n < 93 ∨ 4 + n ≠ 93 + c.toNat)) ∨ (k = 6 ∧ 4 + n < 52) ∨ ((k ≠ 3 ∧ k ≠ 6) ∧ 4 + n ≠ leastK k) then 72
  else if (k = 1 ∧ c ≠ 0) ∨ (k = 5 ∧ 3 < c.toNat) then 73 else 0
/-- The bytes that a field takes, but the data. -/
def szN (c : UInt8) : Fld → Nat
  | .nonce => 16 | .zeros => 76 | .epoch => 8 | .cookie => 32 | .name => 1 + c.toNat | .tag => 32 | .session => 8 | .salt => 16 | .seq => 8 | .player => 1 | .data => 0 | .command => 3
theorem takeN_sz (c : UInt8) (m : Nat) (f : Fld) (h : f ≠ .data) : takeN c m f = if szN c f ≤ m then some (szN c f) else none := by
  cases f with
  | data => exact absurd rfl h
  | name =>
    show (if 1 ≤ m ∧ 1 + c.toNat ≤ m then some (1 + c.toNat) else none) = (if 1 + c.toNat ≤ m then some (1 + c.toNat) else none)
    by_cases a : 1 + c.toNat ≤ m
    · rw [if_pos a, if_pos ⟨by omega, a⟩]
    · rw [if_neg a, if_neg (fun e => a e.2)]
  | nonce => rfl
  | zeros => rfl
  | epoch => rfl
  | cookie => rfl
  | tag => rfl
  | session => rfl
  | salt => rfl
  | seq => rfl
  | player => rfl
  | command => rfl
def sumN (c : UInt8) : List Fld → Nat
  | [] => 0
  | f :: t => szN c f + sumN c t
def badsN (c : UInt8) : List Fld → Bool → Bool
  | [], b => b
  | f :: t, b => badsN c t (badN c b f)
theorem runN_sum (c : UInt8) : ∀ (l : List Fld) (m : Nat) (b : Bool), (∀ f ∈ l, f ≠ .data) → runN c l m b = if sumN c l ≤ m then some (m - sumN c l, badsN c l b) else none
  | [], m, b, _ => by simp [runN, sumN, badsN]
  | f :: t, m, b, h => by
    have e1 : sumN c (f :: t) = szN c f + sumN c t := rfl
    have e2 : badsN c (f :: t) b = badsN c t (badN c b f) := rfl
    rw [e1, e2]
    simp only [runN]
    rw [takeN_sz c m f (h f (by simp))]
    by_cases a : szN c f ≤ m
    · rw [if_pos a]
      simp only
      rw [runN_sum c t _ _ (fun g hg => h g (by simp [hg]))]
      by_cases b2 : sumN c t ≤ m - szN c f
      · rw [if_pos b2, if_pos (by omega)]
        congr 2; omega
      · rw [if_neg b2, if_neg (by omega)]
    · rw [if_neg a, if_neg (by omega)]
theorem err_sum (S n : Nat) (B : Bool) : errN (if S ≤ n then some (n - S, B) else none) = if n ≠ S then 72 else if B = true then 73 else 0 := by
  by_cases a : S ≤ n
  · rw [if_pos a]
    simp only [errN]
    by_cases b : n = S
    · rw [if_neg (show ¬ 0 < n - S by omega), if_neg (show ¬ n ≠ S from fun h => h b)]
    · rw [if_pos (show 0 < n - S by omega), if_pos (show n ≠ S from b)]
  · rw [if_neg a, if_pos (show n ≠ S by omega)]; rfl
theorem run_want (k : Int) (h1 : 1 ≤ k) (h7 : k ≤ 7) (n : Nat) (c : UInt8) (hn : ¬ 1200 < 4 + n) : errN (runN c (flds k) n false) = wantN k n c := by
  have hc := c.toNat_lt
  have hk : k = 1 ∨ k = 2 ∨ k = 3 ∨ k = 4 ∨ k = 5 ∨ k = 6 ∨ k = 7 := by omega
  unfold wantN
  rw [if_neg hn, if_neg (by omega)]
  have fixd : ∀ (k : Int) (S : Nat) (B : Bool), sumN c (flds k) = S → badsN c (flds k) false = B → (∀ f ∈ flds k, f ≠ .data) → errN (runN c (flds k) n false) = if n ≠ S then 72 else if B = true then 73 else 0 := by
    intro k S B hS hB hd
    rw [runN_sum c _ _ _ hd, hS, hB, err_sum]
  rcases hk with rfl | rfl | rfl | rfl | rfl | rfl | rfl
  · rw [fixd 1 92 (decide (c ≠ 0)) rfl rfl (by simp [flds])]
    have hl : leastK 1 = 96 := rfl
    by_cases a : n = 92
    · subst a; simp [hl]
    · have a2 : ¬ 4 + n = 96 := by omega
      simp [a, a2, hl]
  · rw [fixd 2 56 false rfl rfl (by simp [flds])]
    have hl : leastK 2 = 60 := rfl
    by_cases a : n = 56
    · subst a; simp [hl]
    · have a2 : ¬ 4 + n = 60 := by omega
      simp [a, a2, hl]
  · rw [fixd 3 (89 + c.toNat) false (by show 16 + (8 + (32 + (1 + c.toNat + (32 + 0)))) = _; omega) rfl (by simp [flds])]
    by_cases a : n = 89 + c.toNat
    · have a1 : ¬ 4 + n < 93 := by omega
      have a2 : 4 + n = 93 + c.toNat := by omega
      simp [a1, a2]; omega
    · have a2 : ¬ 4 + n = 93 + c.toNat := by omega
      simp [a, a2]
  · rw [fixd 4 73 false rfl rfl (by simp [flds])]
    have hl : leastK 4 = 77 := rfl
    by_cases a : n = 73
    · subst a; simp [hl]
    · have a2 : ¬ 4 + n = 77 := by omega
      simp [a, a2, hl]
  · rw [fixd 5 51 (decide (3 < c.toNat)) rfl rfl (by simp [flds])]
    have hl : leastK 5 = 55 := rfl
    by_cases a : n = 51
    · subst a; simp [hl]
    · have a2 : ¬ 4 + n = 55 := by omega
      simp [a, a2, hl]
  · have e : flds 6 = [.session, .seq, .data, .tag] := rfl
    rw [e]
    simp only [runN, takeN]
    by_cases a : 48 ≤ n
    · have a1 : ¬ 4 + n < 52 := by omega
      rw [if_pos (show 8 ≤ n by omega)]; simp only
      rw [if_pos (show 8 ≤ n - 8 by omega)]; simp only
      rw [if_pos (show 32 ≤ n - 8 - 8 by omega)]; simp only
      rw [if_pos (show 32 ≤ n - 8 - 8 - (n - 8 - 8 - 32) by omega)]
      have hz : n - 8 - 8 - (n - 8 - 8 - 32) - 32 = 0 := by omega
      simp only [hz]
      simp [a1, errN, badN]
    · have a1 : 4 + n < 52 := by omega
      have e72 : errN (match (if 8 ≤ n then some 8 else none : Option Nat) with
          | none => none
          | some j => match (if 8 ≤ n - j then some 8 else none : Option Nat) with
            | none => none
            | some j_1 => match (if 32 ≤ n - j - j_1 then some (n - j - j_1 - 32) else none : Option Nat) with
              | none => none
              | some j_2 => match (if 32 ≤ n - j - j_1 - j_2 then some 32 else none : Option Nat) with
                | none => none
                | some j_3 => some (n - j - j_1 - j_2 - j_3, badN c (badN c (badN c (badN c false .session) .seq) .data) .tag)) = 72 := by
        by_cases b1 : 8 ≤ n
        · rw [if_pos b1]; simp only
          by_cases b2 : 8 ≤ n - 8
          · rw [if_pos b2]; simp only; rw [if_neg (show ¬ 32 ≤ n - 8 - 8 by omega)]; rfl
          · rw [if_neg b2]; rfl
        · rw [if_neg b1]; rfl
      rw [e72]
      simp [a1]
  · rw [fixd 7 48 false rfl rfl (by simp [flds])]
    have hl : leastK 7 = 52 := rfl
    by_cases a : n = 48
    · subst a; simp [hl]
    · have a2 : ¬ 4 + n = 52 := by omega
      simp [a, a2, hl]

/-- A head, a kind and like bytes. -/
def likeL (k : UInt8) (n : Nat) (c : UInt8) : List UInt8 := [74, 48, 49, k] ++ List.replicate n c
theorem decode_like (s : ByteArray) (k : UInt8) (n : Nat) (c : UInt8) (h : bs s = likeL k n c) : (Get.decode s).2 = wantN k.toNat n c := by
  have hz : s.size = 4 + n := by rw [size_of h]; simp [likeL]; omega
  have hdl : s.data.toList = likeL k n c := h
  have hm : hasMagic s = true := by unfold hasMagic Lib.hasPrefix; rw [hdl]; rfl
  have hbody : bs (bodyS s) = k :: List.replicate n c := by
    unfold bodyS
    rw [bs_mk]
    unfold Lib.trimPrefix
    have : Lib.hasPrefix s.data.toList [74, 48, 49] = true := hm
    rw [if_pos this, hdl]; rfl
  have hkb : kindB (bodyS s) = k.toNat := by unfold kindB; rw [hbody]; rfl
  have hbz : (bodyS s).size = n + 1 := by rw [size_of hbody]; simp
  unfold Get.decode
  by_cases c1 : 1200 < s.size
  · rw [if_pos c1]; unfold wantN; rw [if_pos (by omega)]
  rw [if_neg c1, if_neg (by rw [hm]; decide), hkb]
  by_cases c2 : (bodyS s).size = 0 ∨ ¬ (1 ≤ (k.toNat : Int) ∧ (k.toNat : Int) ≤ 7)
  · rw [if_pos c2]; unfold wantN; rw [if_neg (by omega), if_pos (by omega)]
  rw [if_neg c2]
  have ht : bs (tail1 (bodyS s)) = List.replicate n c := ext_tail (l := [k]) hbody rfl
  rw [run_rep c _ _ _ n false ht]
  exact run_want k.toNat (by omega) (by omega) n c (by omega)
theorem decode_head3 (s : ByteArray) (h : bs s = [74, 48, 49]) : (Get.decode s).2 = 71 := by
  have : s = ⟨#[74, 48, 49]⟩ := by rw [← mk_bs s, h]
  rw [this]; decide +kernel
theorem decode_head2 (s : ByteArray) (h : bs s = [74, 48]) : (Get.decode s).2 = 70 := by
  have : s = ⟨#[74, 48]⟩ := by rw [← mk_bs s, h]
  rw [this]; decide +kernel
theorem decode_j (s : ByteArray) (l : List UInt8) (h : bs s = 106 :: l) : (Get.decode s).2 = if 1200 < s.size then 72 else 70 := by
  have hm : hasMagic s = false := by
    unfold hasMagic Lib.hasPrefix
    have hdl : s.data.toList = 106 :: l := h
    rw [hdl]; rfl
  unfold Get.decode
  by_cases c1 : 1200 < s.size
  · rw [if_pos c1, if_pos c1]
  · rw [if_neg c1, if_neg c1, if_pos hm]
end Go.Proofs.YtejlffeiebfboaaGreatDoor.Law
