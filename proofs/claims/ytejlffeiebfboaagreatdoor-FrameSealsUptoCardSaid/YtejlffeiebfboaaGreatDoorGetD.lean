/- The program's frame: the readers of the fields, by field. -/
import Derived.Test.YtejlffeiebfboaaGreatDoorGetG
set_option linter.unusedVariables false
set_option linter.unusedSimpArgs false
namespace Go.Proofs.YtejlffeiebfboaaGreatDoor.Get
open Go Go.RowKit Go.Proofs.YtejlffeiebfboaaGreatDoor.Mem Go.Proofs.YtejlffeiebfboaaGreatDoor.PackW Go.Proofs.YtejlffeiebfboaaGreatDoor.PackR Go.Proofs.YtejlffeiebfboaaGreatDoor.Put

/-- How many bytes a field takes, if there are so many. -/
def Fld.take (s : ByteArray) : Fld → Option Nat
  | .nonce => if 16 ≤ s.size then some 16 else none
  | .zeros => if 76 ≤ s.size then some 76 else none
  | .epoch => if 8 ≤ s.size then some 8 else none
  | .cookie => if 32 ≤ s.size then some 32 else none
  | .name => if 1 ≤ s.size ∧ 1 + fstN s ≤ s.size then some (1 + fstN s) else none
  | .tag => if 32 ≤ s.size then some 32 else none
  | .session => if 8 ≤ s.size then some 8 else none
  | .salt => if 16 ≤ s.size then some 16 else none
  | .seq => if 8 ≤ s.size then some 8 else none
  | .player => if 1 ≤ s.size then some 1 else none
  | .data => if 32 ≤ s.size then some (s.size - 32) else none
  | .command => if 3 ≤ s.size then some 3 else none
/-- The datagram behind it. -/
def Fld.upd (d : DG) (s : ByteArray) : Fld → DG
  | .nonce => { d with nonce := s.extract 0 16 }
  | .zeros => d
  | .epoch => { d with epoch := num ((bs s).take 8) }
  | .cookie => { d with cookie := s.extract 0 32 }
  | .name => { d with name := s.extract 1 (1 + fstN s) }
  | .tag => { d with tag := s.extract 0 32 }
  | .session => { d with session := num ((bs s).take 8) }
  | .salt => { d with salt := s.extract 0 16 }
  | .seq => { d with seq := num ((bs s).take 8) }
  | .player => { d with player := (fstN s : Int) }
  | .data => { d with data := s.extract 0 (s.size - 32) }
  | .command => { d with throttle := cmd0 s, turn := cmd1 s, fire := hasBit (cmd2 s) 1, boost := hasBit (cmd2 s) 2 }
/-- Is a field bad? -/
def Fld.rbad (bad : Bool) (s : ByteArray) : Fld → Bool
  | .zeros => !(trim0 s).toList.isEmpty
  | .command => decide ((3 : Int) < (cmd2 s : Int))
  | _ => bad

theorem ext_ext (s : ByteArray) (n : Nat) : (s.extract 1 s.size).extract n (s.extract 1 s.size).size = s.extract (1 + n) s.size := by
  rw [ByteArray.extract_extract, ByteArray.size_extract]
  by_cases h : 1 ≤ s.size
  · congr 1; omega
  · apply bs_inj; rw [bs_ext, bs_ext]
    have : (bs s).length = s.size := bs_length s
    rw [List.drop_eq_nil_of_le (by simp; omega), List.drop_eq_nil_of_le (by simp; omega)]
theorem ext_name (s : ByteArray) (n : Nat) (h : 1 + n ≤ s.size) : (s.extract 1 s.size).extract 0 n = s.extract 1 (1 + n) := by
  rw [ByteArray.extract_extract]; congr 1; omega
theorem tail3 (s : ByteArray) : tail1 (tail1 (tail1 s)) = s.extract 3 s.size := by
  unfold tail1
  rw [ext_ext s 1]
  rw [ByteArray.extract_extract, ByteArray.size_extract]
  by_cases h : 2 ≤ s.size
  · congr 1; omega
  · apply bs_inj; rw [bs_ext, bs_ext]
    have : (bs s).length = s.size := bs_length s
    rw [List.drop_eq_nil_of_le (by simp; omega), List.drop_eq_nil_of_le (by simp; omega)]

theorem get_ok (f : Fld) (rb br : Nat) (d : DG) (s : ByteArray) (bad : Bool) (n : Nat) (hn : Fld.take s f = some n) (w : World) (h : IsG w rb br d s bad) :
    Calls Tryz.prog f.getF #[.pointer (some ⟨rb, 0, none⟩)] w fun e w' => e = .returned (.tuple #[]) ∧ IsG w' rb br (Fld.upd d s f) (s.extract n s.size) (Fld.rbad bad s f) ∧ Chg (fun k => k = rb ∨ k = br) w w' := by
  cases f with
  | nonce => simp only [Fld.take] at hn; split at hn <;> cases hn; exact getNonce_ok rb br d s bad (by assumption) w h
  | zeros => simp only [Fld.take] at hn; split at hn <;> cases hn; exact getZeros_ok rb br d s bad (by assumption) w h
  | epoch => simp only [Fld.take] at hn; split at hn <;> cases hn; exact getEpoch_ok rb br d s bad (by assumption) w h
  | cookie => simp only [Fld.take] at hn; split at hn <;> cases hn; exact getCookie_ok rb br d s bad (by assumption) w h
  | name =>
    simp only [Fld.take] at hn; split at hn <;> cases hn
    rename_i hc
    have := getName_ok rb br d s bad hc.1 hc.2 w h
    rw [ext_ext, ext_name s _ hc.2] at this
    exact this
  | tag => simp only [Fld.take] at hn; split at hn <;> cases hn; exact getTag_ok rb br d s bad (by assumption) w h
  | session => simp only [Fld.take] at hn; split at hn <;> cases hn; exact getSession_ok rb br d s bad (by assumption) w h
  | salt => simp only [Fld.take] at hn; split at hn <;> cases hn; exact getSalt_ok rb br d s bad (by assumption) w h
  | seq => simp only [Fld.take] at hn; split at hn <;> cases hn; exact getSeq_ok rb br d s bad (by assumption) w h
  | player => simp only [Fld.take] at hn; split at hn <;> cases hn; exact getPlayer_ok rb br d s bad (by assumption) w h
  | data => simp only [Fld.take] at hn; split at hn <;> cases hn; exact getData_ok rb br d s bad (by assumption) w h
  | command =>
    simp only [Fld.take] at hn; split at hn <;> cases hn
    have := getCommand_ok rb br d s bad (by assumption) w h
    rw [tail3] at this
    exact this
theorem get_short (f : Fld) (rb br : Nat) (d : DG) (s : ByteArray) (bad : Bool) (hn : Fld.take s f = none) (w : World) (h : IsG w rb br d s bad) :
    Calls Tryz.prog f.getF #[.pointer (some ⟨rb, 0, none⟩)] w fun e w' => e = short72 ∧ Chg (fun k => k = rb ∨ k = br) w w' := by
  cases f with
  | nonce => simp only [Fld.take] at hn; split at hn <;> cases hn; exact getNonce_short rb br d s bad (by omega) w h
  | zeros => simp only [Fld.take] at hn; split at hn <;> cases hn; exact getZeros_short rb br d s bad (by omega) w h
  | epoch => simp only [Fld.take] at hn; split at hn <;> cases hn; exact getEpoch_short rb br d s bad (by omega) w h
  | cookie => simp only [Fld.take] at hn; split at hn <;> cases hn; exact getCookie_short rb br d s bad (by omega) w h
  | name =>
    simp only [Fld.take] at hn; split at hn <;> cases hn
    rename_i hc
    by_cases h1 : s.size < 1
    · exact getName_short1 rb br d s bad h1 w h
    · exact getName_short2 rb br d s bad (by omega) (by omega) w h
  | tag => simp only [Fld.take] at hn; split at hn <;> cases hn; exact getTag_short rb br d s bad (by omega) w h
  | session => simp only [Fld.take] at hn; split at hn <;> cases hn; exact getSession_short rb br d s bad (by omega) w h
  | salt => simp only [Fld.take] at hn; split at hn <;> cases hn; exact getSalt_short rb br d s bad (by omega) w h
  | seq => simp only [Fld.take] at hn; split at hn <;> cases hn; exact getSeq_short rb br d s bad (by omega) w h
  | player => simp only [Fld.take] at hn; split at hn <;> cases hn; exact getPlayer_short rb br d s bad (by omega) w h
  | data => simp only [Fld.take] at hn; split at hn <;> cases hn; exact getData_short rb br d s bad (by omega) w h
  | command => simp only [Fld.take] at hn; split at hn <;> cases hn; exact getCommand_short rb br d s bad (by omega) w h
/-- All fields, one behind the other. -/
def rdF : List Fld → DG → ByteArray → Bool → Option (DG × ByteArray × Bool)
  | [], d, s, bad => some (d, s, bad)
  | f :: r, d, s, bad =>
    match Fld.take s f with
    | none => none
    | some n => rdF r (Fld.upd d s f) (s.extract n s.size) (Fld.rbad bad s f)
theorem rdF_some {l : List Fld} {k : Nat} (hk : k < l.length) {d : DG} {s : ByteArray} {bad : Bool} {n : Nat} (h : Fld.take s l[k] = some n) :
    rdF (l.drop k) d s bad = rdF (l.drop (k + 1)) (Fld.upd d s l[k]) (s.extract n s.size) (Fld.rbad bad s l[k]) := by
  rw [List.drop_eq_getElem_cons hk]; simp only [rdF, h]
theorem rdF_none {l : List Fld} {k : Nat} (hk : k < l.length) {d : DG} {s : ByteArray} {bad : Bool} (h : Fld.take s l[k] = none) : rdF (l.drop k) d s bad = none := by
  rw [List.drop_eq_getElem_cons hk]; simp only [rdF, h]
/-- The datagram of nothing. -/
def d0 : DG := ⟨0, ⟨#[]⟩, 0, ⟨#[]⟩, ⟨#[]⟩, 0, 0, ⟨#[]⟩, 0, 0, 0, false, false, ⟨#[]⟩, ⟨#[]⟩⟩
theorem get_enter (f : Fld) (args : Array Value) (w : World) : (callFunc f.getF args).run Tryz.prog w = .ok (.enter f.getF args) w := by
  cases f with
  | nonce => exact call_enters Tryz.func43 (by kernel_rfl) (by kernel_rfl) args w
  | zeros => exact call_enters Tryz.func45 (by kernel_rfl) (by kernel_rfl) args w
  | epoch => exact call_enters Tryz.func47 (by kernel_rfl) (by kernel_rfl) args w
  | cookie => exact call_enters Tryz.func49 (by kernel_rfl) (by kernel_rfl) args w
  | name => exact call_enters Tryz.func51 (by kernel_rfl) (by kernel_rfl) args w
  | tag => exact call_enters Tryz.func53 (by kernel_rfl) (by kernel_rfl) args w
  | session => exact call_enters Tryz.func55 (by kernel_rfl) (by kernel_rfl) args w
  | salt => exact call_enters Tryz.func59 (by kernel_rfl) (by kernel_rfl) args w
  | seq => exact call_enters Tryz.func61 (by kernel_rfl) (by kernel_rfl) args w
  | player => exact call_enters Tryz.func57 (by kernel_rfl) (by kernel_rfl) args w
  | data => exact call_enters Tryz.func65 (by kernel_rfl) (by kernel_rfl) args w
  | command => exact call_enters Tryz.func63 (by kernel_rfl) (by kernel_rfl) args w
end Go.Proofs.YtejlffeiebfboaaGreatDoor.Get
