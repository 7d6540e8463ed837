/- The program's frame: the fields of a kind, each with the function that lays it. -/
import Derived.Test.YtejlffeiebfboaaGreatDoorFields
set_option linter.unusedVariables false
set_option linter.unusedSimpArgs false
namespace Go.Proofs.YtejlffeiebfboaaGreatDoor.Put
open Go Go.RowKit Go.Proofs.YtejlffeiebfboaaGreatDoor.Mem Go.Proofs.YtejlffeiebfboaaGreatDoor.PackW

/-- A field of a datagram. -/
inductive Fld where
  | nonce | zeros | epoch | cookie | name | tag | session | salt | seq | player | data | command

def Fld.getF : Fld → Nat
  | .nonce => 43 | .zeros => 45 | .epoch => 47 | .cookie => 49 | .name => 51 | .tag => 53 | .session => 55 | .salt => 59 | .seq => 61 | .player => 57 | .data => 65 | .command => 63
def Fld.putF : Fld → Nat
  | .nonce => 44 | .zeros => 46 | .epoch => 48 | .cookie => 50 | .name => 52 | .tag => 54 | .session => 56 | .salt => 60 | .seq => 62 | .player => 58 | .data => 66 | .command => 64
def flds (k : Int) : List Fld :=
  if k = 1 then [.nonce, .zeros] else if k = 2 then [.nonce, .epoch, .cookie] else if k = 3 then [.nonce, .epoch, .cookie, .name, .tag]
  else if k = 4 then [.nonce, .session, .player, .salt, .tag] else if k = 5 then [.session, .seq, .command, .tag] else if k = 6 then [.session, .seq, .data, .tag] else [.session, .seq, .tag]
def fcells : List Fld → List Value
  | [] => []
  | f :: r => .func (.func f.getF) #[] #[] :: .func (.func f.putF) #[] #[] :: fcells r
theorem fcells_len (l : List Fld) : (fcells l).length = 2 * l.length := by
  induction l with
  | nil => rfl
  | cons f r ih => simp only [fcells, List.length_cons, ih]; omega
theorem fcells_get (l : List Fld) (k : Nat) (hk : k < l.length) : (fcells l)[2 * k]? = some (.func (.func (l[k]).getF) #[] #[]) := by
  induction l generalizing k with
  | nil => simp at hk
  | cons f r ih =>
    cases k with
    | zero => rfl
    | succ k => rw [show 2 * (k + 1) = 2 * k + 1 + 1 from by omega]; simpa [fcells] using ih k (by simpa using hk)
theorem fcells_put (l : List Fld) (k : Nat) (hk : k < l.length) : (fcells l)[2 * k + 1]? = some (.func (.func (l[k]).putF) #[] #[]) := by
  induction l generalizing k with
  | nil => simp at hk
  | cons f r ih =>
    cases k with
    | zero => rfl
    | succ k => rw [show 2 * (k + 1) + 1 = 2 * k + 1 + 1 + 1 from by omega]; simpa [fcells] using ih k (by simpa using hk)
theorem flds_len (k : Int) : 0 < (flds k).length ∧ (flds k).length ≤ 5 := by
  unfold flds
  split; · exact ⟨by decide, by decide⟩
  split; · exact ⟨by decide, by decide⟩
  split; · exact ⟨by decide, by decide⟩
  split; · exact ⟨by decide, by decide⟩
  split; · exact ⟨by decide, by decide⟩
  split; · exact ⟨by decide, by decide⟩
  exact ⟨by decide, by decide⟩

/-- What fields gives for a kind. -/
theorem fields_any (k : Int) (h1 : 1 ≤ k) (h7 : k ≤ 7) (w : World) : Calls Tryz.prog 25 #[.int .i64 k] w fun e w' => e = .returned (.slice (some ⟨w.heap.size, 0, none⟩) (flds k).length (flds k).length) ∧ Row w' w.heap.size 59 (fcells (flds k)) ∧ Chg (fun _ => False) w w' := by
  have h : k = 1 ∨ k = 2 ∨ k = 3 ∨ k = 4 ∨ k = 5 ∨ k = 6 ∨ k = 7 := by omega
  rcases h with rfl | rfl | rfl | rfl | rfl | rfl | rfl
  · exact fields1_any w
  · exact fields2_any w
  · exact fields3_any w
  · exact fields4_any w
  · exact fields5_any w
  · exact fields6_any w
  · exact fields7_any w

/-- No more than so many bytes are laid for a field. -/
def Fld.size (d : DG) : Fld → Nat
  | .nonce => d.nonce.size | .zeros => 76 | .epoch => 8 | .cookie => d.cookie.size | .name => 300 | .tag => d.tag.size | .session => 8 | .salt => d.salt.size | .seq => 8 | .player => 8 | .data => d.data.size | .command => 20
/-- The writer's state behind a field. -/
def Fld.st (d : DG) (st : WS) : Fld → WS
  | .nonce => layS st (bs d.nonce) | .zeros => layS st zeros76 | .epoch => layS st (be 8 d.epoch) | .cookie => layS st (bs d.cookie) | .name => textS st d.name | .tag => layS st (bs d.tag) | .session => layS st (be 8 d.session) | .salt => layS st (bs d.salt) | .seq => layS st (be 8 d.seq) | .player => numS st (wrapN d.player) 1 | .data => layS st (bs d.data) | .command => cmdS st d
/-- Is a field bad behind it? -/
def Fld.bd (d : DG) (bad : Bool) : Fld → Bool
  | .nonce => bad || (d.nonce.size != 16) | .cookie => bad || (d.cookie.size != 32) | .tag => bad || (d.tag.size != 32) | .salt => bad || (d.salt.size != 16) | .player => bad || decide (d.player < 0) | _ => bad

theorem put_any (f : Fld) (B bw bw2 wb : Nat) (d : DG) (st : WS) (bad : Bool) (w : World) (hd : d.Ok) (h : IsP w B bw bw2 wb d st bad) (hlen : st.1.length + f.size d ≤ 140737488355328) :
    Calls Tryz.prog f.putF #[.pointer (some ⟨wb, 0, none⟩)] w fun e w' => e = .returned (.tuple #[]) ∧ IsP w' B bw bw2 wb d (f.st d st) (f.bd d bad) ∧ Kq B bw wb w w' := by
  cases f with
  | nonce => exact putNonce_any B bw bw2 wb d st bad w h hlen
  | zeros => exact putZeros_any B bw bw2 wb d st bad w h hlen
  | epoch => exact putEpoch_any B bw bw2 wb d st bad w hd h hlen
  | cookie => exact putCookie_any B bw bw2 wb d st bad w h hlen
  | name => exact putName_any B bw bw2 wb d st bad w h hlen
  | tag => exact putTag_any B bw bw2 wb d st bad w h hlen
  | session => exact putSession_any B bw bw2 wb d st bad w hd h hlen
  | salt => exact putSalt_any B bw bw2 wb d st bad w h hlen
  | seq => exact putSeq_any B bw bw2 wb d st bad w hd h hlen
  | player => exact putPlayer_any B bw bw2 wb d st bad w h hlen
  | data => exact putData_any B bw bw2 wb d st bad w h hlen
  | command => exact putCommand_any B bw bw2 wb d st bad w hd h hlen

theorem layS_len (st : WS) (s : List UInt8) : (layS st s).1.length ≤ st.1.length + s.length := by
  unfold layS; split <;> simp
theorem be_length (n x : Nat) : (be n x).length = n := by simp [be]
theorem numS_len (st : WS) (x n : Nat) : (numS st x n).1.length ≤ st.1.length + n := by
  unfold numS; split
  · have := layS_len st (be n x); rw [be_length] at this; exact this
  · unfold failS; split <;> simp
theorem Fld.st_len (d : DG) (st : WS) (f : Fld) : (f.st d st).1.length ≤ st.1.length + f.size d := by
  cases f with
  | nonce => have := layS_len st (bs d.nonce); rwa [bs_length] at this
  | zeros => exact layS_len st zeros76
  | epoch => have := layS_len st (be 8 d.epoch); rwa [be_length] at this
  | cookie => have := layS_len st (bs d.cookie); rwa [bs_length] at this
  | name =>
    show (textS st d.name).1.length ≤ st.1.length + 300
    unfold textS
    split
    · have h1 := layS_len (numS st d.name.size 1) (bs d.name)
      have h2 := numS_len st d.name.size 1
      rw [bs_length] at h1
      omega
    · unfold failS; split <;> simp
  | tag => have := layS_len st (bs d.tag); rwa [bs_length] at this
  | session => have := layS_len st (be 8 d.session); rwa [be_length] at this
  | salt => have := layS_len st (bs d.salt); rwa [bs_length] at this
  | seq => have := layS_len st (be 8 d.seq); rwa [be_length] at this
  | player => have := numS_len st (wrapN d.player) 1; show (numS _ _ _).1.length ≤ st.1.length + 8; omega
  | data => have := layS_len st (bs d.data); rwa [bs_length] at this
  | command =>
    show (cmdS st d).1.length ≤ st.1.length + 20
    unfold cmdS
    have h1 := layS_len (sgn1 (sgn1 st d.throttle) d.turn) [UInt8.ofNat (flagsN d)]
    have h2 := sgn1_len st d.throttle
    have h3 := sgn1_len (sgn1 st d.throttle) d.turn
    simp only [List.length_cons, List.length_nil] at h1
    omega
/-- The state behind several fields. -/
def stsF (d : DG) (st : WS) (l : List Fld) : WS := l.foldl (fun s f => f.st d s) st
def bdsF (d : DG) (bad : Bool) (l : List Fld) : Bool := l.foldl (fun b f => f.bd d b) bad
def sizeF (d : DG) (l : List Fld) : Nat := (l.map (·.size d)).sum
theorem stsF_snoc (d : DG) (st : WS) (l : List Fld) (k : Nat) (hk : k < l.length) : stsF d st (l.take (k + 1)) = (l[k]).st d (stsF d st (l.take k)) := by
  rw [List.take_succ_eq_append_getElem hk]; unfold stsF; rw [List.foldl_append]; rfl
theorem bdsF_snoc (d : DG) (bad : Bool) (l : List Fld) (k : Nat) (hk : k < l.length) : bdsF d bad (l.take (k + 1)) = (l[k]).bd d (bdsF d bad (l.take k)) := by
  rw [List.take_succ_eq_append_getElem hk]; unfold bdsF; rw [List.foldl_append]; rfl
theorem sizeF_snoc (d : DG) (l : List Fld) (k : Nat) (hk : k < l.length) : sizeF d (l.take (k + 1)) = sizeF d (l.take k) + (l[k]).size d := by
  rw [List.take_succ_eq_append_getElem hk]; unfold sizeF; rw [List.map_append, List.sum_append]; simp
theorem stsF_len (d : DG) (st : WS) (l : List Fld) : (stsF d st l).1.length ≤ st.1.length + sizeF d l := by
  induction l generalizing st with
  | nil => simp [stsF, sizeF]
  | cons f r ih =>
    have h1 := ih (f.st d st)
    have h2 := Fld.st_len d st f
    simp only [stsF, sizeF, List.foldl_cons, List.map_cons, List.sum_cons] at *
    omega
theorem sizeF_take (d : DG) (l : List Fld) (k : Nat) (hk : k < l.length) : sizeF d (l.take k) + (l[k]).size d ≤ sizeF d l := by
  rw [← sizeF_snoc d l k hk]
  have : sizeF d l = sizeF d (l.take (k + 1)) + sizeF d (l.drop (k + 1)) := by
    unfold sizeF
    rw [← List.sum_append, ← List.map_append, List.take_append_drop]
  omega
end Go.Proofs.YtejlffeiebfboaaGreatDoor.Put
