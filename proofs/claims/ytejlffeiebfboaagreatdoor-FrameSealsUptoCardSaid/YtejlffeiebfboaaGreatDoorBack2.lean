/- The plain law, the way back: a datagram's bytes are taken apart to it. -/
import Derived.Test.YtejlffeiebfboaaGreatDoorBack
set_option linter.unusedVariables false
set_option linter.unusedSimpArgs false
namespace Go.Proofs.YtejlffeiebfboaaGreatDoor.Law
open Go Go.RowKit Go.Proofs.YtejlffeiebfboaaGreatDoor.Mem Go.Proofs.YtejlffeiebfboaaGreatDoor.PackW Go.Proofs.YtejlffeiebfboaaGreatDoor.PackR Go.Proofs.YtejlffeiebfboaaGreatDoor.Put Go.Proofs.YtejlffeiebfboaaGreatDoor.Get

/-- A field is copied. -/
def cp (d : DG) (d' : DG) : Fld → DG
  | .nonce => { d' with nonce := d.nonce } | .zeros => d' | .epoch => { d' with epoch := d.epoch } | .cookie => { d' with cookie := d.cookie } | .name => { d' with name := d.name } | .tag => { d' with tag := d.tag }
  | .session => { d' with session := d.session } | .salt => { d' with salt := d.salt } | .seq => { d' with seq := d.seq } | .player => { d' with player := d.player } | .data => { d' with data := d.data }
  | .command => { d' with throttle := d.throttle, turn := d.turn, fire := d.fire, boost := d.boost }

theorem num_be_from (n x : Nat) : num (PackW.be n x) = x % 256 ^ n := by
  induction n generalizing x with
  | zero => simp [PackW.be, num]; omega
  | succ n ih =>
    have e : PackW.be (n + 1) x = PackW.be n (x / 256) ++ [UInt8.ofNat x] := by
      unfold PackW.be
      rw [List.range_succ, List.map_append]
      congr 1
      · apply List.map_congr_left
        intro i hi
        have hi' : i < n := by simpa using hi
        rw [Nat.div_div_eq_div_mul, ← Nat.pow_succ']
        congr 3
        omega
      · simp
    rw [e, num_snoc, ih]
    have h1 : (UInt8.ofNat x).toNat = x % 256 := by simp
    rw [h1]
    have h2 : (256 : Nat) ^ (n + 1) = 256 * 256 ^ n := by rw [Nat.pow_succ, Nat.mul_comm]
    rw [h2, Nat.mod_mul]
    omega
theorem num_be8 {x : Nat} (h : x < 18446744073709551616) : num (PackW.be 8 x) = x := by
  rw [num_be_from]
  exact Nat.mod_eq_of_lt (by simpa using h)
theorem num_one (b : UInt8) (r : List UInt8) : num ((b :: r).take 1) = b.toNat := by simp [num]
theorem sgn8_fin2 : ∀ n : Fin 256, sgn8 (sb ((n.val : Int) - 128)) = (n.val : Int) - 128 := by decide +kernel
theorem sgn8_sb {x : Int} (h : -128 ≤ x ∧ x < 128) : sgn8 (sb x) = x := by
  have := sgn8_fin2 ⟨(x + 128).toNat, by omega⟩
  have e : (((x + 128).toNat : Nat) : Int) - 128 = x := by omega
  simp only [e] at this
  exact this
theorem flags_lt (d : DG) : flagsN d < 4 := by unfold flagsN; split <;> split <;> omega
theorem flags_bits (d : DG) : hasBit (flagsN d) 1 = d.fire ∧ hasBit (flagsN d) 2 = d.boost := by
  unfold flagsN
  cases d.fire <;> cases d.boost <;> decide
theorem size_of {s : ByteArray} {l : List UInt8} (h : bs s = l) : s.size = l.length := by rw [← h, bs_length]
theorem ext_tail {s : ByteArray} {l r : List UInt8} {n : Nat} (h : bs s = l ++ r) (hn : n = l.length) : bs (s.extract n s.size) = r := by
  rw [bs_ext, List.take_of_length_le (by rw [bs_length]; omega), h, hn]; simp
theorem ext_head {s t : ByteArray} {r : List UInt8} {n : Nat} (h : bs s = bs t ++ r) (hn : t.size = n) : s.extract 0 n = t := by
  apply bs_inj
  rw [bs_ext, h, List.drop_zero, ← hn, ← bs_length, List.take_left]
theorem trim_zeros : Lib.trimB zeros76 0 = [] := by decide +kernel
theorem zeros_len : zeros76.length = 76 := by simp [zeros76]

/-- What is written of a field is read to the same. -/
theorem take_back (f : Fld) (d d' : DG) (hd : d.Ok) (hok : okF d f) (s : ByteArray) (r : List UInt8) (b : Bool) (hs : bs s = fb d f ++ r) (h32 : f = .data → r.length = 32) :
    Fld.take s f = some (fb d f).length ∧ Fld.upd d' s f = cp d d' f ∧ (b = false → Fld.rbad b s f = false) := by
  have hz := size_of hs
  rw [List.length_append] at hz
  cases f with
  | nonce =>
    have h' : d.nonce.size = 16 := hok
    have hl : (fb d .nonce).length = 16 := by show (bs d.nonce).length = 16; rw [bs_length]; exact h'
    refine ⟨by simp only [Fld.take]; rw [if_pos (by omega), hl], ?_, id⟩
    simp only [Fld.upd, cp]; rw [ext_head hs h']
  | zeros =>
    have hl : (fb d .zeros).length = 76 := zeros_len
    refine ⟨by simp only [Fld.take]; rw [if_pos (by omega), hl], rfl, fun _ => ?_⟩
    simp only [Fld.rbad]
    have e : trim0 s = ⟨#[]⟩ := by
      unfold trim0
      have : (s.extract 0 76).data.toList = zeros76 := by
        show bs (s.extract 0 76) = zeros76
        rw [bs_ext, hs, List.drop_zero]
        show (zeros76 ++ r).take 76 = zeros76
        rw [← zeros_len, List.take_left]
      rw [this, trim_zeros]
    rw [e, isEmpty_of]; decide
  | epoch =>
    have hl : (fb d .epoch).length = 8 := Put.be_length 8 d.epoch
    refine ⟨by simp only [Fld.take]; rw [if_pos (by omega), hl], ?_, id⟩
    simp only [Fld.upd, cp]
    have : (bs s).take 8 = PackW.be 8 d.epoch := by rw [hs, ← hl, List.take_left]; rfl
    rw [this, num_be8 hd.epoch]
  | cookie =>
    have h' : d.cookie.size = 32 := hok
    have hl : (fb d .cookie).length = 32 := by show (bs d.cookie).length = 32; rw [bs_length]; exact h'
    refine ⟨by simp only [Fld.take]; rw [if_pos (by omega), hl], ?_, id⟩
    simp only [Fld.upd, cp]; rw [ext_head hs h']
  | name =>
    have h' : d.name.size ≤ 255 := hok
    have hl : (fb d .name).length = 1 + d.name.size := by show (_ :: bs d.name).length = _; rw [List.length_cons, bs_length]; omega
    have hf : fstN s = d.name.size := by
      unfold fstN
      rw [hs]
      show num ((UInt8.ofNat d.name.size :: (bs d.name ++ r)).take 1) = _
      rw [num_one]
      simp; omega
    refine ⟨?_, ?_, id⟩
    · simp only [Fld.take]
      rw [hf, if_pos (by omega), hl]
    · simp only [Fld.upd, cp]
      rw [hf]
      have e : s.extract 1 (1 + d.name.size) = d.name := by
        apply bs_inj
        rw [bs_ext, hs]
        show ((UInt8.ofNat d.name.size :: (bs d.name ++ r)).take (1 + d.name.size)).drop 1 = _
        rw [Nat.add_comm 1, List.take_succ_cons, List.drop_succ_cons, List.drop_zero, ← bs_length, List.take_left]
      rw [e]
  | tag =>
    have h' : d.tag.size = 32 := hok
    have hl : (fb d .tag).length = 32 := by show (bs d.tag).length = 32; rw [bs_length]; exact h'
    refine ⟨by simp only [Fld.take]; rw [if_pos (by omega), hl], ?_, id⟩
    simp only [Fld.upd, cp]; rw [ext_head hs h']
  | session =>
    have hl : (fb d .session).length = 8 := Put.be_length 8 d.session
    refine ⟨by simp only [Fld.take]; rw [if_pos (by omega), hl], ?_, id⟩
    simp only [Fld.upd, cp]
    have : (bs s).take 8 = PackW.be 8 d.session := by rw [hs, ← hl, List.take_left]; rfl
    rw [this, num_be8 hd.session]
  | salt =>
    have h' : d.salt.size = 16 := hok
    have hl : (fb d .salt).length = 16 := by show (bs d.salt).length = 16; rw [bs_length]; exact h'
    refine ⟨by simp only [Fld.take]; rw [if_pos (by omega), hl], ?_, id⟩
    simp only [Fld.upd, cp]; rw [ext_head hs h']
  | seq =>
    have hl : (fb d .seq).length = 8 := Put.be_length 8 d.seq
    refine ⟨by simp only [Fld.take]; rw [if_pos (by omega), hl], ?_, id⟩
    simp only [Fld.upd, cp]
    have : (bs s).take 8 = PackW.be 8 d.seq := by rw [hs, ← hl, List.take_left]; rfl
    rw [this, num_be8 hd.seq]
  | player =>
    have h' : 0 ≤ d.player ∧ d.player < 256 := hok
    have hl : (fb d .player).length = 1 := rfl
    refine ⟨by simp only [Fld.take]; rw [if_pos (by omega), hl], ?_, id⟩
    simp only [Fld.upd, cp]
    have hf : (fstN s : Int) = d.player := by
      unfold fstN
      rw [hs]
      show ((num ((UInt8.ofNat d.player.toNat :: r).take 1) : Nat) : Int) = _
      rw [num_one]
      simp; omega
    rw [hf]
  | data =>
    have h' := h32 rfl
    have hl : (fb d .data).length = d.data.size := bs_length d.data
    refine ⟨?_, ?_, id⟩
    · simp only [Fld.take]
      rw [if_pos (by omega), hl]
      congr 1; omega
    · simp only [Fld.upd, cp]
      have e : s.size - 32 = d.data.size := by omega
      rw [e, ext_head hs rfl]
  | command =>
    have h' : (-128 ≤ d.throttle ∧ d.throttle < 128) ∧ (-128 ≤ d.turn ∧ d.turn < 128) := hok
    have hl : (fb d .command).length = 3 := rfl
    have hs' : bs s = sb d.throttle :: sb d.turn :: UInt8.ofNat (flagsN d) :: r := hs
    have ht1 : bs (tail1 s) = sb d.turn :: UInt8.ofNat (flagsN d) :: r := ext_tail (l := [sb d.throttle]) hs' rfl
    have ht2 : bs (tail1 (tail1 s)) = UInt8.ofNat (flagsN d) :: r := ext_tail (l := [sb d.turn]) ht1 rfl
    have hc0 : cmd0 s = d.throttle := by unfold cmd0; rw [hs']; exact sgn8_sb h'.1
    have hc1 : cmd1 s = d.turn := by unfold cmd1 cmd0; rw [ht1]; exact sgn8_sb h'.2
    have hfl := flags_lt d
    have hc2 : cmd2 s = flagsN d := by
      unfold cmd2 fstN
      rw [ht2, num_one]
      simp; omega
    refine ⟨by simp only [Fld.take]; rw [if_pos (by omega), hl], ?_, fun _ => ?_⟩
    · simp only [Fld.upd, cp]
      rw [hc0, hc1, hc2, (flags_bits d).1, (flags_bits d).2]
    · simp only [Fld.rbad]
      rw [hc2]
      exact decide_eq_false (by omega)

/-- What stands behind the data is a tag. -/
def tailOk (d : DG) : List Fld → List UInt8 → Prop
  | [], _ => True
  | f :: t, r => (f = .data → (t.flatMap (fb d) ++ r).length = 32) ∧ tailOk d t r
theorem rd_back (d : DG) (hd : d.Ok) (r : List UInt8) : ∀ (l : List Fld) (d' : DG) (s : ByteArray), (∀ f ∈ l, okF d f) → tailOk d l r → bs s = l.flatMap (fb d) ++ r →
    ∃ s', rdF l d' s false = some (l.foldl (cp d) d', s', false) ∧ bs s' = r
  | [], d', s, _, _, hs => ⟨s, rfl, by simpa using hs⟩
  | f :: t, d', s, hok, ht, hs => by
    have hs2 : bs s = fb d f ++ (t.flatMap (fb d) ++ r) := by rw [hs]; simp
    obtain ⟨h1, h2, h3⟩ := take_back f d d' hd (hok f (by simp)) s _ false hs2 ht.1
    have h4 := ext_tail (n := (fb d f).length) hs2 rfl
    obtain ⟨s', h5, h6⟩ := rd_back d hd r t (cp d d' f) (s.extract (fb d f).length s.size) (fun g hg => hok g (by simp [hg])) ht.2 h4
    refine ⟨s', ?_, h6⟩
    simp only [rdF, h1, h2, h3 rfl, List.foldl_cons]
    exact h5
/-- A datagram with just the fields that its kind has. -/
def onlyD (d : DG) : DG := (flds d.kind).foldl (cp d) { d0 with kind := d.kind }
theorem tail_flds (d : DG) (h : ∀ f ∈ flds d.kind, okF d f) : tailOk d (flds d.kind) [] := by
  by_cases h6 : d.kind = 6
  · have e : flds d.kind = [.session, .seq, .data, .tag] := by rw [h6]; rfl
    rw [e] at h ⊢
    have ht : d.tag.size = 32 := h .tag (by simp)
    refine ⟨by simp, by simp, fun _ => ?_, by simp, trivial⟩
    show (bs d.tag ++ [] ++ []).length = 32
    simp [bs_length, ht]
  · have hn : ∀ f ∈ flds d.kind, f ≠ .data := by
      intro f hf
      unfold flds at hf
      intro e
      subst e
      split at hf
      · simp at hf
      split at hf
      · simp at hf
      split at hf
      · simp at hf
      split at hf
      · simp at hf
      split at hf
      · simp at hf
      simp at hf
    have gen : ∀ l : List Fld, (∀ f ∈ l, f ≠ Fld.data) → tailOk d l [] := by
      intro l
      induction l with
      | nil => exact fun _ => trivial
      | cons f t ih => exact fun hl => ⟨fun e => absurd e (hl f (by simp)), ih (fun g hg => hl g (by simp [hg]))⟩
    exact gen _ hn

/-- A datagram's bytes are taken apart to it. -/
theorem decode_wire (d : DG) (hd : d.Ok) (h1 : 1 ≤ d.kind) (h7 : d.kind ≤ 7) (hok : ∀ f ∈ flds d.kind, okF d f) (hl : (wire d).length ≤ 1200) : Get.decode ⟨(wire d).toArray⟩ = (onlyD d, 0) := by
  have hb : bs ⟨(wire d).toArray⟩ = wire d := bs_mk _
  have hz : (⟨(wire d).toArray⟩ : ByteArray).size ≤ 1200 := by rw [size_of hb]; exact hl
  generalize hs : (⟨(wire d).toArray⟩ : ByteArray) = s at *
  have hdl : s.data.toList = wire d := hb
  have hm : hasMagic s = true := by
    unfold hasMagic Lib.hasPrefix
    rw [hdl]
    rfl
  have hbody : bs (bodyS s) = UInt8.ofNat d.kind.toNat :: (flds d.kind).flatMap (fb d) := by
    unfold bodyS
    rw [bs_mk]
    unfold Lib.trimPrefix
    have : Lib.hasPrefix s.data.toList [74, 48, 49] = true := hm
    rw [if_pos this, hdl]
    rfl
  have hkb : kindB (bodyS s) = d.kind := by
    unfold kindB
    rw [hbody]
    show (((UInt8.ofNat d.kind.toNat).toNat : Nat) : Int) = d.kind
    simp; omega
  have hsz : (bodyS s).size ≠ 0 := by rw [size_of hbody]; simp
  have ht : bs (tail1 (bodyS s)) = (flds d.kind).flatMap (fb d) ++ [] := by
    rw [List.append_nil]
    exact ext_tail (l := [UInt8.ofNat d.kind.toNat]) hbody rfl
  obtain ⟨s', hr, hs'⟩ := rd_back d hd [] (flds d.kind) { d0 with kind := d.kind } (tail1 (bodyS s)) hok (tail_flds d hok) ht
  unfold Get.decode
  rw [if_neg (by omega), if_neg (by rw [hm]; decide), hkb, if_neg (by omega), hr]
  unfold decR onlyD
  have h0 : s'.size = 0 := by rw [size_of hs']; rfl
  simp [h0]
/-- There and back. -/
theorem back (d : DG) (hd : d.Ok) (h : (encode d).2 = 0) : Get.decode (encode d).1 = (onlyD d, 0) := by
  obtain ⟨hk, hok, hl, he⟩ := encode_zero d hd h
  rw [he]
  exact decode_wire d hd hk.1 hk.2 hok hl
end Go.Proofs.YtejlffeiebfboaaGreatDoor.Law
