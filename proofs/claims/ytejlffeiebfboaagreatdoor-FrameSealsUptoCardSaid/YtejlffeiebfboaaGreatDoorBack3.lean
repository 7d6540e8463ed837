/- The plain law, the other way: what is taken apart is written to the same bytes. -/
import Derived.Test.YtejlffeiebfboaaGreatDoorSealLaw
set_option linter.unusedVariables false
set_option linter.unusedSimpArgs false
namespace Go.Proofs.YtejlffeiebfboaaGreatDoor.Law
open Go Go.RowKit Go.Proofs.YtejlffeiebfboaaGreatDoor.Mem Go.Proofs.YtejlffeiebfboaaGreatDoor.PackW Go.Proofs.YtejlffeiebfboaaGreatDoor.PackR Go.Proofs.YtejlffeiebfboaaGreatDoor.Put Go.Proofs.YtejlffeiebfboaaGreatDoor.Get

theorem sgn8_rng (b : UInt8) : -128 ≤ sgn8 b ∧ sgn8 b < 128 := by
  have := b.toNat_lt
  unfold sgn8; split <;> omega
theorem sb_fin : ∀ n : Fin 256, (sb (if n.val < 128 then (n.val : Int) else (n.val : Int) - 256)).toNat = n.val := by decide +kernel
theorem sb_sgn8 (b : UInt8) : sb (sgn8 b) = b := by
  have h := sb_fin ⟨b.toNat, b.toNat_lt⟩
  exact UInt8.toNat_inj.1 h
theorem be_num_from (l : List UInt8) (h : l.length = 8) : PackW.be 8 (num l) = l := by
  match l, h with
  | [a, b, c, d, e, f, g, i], _ =>
    have ha := a.toNat_lt; have hb := b.toNat_lt; have hc := c.toNat_lt; have hd := d.toNat_lt; have he := e.toNat_lt; have hf := f.toNat_lt; have hg := g.toNat_lt; have hi := i.toNat_lt
    simp only [PackW.be, num, List.foldl_cons, List.foldl_nil, List.range_succ, List.range_zero, List.map_append, List.map_cons, List.map_nil, List.nil_append, List.cons_append]
    have key : ∀ (x : Nat) (u : UInt8), x % 256 = u.toNat → UInt8.ofNat x = u := fun x u h => by
      apply UInt8.toNat_inj.1
      rw [UInt8.toNat_ofNat']
      exact h
    congr 1
    · apply key; omega
    congr 1
    · apply key; omega
    congr 1
    · apply key; omega
    congr 1
    · apply key; omega
    congr 1
    · apply key; omega
    congr 1
    · apply key; omega
    congr 1
    · apply key; omega
    congr 1
    · apply key; omega
theorem upd_ok (d : DG) (hd : d.Ok) (s : ByteArray) (f : Fld) : (Fld.upd d s f).Ok := by
  have hn : num ((bs s).take 8) < 18446744073709551616 := by
    have h1 := num_lt ((bs s).take 8)
    have h2 : ((bs s).take 8).length ≤ 8 := by simp; omega
    exact Nat.lt_of_lt_of_le h1 (Nat.pow_le_pow_right (by decide) h2)
  have hf := fstN_le s
  have h0 : -128 ≤ cmd0 s ∧ cmd0 s < 128 := sgn8_rng _
  have h1 : -128 ≤ cmd1 s ∧ cmd1 s < 128 := sgn8_rng _
  cases f <;> simp only [Fld.upd]
  case epoch => exact ⟨hn, hd.session, hd.seq, hd.kind, hd.player, hd.throttle, hd.turn⟩
  case session => exact ⟨hd.epoch, hn, hd.seq, hd.kind, hd.player, hd.throttle, hd.turn⟩
  case seq => exact ⟨hd.epoch, hd.session, hn, hd.kind, hd.player, hd.throttle, hd.turn⟩
  case player => exact ⟨hd.epoch, hd.session, hd.seq, hd.kind, ⟨by show _ ≤ (fstN s : Int); omega, by show (fstN s : Int) < _; omega⟩, hd.throttle, hd.turn⟩
  case command => exact ⟨hd.epoch, hd.session, hd.seq, hd.kind, hd.player, ⟨by show _ ≤ cmd0 s; omega, by show cmd0 s < _; omega⟩, ⟨by show _ ≤ cmd1 s; omega, by show cmd1 s < _; omega⟩⟩
  case nonce => exact ⟨hd.epoch, hd.session, hd.seq, hd.kind, hd.player, hd.throttle, hd.turn⟩
  case zeros => exact hd
  case cookie => exact ⟨hd.epoch, hd.session, hd.seq, hd.kind, hd.player, hd.throttle, hd.turn⟩
  case name => exact ⟨hd.epoch, hd.session, hd.seq, hd.kind, hd.player, hd.throttle, hd.turn⟩
  case tag => exact ⟨hd.epoch, hd.session, hd.seq, hd.kind, hd.player, hd.throttle, hd.turn⟩
  case salt => exact ⟨hd.epoch, hd.session, hd.seq, hd.kind, hd.player, hd.throttle, hd.turn⟩
  case data => exact ⟨hd.epoch, hd.session, hd.seq, hd.kind, hd.player, hd.throttle, hd.turn⟩
theorem upd_kind (d : DG) (s : ByteArray) (f : Fld) : (Fld.upd d s f).kind = d.kind := by cases f <;> simp only [Fld.upd]
theorem upd_fb (d : DG) (s : ByteArray) (f g : Fld) (h : g ≠ f) : fb (Fld.upd d s g) f = fb d f := by cases f <;> cases g <;> first | exact absurd rfl h | (simp only [Fld.upd, fb, flagsN]; done) | (simp only [Fld.upd, fb, flagsN]; rfl)
theorem upd_okF (d : DG) (s : ByteArray) (f g : Fld) (h : g ≠ f) : okF (Fld.upd d s g) f = okF d f := by cases f <;> cases g <;> first | exact absurd rfl h | simp only [Fld.upd, okF]
theorem upd_cp (d d2 : DG) (s : ByteArray) (f g : Fld) (h : g ≠ f) : cp (Fld.upd d s g) d2 f = cp d d2 f := by cases f <;> cases g <;> first | exact absurd rfl h | simp only [Fld.upd, cp]
theorem upd_cp_self (d : DG) (s : ByteArray) (f : Fld) : cp (Fld.upd d s f) d f = Fld.upd d s f := by cases f <;> simp only [Fld.upd, cp]

/-- Does a field say anew whether one is bad? -/
def setter : Fld → Prop
  | .zeros => True | .command => True | _ => False
theorem rbad_keep (b : Bool) (s : ByteArray) (f : Fld) (h : ¬ setter f) : Fld.rbad b s f = b := by cases f <;> first | exact absurd trivial h | simp only [Fld.rbad]
theorem head_eq {s : ByteArray} {n : Nat} (h : n ≤ s.size) : bs s = bs (s.extract 0 n) ++ bs (s.extract n s.size) := by
  have hl : (bs s).take s.size = bs s := List.take_of_length_le (by rw [bs_length]; omega)
  rw [bs_ext, bs_ext, List.drop_zero, hl, List.take_append_drop]
theorem ext_size (s : ByteArray) (a b : Nat) (h : b ≤ s.size) : (s.extract a b).size = b - a := by rw [ByteArray.size_extract]; omega
theorem takeWhile_all {α : Type} (p : α → Bool) : ∀ (l : List α) (a : α), a ∈ l.takeWhile p → p a = true
  | [], a, h => by simp at h
  | x :: l, a, h => by
    rw [List.takeWhile_cons] at h
    split at h
    · rcases List.mem_cons.1 h with rfl | h
      · assumption
      · exact takeWhile_all p l a h
    · simp at h
theorem dropWhile_nil {α : Type} (p : α → Bool) : ∀ (l : List α), l.dropWhile p = [] → ∀ a ∈ l, p a = true
  | [], _, a, h => by simp at h
  | x :: l, hd, a, h => by
    rw [List.dropWhile_cons] at hd
    split at hd
    · rcases List.mem_cons.1 h with rfl | h
      · assumption
      · exact dropWhile_nil p l hd a h
    · cases hd
theorem trim_nil_fin (l : List UInt8) (h : Lib.trimB l 0 = []) : l = List.replicate l.length 0 := by
  unfold Lib.trimB Lib.trimLeftB Lib.trimRightB at h
  have h1 := dropWhile_nil _ _ h
  refine List.eq_replicate_iff.2 ⟨rfl, fun a ha => ?_⟩
  have hr : a ∈ l.reverse := by simpa using ha
  rw [← List.takeWhile_append_dropWhile (p := (· == (0 : UInt8))) (l := l.reverse)] at hr
  rcases List.mem_append.1 hr with hr | hr
  · have := takeWhile_all _ _ _ hr; simpa using this
  · have := h1 a (by simpa using hr); simpa using this

theorem flags_fin : ∀ k : Fin 4, (if hasBit k.val 1 = true then 1 else 0) + (if hasBit k.val 2 = true then 2 else 0) = k.val := by decide
theorem flags_back (d : DG) (a b : Int) (n : Nat) (h : n < 4) : flagsN { d with throttle := a, turn := b, fire := hasBit n 1, boost := hasBit n 2 } = n := by
  have := flags_fin ⟨n, h⟩
  unfold flagsN
  exact this
/-- What is read of a field is what is written of it. -/
theorem step_inv (d : DG) (s : ByteArray) (f : Fld) (n : Nat) (b : Bool) (h : Fld.take s f = some n) (hb : setter f → Fld.rbad b s f = false) :
    bs s = fb (Fld.upd d s f) f ++ bs (s.extract n s.size) ∧ okF (Fld.upd d s f) f := by
  have num8 : 8 ≤ s.size → PackW.be 8 (num ((bs s).take 8)) = bs (s.extract 0 8) := by
    intro h8
    rw [bs_ext, List.drop_zero]
    exact be_num_from _ (by rw [List.length_take, bs_length]; omega)
  have one : 1 ≤ s.size → bs (s.extract 0 1) = [UInt8.ofNat (fstN s)] := by
    intro h1
    rw [bs_ext, List.drop_zero]
    unfold fstN
    cases hl : bs s with
    | nil => have := bs_length s; rw [hl] at this; simp at this; omega
    | cons c t => simp [num]
  cases f with
  | nonce =>
    simp only [Fld.take] at h; split at h <;> cases h
    rename_i hc
    exact ⟨head_eq hc, ext_size s 0 16 hc⟩
  | zeros =>
    simp only [Fld.take] at h; split at h <;> cases h
    rename_i hc
    refine ⟨?_, trivial⟩
    have h1 := hb trivial
    simp only [Fld.rbad] at h1
    rw [isEmpty_of] at h1
    have h2 : (trim0 s).size = 0 := by
      cases hd : decide ((trim0 s).size = 0) with
      | true => exact of_decide_eq_true hd
      | false => rw [hd] at h1; exact absurd h1 (by decide)
    have h3 : Lib.trimB (s.extract 0 76).data.toList 0 = [] := by
      have : (trim0 s).size = (Lib.trimB (s.extract 0 76).data.toList 0).length := by unfold trim0; exact size_of (bs_mk _)
      rw [this] at h2
      exact List.length_eq_zero_iff.1 h2
    have h4 := trim_nil_fin _ h3
    have h5 : (s.extract 0 76).data.toList.length = 76 := by
      have := bs_length (s.extract 0 76)
      rw [ext_size s 0 76 hc] at this
      exact this
    rw [h5] at h4
    have h6 : bs (s.extract 0 76) = zeros76 := h4
    show bs s = zeros76 ++ _
    rw [← h6]; exact head_eq hc
  | epoch =>
    simp only [Fld.take] at h; split at h <;> cases h
    rename_i hc
    refine ⟨?_, trivial⟩
    show bs s = PackW.be 8 (num ((bs s).take 8)) ++ _
    rw [num8 hc]; exact head_eq hc
  | cookie =>
    simp only [Fld.take] at h; split at h <;> cases h
    rename_i hc
    exact ⟨head_eq hc, ext_size s 0 32 hc⟩
  | name =>
    simp only [Fld.take] at h; split at h <;> cases h
    rename_i hc
    have hf := fstN_le s
    have hz : (s.extract 1 (1 + fstN s)).size = fstN s := by rw [ext_size s _ _ hc.2]; omega
    refine ⟨?_, by show (s.extract 1 (1 + fstN s)).size ≤ 255; omega⟩
    show bs s = (UInt8.ofNat (s.extract 1 (1 + fstN s)).size :: bs (s.extract 1 (1 + fstN s))) ++ _
    rw [hz]
    have e1 := head_eq (s := s) (n := 1 + fstN s) hc.2
    rw [e1]
    congr 1
    have e2 : bs (s.extract 0 (1 + fstN s)) = bs (s.extract 0 1) ++ bs (s.extract 1 (1 + fstN s)) := by
      rw [bs_ext, bs_ext, bs_ext, List.drop_zero, List.drop_zero]
      have : (bs s).take 1 = ((bs s).take (1 + fstN s)).take 1 := by rw [List.take_take]; congr 1; omega
      rw [this, List.take_append_drop]
    rw [e2, one hc.1]; rfl
  | tag =>
    simp only [Fld.take] at h; split at h <;> cases h
    rename_i hc
    exact ⟨head_eq hc, ext_size s 0 32 hc⟩
  | session =>
    simp only [Fld.take] at h; split at h <;> cases h
    rename_i hc
    refine ⟨?_, trivial⟩
    show bs s = PackW.be 8 (num ((bs s).take 8)) ++ _
    rw [num8 hc]; exact head_eq hc
  | salt =>
    simp only [Fld.take] at h; split at h <;> cases h
    rename_i hc
    exact ⟨head_eq hc, ext_size s 0 16 hc⟩
  | seq =>
    simp only [Fld.take] at h; split at h <;> cases h
    rename_i hc
    refine ⟨?_, trivial⟩
    show bs s = PackW.be 8 (num ((bs s).take 8)) ++ _
    rw [num8 hc]; exact head_eq hc
  | player =>
    simp only [Fld.take] at h; split at h <;> cases h
    rename_i hc
    have hf := fstN_le s
    refine ⟨?_, by show 0 ≤ (fstN s : Int) ∧ (fstN s : Int) < 256; omega⟩
    show bs s = [UInt8.ofNat (fstN s : Int).toNat] ++ _
    rw [Int.toNat_natCast, ← one hc]; exact head_eq hc
  | data =>
    simp only [Fld.take] at h; split at h <;> cases h
    rename_i hc
    exact ⟨head_eq (by omega), trivial⟩
  | command =>
    simp only [Fld.take] at h; split at h <;> cases h
    rename_i hc
    have h1 := hb trivial
    simp only [Fld.rbad, decide_eq_false_iff_not] at h1
    simp only [Fld.upd, fb, okF]
    refine ⟨?_, sgn8_rng _, sgn8_rng _⟩
    have hfl := flags_back d (cmd0 s) (cmd1 s) (cmd2 s) (by omega)
    rw [hfl]
    have hl := bs_length s
    cases ha : bs s with
    | nil => rw [ha] at hl; simp at hl; omega
    | cons c0 t0 =>
      cases t0 with
      | nil => rw [ha] at hl; simp at hl; omega
      | cons c1 t1 =>
        cases t1 with
        | nil => rw [ha] at hl; simp at hl; omega
        | cons c2 t2 =>
          have ht1 : bs (tail1 s) = c1 :: c2 :: t2 := ext_tail (l := [c0]) ha rfl
          have ht2 : bs (tail1 (tail1 s)) = c2 :: t2 := ext_tail (l := [c1]) ht1 rfl
          have e3 : bs (s.extract 3 s.size) = t2 := ext_tail (l := [c0, c1, c2]) ha rfl
          have hc0 : sb (cmd0 s) = c0 := by unfold cmd0; rw [ha]; exact sb_sgn8 c0
          have hc1 : sb (cmd1 s) = c1 := by unfold cmd1 cmd0; rw [ht1]; exact sb_sgn8 c1
          have hc2 : UInt8.ofNat (cmd2 s) = c2 := by unfold cmd2 fstN; rw [ht2, num_one]; simp
          rw [hc0, hc1, hc2, e3]; rfl

theorem rd_keep (f : Fld) : ∀ (t : List Fld) (d : DG) (s : ByteArray) (b : Bool) (x : DG) (r : ByteArray) (b' : Bool), rdF t d s b = some (x, r, b') → f ∉ t → fb x f = fb d f ∧ okF x f = okF d f ∧ ∀ d2, cp x d2 f = cp d d2 f
  | [], d, s, b, x, r, b', h, _ => by
    simp only [rdF, Option.some.injEq, Prod.mk.injEq] at h
    rw [h.1]; exact ⟨rfl, rfl, fun _ => rfl⟩
  | g :: t, d, s, b, x, r, b', h, hf => by
    have hg : g ≠ f := fun e => hf (by simp [e])
    simp only [rdF] at h
    split at h
    · cases h
    · obtain ⟨h1, h2, h3⟩ := rd_keep f t _ _ _ x r b' h (fun e => hf (by simp [e]))
      exact ⟨h1.trans (upd_fb d s f g hg), h2.trans (upd_okF d s f g hg), fun d2 => (h3 d2).trans (upd_cp d d2 s f g hg)⟩
theorem rd_bad : ∀ (t : List Fld) (d : DG) (s : ByteArray) (b : Bool) (x : DG) (r : ByteArray) (b' : Bool), rdF t d s b = some (x, r, b') → (∀ g ∈ t, ¬ setter g) → b' = b
  | [], d, s, b, x, r, b', h, _ => by
    simp only [rdF, Option.some.injEq, Prod.mk.injEq] at h
    exact h.2.2.symm
  | g :: t, d, s, b, x, r, b', h, hs => by
    simp only [rdF] at h
    split at h
    · cases h
    · have := rd_bad t _ _ _ x r b' h (fun g hg => hs g (by simp [hg]))
      rw [this, rbad_keep b s g (hs g (by simp))]
/-- Each field once, and one of them at most says anew whether a field is bad. -/
def good : List Fld → Prop
  | [] => True
  | f :: t => f ∉ t ∧ (setter f → ∀ g ∈ t, ¬ setter g) ∧ good t
theorem good_flds (k : Int) : good (flds k) := by
  unfold flds
  split; · simp [good, setter]
  split; · simp [good, setter]
  split; · simp [good, setter]
  split; · simp [good, setter]
  split; · simp [good, setter]
  split; · simp [good, setter]
  simp [good, setter]
theorem rd_inv : ∀ (l : List Fld) (d : DG) (s : ByteArray) (b : Bool) (x : DG) (r : ByteArray), good l → rdF l d s b = some (x, r, false) →
    bs s = l.flatMap (fb x) ++ bs r ∧ (∀ f ∈ l, okF x f) ∧ x = l.foldl (cp x) d ∧ (d.Ok → x.Ok) ∧ x.kind = d.kind
  | [], d, s, b, x, r, _, h => by
    simp only [rdF, Option.some.injEq, Prod.mk.injEq] at h
    obtain ⟨rfl, rfl, _⟩ := h
    exact ⟨by simp, fun f hf => absurd hf (by simp), rfl, id, rfl⟩
  | f :: t, d, s, b, x, r, hg, h => by
    simp only [rdF] at h
    split at h
    · cases h
    · rename_i n hn
      obtain ⟨h1, h2, h3, h4, h5⟩ := rd_inv t _ _ _ x r hg.2.2 h
      obtain ⟨k1, k2, k3⟩ := rd_keep f t _ _ _ x r false h hg.1
      have hb : setter f → Fld.rbad b s f = false := fun hs => (rd_bad t _ _ _ x r false h (hg.2.1 hs)).symm
      obtain ⟨e1, e2⟩ := step_inv d s f n b hn hb
      refine ⟨?_, ?_, ?_, fun hd => h4 (upd_ok d hd s f), h5.trans (upd_kind d s f)⟩
      · rw [e1, h1, List.flatMap_cons, k1, List.append_assoc]
      · intro g hgm
        rcases List.mem_cons.1 hgm with rfl | hgm
        · rw [k2]; exact e2
        · exact h2 g hgm
      · rw [List.foldl_cons, k3 d, upd_cp_self]
        exact h3

theorem d0_ok (k : Int) (h1 : 1 ≤ k) (h7 : k ≤ 7) : DG.Ok { d0 with kind := k } := ⟨by show (0 : Nat) < _; decide, by show (0 : Nat) < _; decide, by show (0 : Nat) < _; decide, ⟨by show _ ≤ k; omega, by show k < _; omega⟩, ⟨by show _ ≤ (0 : Int); decide, by show (0 : Int) < _; decide⟩, ⟨by show _ ≤ (0 : Int); decide, by show (0 : Int) < _; decide⟩, ⟨by show _ ≤ (0 : Int); decide, by show (0 : Int) < _; decide⟩⟩
/-- What is taken apart without error is written to the same bytes. -/
theorem dec_enc (s : ByteArray) (h : (Get.decode s).2 = 0) :
    let x := (Get.decode s).1
    x.Ok ∧ (1 ≤ x.kind ∧ x.kind ≤ 7) ∧ (∀ f ∈ flds x.kind, okF x f) ∧ bs s = wire x ∧ s.size ≤ 1200 ∧ x = onlyD x := by
  unfold Get.decode at h ⊢
  by_cases c1 : 1200 < s.size
  · rw [if_pos c1] at h; exact absurd h (by decide)
  rw [if_neg c1] at h ⊢
  by_cases c2 : hasMagic s = false
  · rw [if_pos c2] at h; exact absurd h (by decide)
  rw [if_neg c2] at h ⊢
  by_cases c3 : (bodyS s).size = 0 ∨ ¬ (1 ≤ kindB (bodyS s) ∧ kindB (bodyS s) ≤ 7)
  · rw [if_pos c3] at h; exact absurd h (by decide)
  rw [if_neg c3] at h ⊢
  have hk : 1 ≤ kindB (bodyS s) ∧ kindB (bodyS s) ≤ 7 := Classical.byContradiction fun hn => c3 (.inr hn)
  have hz : (bodyS s).size ≠ 0 := fun e => c3 (.inl e)
  cases hr : rdF (flds (kindB (bodyS s))) { d0 with kind := kindB (bodyS s) } (tail1 (bodyS s)) false with
  | none => rw [hr] at h; exact absurd h (by decide)
  | some R =>
    obtain ⟨x, r, b⟩ := R
    rw [hr] at h
    simp only [decR] at h ⊢
    by_cases c4 : 0 < r.size
    · rw [if_pos c4] at h; exact absurd h (by decide)
    rw [if_neg c4] at h ⊢
    cases b with
    | true => rw [if_pos rfl] at h; exact absurd h (by decide)
    | false =>
      rw [if_neg (by decide)]
      obtain ⟨h1, h2, h3, h4, h5⟩ := rd_inv _ _ _ _ x r (good_flds _) hr
      have hxk : x.kind = kindB (bodyS s) := h5
      have hr0 : bs r = [] := by
        have := bs_length r
        exact List.length_eq_zero_iff.1 (by omega)
      rw [hr0, List.append_nil] at h1
      refine ⟨h4 (d0_ok _ hk.1 hk.2), by rw [hxk]; exact hk, by rw [hxk]; exact h2, ?_, by omega, ?_⟩
      · have hm : Lib.hasPrefix s.data.toList [74, 48, 49] = true := by
          have : hasMagic s = true := by simpa using c2
          exact this
        have hpre : [74, 48, 49] <+: s.data.toList := by
          unfold Lib.hasPrefix at hm
          exact List.isPrefixOf_iff_prefix.1 hm
        obtain ⟨u, hu⟩ := hpre
        have hbody : bs (bodyS s) = u := by
          unfold bodyS
          rw [bs_mk]
          unfold Lib.trimPrefix
          rw [if_pos hm, ← hu]
          simp
        show s.data.toList = wire x
        rw [← hu]
        unfold wire
        show [74, 48, 49] ++ u = [74, 48, 49] ++ _
        congr 1
        rw [hxk, ← h1]
        cases hub : u with
        | nil => rw [hub] at hbody; rw [size_of hbody] at hz; exact absurd rfl hz
        | cons c v =>
          rw [hub] at hbody
          have ht : bs (tail1 (bodyS s)) = v := ext_tail (l := [c]) hbody rfl
          rw [ht]
          congr 1
          unfold kindB
          rw [hbody]
          simp
      · show x = onlyD x
        unfold onlyD
        rw [hxk]
        exact h3
/-- Body, of a datagram that can be taken apart. -/
theorem body_wire (x : DG) (s : ByteArray) (h1 : 1 ≤ x.kind) (h7 : x.kind ≤ 7) (hok : ∀ f ∈ flds x.kind, okF x f) (hs : bs s = wire x) : (bodyOf s).size = 0 ↔ x.kind ≤ 2 := by
  by_cases h3 : 3 ≤ x.kind
  · have ht : x.tag.size = 32 := hok .tag (by rw [flds_tag x.kind h3]; simp)
    have hw : bs s = preB x ++ bs x.tag := by
      rw [hs]
      have := wire_tag x h3 x.tag
      exact this
    rw [body_tag x h3 h7 ht hw]
    constructor
    · intro h
      have := size_of (bs_mk (preB x))
      rw [h] at this
      have h4 : (preB x).length ≠ 0 := by unfold preB magicB; simp
      omega
    · intro h; omega
  · have hk : kind3 s = x.kind := by
      unfold kind3
      rw [hs]
      show (((UInt8.ofNat x.kind.toNat).toNat : Nat) : Int) = x.kind
      simp; omega
    unfold bodyOf
    rw [if_pos (.inr (.inr (by rw [hk]; omega)))]
    exact ⟨fun _ => by omega, fun _ => rfl⟩
theorem enc_again (s : ByteArray) (h : (Get.decode s).2 = 0) : encode (Get.decode s).1 = (s, 0) := by
  obtain ⟨h1, h2, h3, h4, h5, h6⟩ := dec_enc s h
  rw [encode_ok _ h1 h2.1 h2.2 h3, if_neg (by rw [← h4, bs_length]; omega), ← h4, mk_bs]
/-- The errors of Decode and Encode. -/
theorem decode_err (s : ByteArray) (h : (Get.decode s).2 ≠ 0) : (Get.decode s).1 = d0 ∧ 70 ≤ (Get.decode s).2 ∧ (Get.decode s).2 ≤ 73 := by
  unfold Get.decode at h ⊢
  split
  · exact ⟨rfl, by decide, by decide⟩
  split
  · exact ⟨rfl, by decide, by decide⟩
  split
  · exact ⟨rfl, by decide, by decide⟩
  rename_i c1 c2 c3
  rw [if_neg c1, if_neg c2, if_neg c3] at h
  unfold decR at h ⊢
  split
  · exact ⟨rfl, by decide, by decide⟩
  · rename_i hr
    rw [hr] at h
    simp only at h
    split
    · exact ⟨rfl, by decide, by decide⟩
    · rename_i c4
      rw [if_neg c4] at h
      split
      · exact ⟨rfl, by decide, by decide⟩
      · rename_i c5
        rw [if_neg c5] at h
        exact absurd rfl h
theorem encode_err (d : DG) (h : (encode d).2 ≠ 0) : (encode d).1 = ⟨#[]⟩ ∧ 71 ≤ (encode d).2 ∧ (encode d).2 ≤ 73 := by
  unfold encode at h ⊢
  split
  · rename_i c1
    rw [if_pos c1] at h
    unfold encR at h ⊢
    split
    · exact ⟨rfl, by decide, by decide⟩
    · rename_i c2
      rw [if_neg c2] at h
      split
      · exact ⟨rfl, by decide, by decide⟩
      · rename_i c3
        rw [if_neg c3] at h
        split
        · exact ⟨rfl, by decide, by decide⟩
        · rename_i c4
          rw [if_neg c4] at h
          exact absurd rfl h
  · exact ⟨rfl, by decide, by decide⟩
end Go.Proofs.YtejlffeiebfboaaGreatDoor.Law
