/- The plain law of what is sealed. -/
import Derived.Test.YtejlffeiebfboaaGreatDoorBack2
set_option linter.unusedVariables false
set_option linter.unusedSimpArgs false
namespace Go.Proofs.YtejlffeiebfboaaGreatDoor.Law
open Go Go.RowKit Go.Proofs.YtejlffeiebfboaaGreatDoor.Mem Go.Proofs.YtejlffeiebfboaaGreatDoor.PackW Go.Proofs.YtejlffeiebfboaaGreatDoor.PackR Go.Proofs.YtejlffeiebfboaaGreatDoor.Put Go.Proofs.YtejlffeiebfboaaGreatDoor.Get

/-- The fields ahead of the tag. -/
def ahead (k : Int) : List Fld :=
  if k = 3 then [.nonce, .epoch, .cookie, .name] else if k = 4 then [.nonce, .session, .player, .salt] else if k = 5 then [.session, .seq, .command] else if k = 6 then [.session, .seq, .data] else [.session, .seq]
theorem flds_tag (k : Int) (h3 : 3 ≤ k) : flds k = ahead k ++ [.tag] := by
  unfold flds ahead
  rw [if_neg (by omega), if_neg (by omega)]
  by_cases e3 : k = 3
  · rw [if_pos e3, if_pos e3]; rfl
  rw [if_neg e3, if_neg e3]
  by_cases e4 : k = 4
  · rw [if_pos e4, if_pos e4]; rfl
  rw [if_neg e4, if_neg e4]
  by_cases e5 : k = 5
  · rw [if_pos e5, if_pos e5]; rfl
  rw [if_neg e5, if_neg e5]
  by_cases e6 : k = 6
  · rw [if_pos e6, if_pos e6]; rfl
  rw [if_neg e6, if_neg e6]; rfl
theorem ahead_ne (k : Int) : ∀ f ∈ ahead k, f ≠ .tag := by
  unfold ahead
  intro f hf e
  subst e
  split at hf
  · simp at hf
  split at hf
  · simp at hf
  split at hf
  · simp at hf
  split at hf
  · simp at hf
  simp at hf
theorem fb_tag (d : DG) (T : ByteArray) (f : Fld) (h : f ≠ .tag) : fb { d with tag := T } f = fb d f := by cases f <;> first | rfl | exact absurd rfl h
theorem okF_tag (d : DG) (T : ByteArray) (f : Fld) (h : f ≠ .tag) : okF { d with tag := T } f = okF d f := by cases f <;> first | rfl | exact absurd rfl h
/-- The bytes ahead of the tag. -/
def preB (d : DG) : List UInt8 := magicB ++ (UInt8.ofNat d.kind.toNat :: (ahead d.kind).flatMap (fb d))
theorem flatMap_congr' {α β : Type} {f g : α → List β} : ∀ {l : List α}, (∀ x ∈ l, f x = g x) → l.flatMap f = l.flatMap g
  | [], _ => rfl
  | x :: l, h => by rw [List.flatMap_cons, List.flatMap_cons, h x (by simp), flatMap_congr' (fun y hy => h y (by simp [hy]))]
theorem wire_tag (d : DG) (h3 : 3 ≤ d.kind) (T : ByteArray) : wire { d with tag := T } = preB d ++ bs T := by
  unfold wire preB
  show magicB ++ (UInt8.ofNat d.kind.toNat :: (flds d.kind).flatMap (fb { d with tag := T })) = _
  rw [flds_tag d.kind h3, List.flatMap_append, flatMap_congr' (fun f hf => fb_tag d T f (ahead_ne _ f hf))]
  simp [fb]
theorem okF_tags (d : DG) (h3 : 3 ≤ d.kind) (T : ByteArray) (hT : T.size = 32) : (∀ f ∈ flds d.kind, okF { d with tag := T } f) ↔ ∀ f ∈ ahead d.kind, okF d f := by
  rw [flds_tag d.kind h3]
  constructor
  · intro h f hf
    have := h f (by simp [hf])
    rwa [okF_tag d T f (ahead_ne _ f hf)] at this
  · intro h f hf
    rcases List.mem_append.1 hf with hf | hf
    · rw [okF_tag d T f (ahead_ne _ f hf)]; exact h f hf
    · rw [List.mem_singleton.1 hf]; exact hT
theorem Ok_tag (d : DG) (hd : d.Ok) (T : ByteArray) : DG.Ok { d with tag := T } := ⟨hd.epoch, hd.session, hd.seq, hd.kind, hd.player, hd.throttle, hd.turn⟩
theorem preB_min (d : DG) (hok : ∀ f ∈ ahead d.kind, okF d f) : 20 ≤ (preB d).length := by
  have : 16 ≤ ((ahead d.kind).flatMap (fb d)).length := by
    unfold ahead at hok ⊢
    by_cases e3 : d.kind = 3
    · rw [if_pos e3] at hok ⊢
      have hn : d.nonce.size = 16 := hok .nonce (by simp)
      simp only [List.flatMap_cons, List.length_append, fb, bs_length]; omega
    rw [if_neg e3] at hok ⊢
    by_cases e4 : d.kind = 4
    · rw [if_pos e4] at hok ⊢
      have hn : d.nonce.size = 16 := hok .nonce (by simp)
      simp only [List.flatMap_cons, List.length_append, fb, bs_length]; omega
    rw [if_neg e4]
    split
    · simp only [List.flatMap_cons, List.length_append, fb, Put.be_length]; omega
    split
    · simp only [List.flatMap_cons, List.length_append, fb, Put.be_length]; omega
    · simp only [List.flatMap_cons, List.length_append, fb, Put.be_length]; omega
  unfold preB
  simp only [magicB, List.length_append, List.length_cons, List.length_nil]; omega

/-- What stands ahead of thirty-two bytes is the body. -/
theorem body_of {s T : ByteArray} {P : List UInt8} {k : UInt8} {R : List UInt8} (hP : P = magicB ++ (k :: R)) (hs : bs s = P ++ bs T) (hT : T.size = 32) (hk : 3 ≤ k.toNat ∧ k.toNat ≤ 7) : bodyOf s = ⟨P.toArray⟩ := by
  have hz := size_of hs
  rw [List.length_append, bs_length, hT] at hz
  have hPl : P.length = 4 + R.length := by rw [hP]; simp [magicB]; omega
  have hdl : s.data.toList = P ++ bs T := hs
  have hm : hasMagic s = true := by
    unfold hasMagic Lib.hasPrefix
    rw [hdl, hP]; rfl
  have hk3 : kind3 s = k.toNat := by
    unfold kind3
    rw [hs, hP]; rfl
  unfold bodyOf
  rw [hm, hk3, if_neg (by simp; omega)]
  apply bs_inj
  rw [bs_ext, hs, bs_mk, List.drop_zero]
  have : s.size - 32 = P.length := by omega
  rw [this, List.take_left, bs_mk]

theorem zeros32_size : zeros32.size = 32 := by decide +kernel
theorem ba_append (a b : ByteArray) : bs (a ++ b) = bs a ++ bs b := by simp [bs]
theorem kind_byte (d : DG) (h3 : 3 ≤ d.kind) (h7 : d.kind ≤ 7) : 3 ≤ (UInt8.ofNat d.kind.toNat).toNat ∧ (UInt8.ofNat d.kind.toNat).toNat ≤ 7 := by
  have : (UInt8.ofNat d.kind.toNat).toNat = d.kind.toNat := by simp; omega
  omega
theorem body_tag (d : DG) (h3 : 3 ≤ d.kind) (h7 : d.kind ≤ 7) {s T : ByteArray} (hT : T.size = 32) (hs : bs s = preB d ++ bs T) : bodyOf s = ⟨(preB d).toArray⟩ :=
  body_of (R := (ahead d.kind).flatMap (fb d)) rfl hs hT (kind_byte d h3 h7)

/-- Encode of a kind with a tag, whatever the tag of thirty-two bytes. -/
theorem encode_tag (d : DG) (hd : d.Ok) (h3 : 3 ≤ d.kind) (h7 : d.kind ≤ 7) (T : ByteArray) (hT : T.size = 32) :
    ((∀ f ∈ ahead d.kind, okF d f) → encode { d with tag := T } = if 1200 < (preB d).length + 32 then (⟨#[]⟩, 72) else (⟨(preB d ++ bs T).toArray⟩, 0)) ∧
    (¬ (∀ f ∈ ahead d.kind, okF d f) → encode { d with tag := T } = (⟨#[]⟩, 73)) := by
  have hO := Ok_tag d hd T
  have hw := wire_tag d h3 T
  constructor
  · intro hok
    have := encode_ok { d with tag := T } hO (by show 1 ≤ d.kind; omega) h7 ((okF_tags d h3 T hT).2 hok)
    rw [hw, List.length_append, bs_length, hT] at this
    exact this
  · intro hno
    refine encode_bad { d with tag := T } hO (by show 1 ≤ d.kind; omega) h7 ?_
    have hno2 : ¬ ∀ f ∈ flds d.kind, okF { d with tag := T } f := fun h => hno ((okF_tags d h3 T hT).1 h)
    exact Classical.byContradiction fun hn => hno2 fun f hf => Classical.byContradiction fun h => hn ⟨f, hf, h⟩

/-- What Seal gives. -/
theorem seal_form (d : DG) (hd : d.Ok) (key : ByteArray) (h : (sealF d key).2 = 0) :
    (3 ≤ d.kind ∧ d.kind ≤ 7) ∧ (∀ f ∈ ahead d.kind, okF d f) ∧ (preB d).length + 32 ≤ 1200 ∧ (sealF d key).1 = ⟨(preB d).toArray⟩ ++ Mac.tagB key ⟨(preB d).toArray⟩ := by
  by_cases hk : 3 ≤ d.kind ∧ d.kind ≤ 7
  · obtain ⟨he1, he2⟩ := encode_tag d hd hk.1 hk.2 zeros32 zeros32_size
    by_cases hok : ∀ f ∈ ahead d.kind, okF d f
    · have he := he1 hok
      by_cases hl : 1200 < (preB d).length + 32
      · rw [if_pos hl] at he
        unfold sealF at h
        rw [if_neg (by simpa using hk), he, if_pos (by decide)] at h
        exact absurd h (by decide)
      · rw [if_neg hl] at he
        refine ⟨hk, hok, by omega, ?_⟩
        unfold sealF
        rw [if_neg (by simpa using hk), he]
        have hb : bodyOf (⟨(preB d ++ bs zeros32).toArray⟩ : ByteArray) = ⟨(preB d).toArray⟩ := body_tag d hk.1 hk.2 zeros32_size (bs_mk _)
        simp only [hb]
        rfl
    · unfold sealF at h
      rw [if_neg (by simpa using hk), he2 hok, if_pos (by decide)] at h
      exact absurd h (by decide)
  · unfold sealF at h
    rw [if_pos hk] at h
    exact absurd h (by decide)
theorem seal_fail (d : DG) (key : ByteArray) (h : (sealF d key).2 ≠ 0) : (sealF d key).1 = ⟨#[]⟩ ∧ ((¬ (3 ≤ d.kind ∧ d.kind ≤ 7) ∧ (sealF d key).2 = 71) ∨ ((3 ≤ d.kind ∧ d.kind ≤ 7) ∧ (encode { d with tag := zeros32 }).2 ≠ 0 ∧ (sealF d key).2 = (encode { d with tag := zeros32 }).2)) := by
  unfold sealF at h ⊢
  by_cases hk : ¬ (3 ≤ d.kind ∧ d.kind ≤ 7)
  · rw [if_pos hk] at h ⊢
    exact ⟨rfl, .inl ⟨hk, rfl⟩⟩
  · rw [if_neg hk] at h ⊢
    by_cases he : (encode { d with tag := zeros32 }).2 ≠ 0
    · rw [if_pos he] at h ⊢
      exact ⟨rfl, .inr ⟨Classical.not_not.1 hk, he, rfl⟩⟩
    · rw [if_neg he] at h
      exact absurd rfl h
theorem seal_encode (d : DG) (hd : d.Ok) (key : ByteArray) (h : (sealF d key).2 = 0) :
    encode { d with tag := Mac.tagB key ⟨(preB d).toArray⟩ } = ((sealF d key).1, 0) := by
  obtain ⟨hk, hok, hl, he⟩ := seal_form d hd key h
  rw [(encode_tag d hd hk.1 hk.2 _ (tagB_size key _)).1 hok, if_neg (by omega), he]
  congr 1
theorem seal_back (d : DG) (hd : d.Ok) (key : ByteArray) (h : (sealF d key).2 = 0) :
    Get.decode (sealF d key).1 = (onlyD { d with tag := Mac.tagB key ⟨(preB d).toArray⟩ }, 0) := by
  have he := seal_encode d hd key h
  have := back _ (Ok_tag d hd (Mac.tagB key ⟨(preB d).toArray⟩)) (by rw [he])
  rw [he] at this
  exact this
theorem cp_kind (d : DG) (l : List Fld) (d' : DG) : (l.foldl (cp d) d').kind = d'.kind := by
  induction l generalizing d' with
  | nil => rfl
  | cons f t ih => rw [List.foldl_cons, ih]; cases f <;> rfl
theorem onlyD_kind (d : DG) : (onlyD d).kind = d.kind := by unfold onlyD; rw [cp_kind]
theorem apart_law (d : DG) (hd : d.Ok) (key : ByteArray) (h : (sealF d key).2 = 0) : (Get.decode (sealF d key).1).2 = 0 ∧ (Get.decode (sealF d key).1).1.kind = d.kind := by
  rw [seal_back d hd key h]
  exact ⟨rfl, onlyD_kind _⟩
end Go.Proofs.YtejlffeiebfboaaGreatDoor.Law
