/- The plain law of FrameSeals. -/
import Derived.Test.YtejlffeiebfboaaGreatDoorSealLaw
set_option linter.unusedVariables false
set_option linter.unusedSimpArgs false
namespace Go.Proofs.YtejlffeiebfboaaGreatDoor.Law
open Go Go.RowKit Go.Proofs.YtejlffeiebfboaaGreatDoor.Mem Go.Proofs.YtejlffeiebfboaaGreatDoor.PackW Go.Proofs.YtejlffeiebfboaaGreatDoor.PackR Go.Proofs.YtejlffeiebfboaaGreatDoor.Put Go.Proofs.YtejlffeiebfboaaGreatDoor.Get

/-- A kind byte that has a tag. -/
def kd (d : DG) : UInt8 := UInt8.ofNat d.kind.toNat
theorem preB_cons (d : DG) : preB d = magicB ++ (kd d :: (ahead d.kind).flatMap (fb d)) := rfl
/-- Whatever stands behind the body. -/
theorem body_any_tail (d : DG) (h3 : 3 ≤ d.kind) (h7 : d.kind ≤ 7) (s : ByteArray) (l : List UInt8) (hs : bs s = preB d ++ l) (hl : l.length = 32) : bodyOf s = ⟨(preB d).toArray⟩ := by
  have h : bs s = preB d ++ bs ⟨l.toArray⟩ := by rw [hs, bs_mk]
  exact body_tag d h3 h7 (by rw [size_of (bs_mk l)]; exact hl) h
theorem ba_mk_size (l : List UInt8) : (⟨l.toArray⟩ : ByteArray).size = l.length := size_of (bs_mk l)
/-- Sealed is: the last bytes are the tag of the body. -/
theorem sealed_split (d : DG) (h3 : 3 ≤ d.kind) (h7 : d.kind ≤ 7) (hp : 20 ≤ (preB d).length) (key s : ByteArray) (l : List UInt8) (hs : bs s = preB d ++ l) (hl : l.length = 32) :
    sealedF s key = decide (l = bs (Mac.tagB key ⟨(preB d).toArray⟩)) := by
  have hb := body_any_tail d h3 h7 s l hs hl
  unfold sealedF
  rw [hb, ba_mk_size, if_neg (by omega)]
  have he : bs (s.extract (preB d).length s.size) = l := ext_tail hs rfl
  rw [decide_eq_decide]
  constructor
  · intro h; rw [← he, h]
  · intro h; exact bs_inj (he.trans h)
/-- One of the last thirty-two bytes is another. -/
theorem sealed_flip (d : DG) (h3 : 3 ≤ d.kind) (h7 : d.kind ≤ 7) (hp : 20 ≤ (preB d).length) (key s : ByteArray) (hs : bs s = preB d ++ bs (Mac.tagB key ⟨(preB d).toArray⟩)) (i : Nat) (hi : i < 32) (c : UInt8) (hc : c ≠ (bs s).getD (s.size - 1 - i) 0) :
    sealedF ⟨((bs s).set (s.size - 1 - i) c).toArray⟩ key = false := by
  have hz : s.size = (preB d).length + 32 := by rw [size_of hs, List.length_append, bs_length, tagB_size]
  have hT : (bs (Mac.tagB key ⟨(preB d).toArray⟩)).length = 32 := by rw [bs_length, tagB_size]
  have hset : (bs s).set (s.size - 1 - i) c = preB d ++ (bs (Mac.tagB key ⟨(preB d).toArray⟩)).set (31 - i) c := by
    rw [hs, List.set_append_right _ _ (by omega)]
    congr 2; omega
  rw [sealed_split d h3 h7 hp key _ ((bs (Mac.tagB key ⟨(preB d).toArray⟩)).set (31 - i) c) (by rw [bs_mk, hset]) (by simp [hT])]
  refine decide_eq_false fun h => hc ?_
  have h1 : ((bs (Mac.tagB key ⟨(preB d).toArray⟩)).set (31 - i) c).getD (31 - i) 0 = c := by
    rw [List.getD, List.getElem?_set_self (by rw [hT]; omega)]; rfl
  rw [h] at h1
  rw [hs, ← h1]
  simp only [List.getD]
  rw [List.getElem?_append_right (by omega)]
  congr 2; omega
end Go.Proofs.YtejlffeiebfboaaGreatDoor.Law
