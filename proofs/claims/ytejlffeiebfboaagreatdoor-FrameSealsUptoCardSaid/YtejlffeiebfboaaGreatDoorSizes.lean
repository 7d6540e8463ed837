/- What the second form's bound gives of the room that a datagram takes. -/
import Derived.Test.YtejlffeiebfboaaGreatDoorSealLaw
set_option linter.unusedVariables false
set_option linter.unusedSimpArgs false
namespace Go.Proofs.YtejlffeiebfboaaGreatDoor.Law
open Go Go.RowKit Go.Proofs.YtejlffeiebfboaaGreatDoor.Mem Go.Proofs.YtejlffeiebfboaaGreatDoor.PackW Go.Proofs.YtejlffeiebfboaaGreatDoor.Put Go.Proofs.YtejlffeiebfboaaGreatDoor.Get

theorem size_gen (d : DG) (k : Int) (hz : ∀ f, Fld.size d f ≤ 1048576 + 300) : 4 + sizeF d (flds k) ≤ 140737488355328 := by
  have hg : ∀ l : List Fld, sizeF d l ≤ l.length * (1048576 + 300) := by
    intro l
    induction l with
    | nil => simp [sizeF]
    | cons f t ih =>
      have := hz f
      simp only [sizeF, List.map_cons, List.sum_cons, List.length_cons] at *
      omega
  have h1 := hg (flds k)
  have h2 := (flds_len k).2
  omega
theorem size_le0 (d : DG) (k : Int) (h : d.nonce.size + d.cookie.size + d.name.size + d.salt.size + d.data.size + d.tag.size ≤ 1048576) : 4 + sizeF d (flds k) ≤ 140737488355328 :=
  size_gen d k (by intro f; cases f <;> simp only [Fld.size] <;> omega)
theorem size_leT (d : DG) (k : Int) (T : ByteArray) (hT : T.size = 32) (h : d.nonce.size + d.cookie.size + d.name.size + d.salt.size + d.data.size + d.tag.size ≤ 1048576) : 4 + sizeF { d with tag := T } (flds k) ≤ 140737488355328 :=
  size_gen _ k (by intro f; cases f <;> simp only [Fld.size] <;> omega)
end Go.Proofs.YtejlffeiebfboaaGreatDoor.Law
