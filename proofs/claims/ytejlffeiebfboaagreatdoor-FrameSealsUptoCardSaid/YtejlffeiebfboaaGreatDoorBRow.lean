/- The bytes of a '[]byte(s)' as a row that can be written; and back to a string. -/
import Derived.Test.YtejlffeiebfboaaGreatDoorBytes
set_option linter.unusedVariables false
set_option linter.unusedSimpArgs false
namespace Go.Proofs.YtejlffeiebfboaaGreatDoor.Mem
open Go Go.RowKit

/-- Block b begins with these bytes, none of them frozen. -/
structure BRow (w : World) (b : Nat) (l : List UInt8) : Prop where
  mk :: (out : ∃ (extra : Array Value) (e : TypeId) (lo hi : Nat), w.heap[b]? = some (.cells ((l.map bv).toArray ++ extra) e (lo, hi)) ∧ l.length ≤ lo)
theorem BRow.cell {w : World} {b : Nat} {l : List UInt8} (h : BRow w b l) (j : Nat) (hj : j < l.length) : w.cell? ⟨b, j, none⟩ = some (.int .u8 ((l.getD j 0).toNat : Int)) := by
  obtain ⟨extra, e, lo, hi, hb, hl⟩ := h.out
  rw [cell_of_row w b j _ e _ hb, Array.getElem?_append_left (by simpa using hj)]
  simp [bv, List.getD, hj]
theorem BRow.frozen {w : World} {b : Nat} {l : List UInt8} (h : BRow w b l) (j : Nat) (hj : j < l.length) : w.frozen? ⟨b, j, none⟩ = false := by
  obtain ⟨extra, e, lo, hi, hb, hl⟩ := h.out
  simp [World.frozen?, hb]
  intro h; omega
theorem BRow.lt {w : World} {b : Nat} {l : List UInt8} (h : BRow w b l) : b < w.heap.size := by
  obtain ⟨extra, e, lo, hi, hb, hl⟩ := h.out
  exact (Array.getElem?_eq_some_iff.1 hb).1
theorem BRow.drew {w : World} {b : Nat} {l : List UInt8} (h : BRow w b l) : BRow w.drew b l := ⟨h.out⟩
theorem BRow.chg {w w' : World} {F : Nat → Prop} {b : Nat} {l : List UInt8} (h : BRow w b l) (hc : Chg F w w') (hF : ¬ F b) : BRow w' b l := by
  obtain ⟨extra, e, lo, hi, hb, hl⟩ := h.out
  exact ⟨extra, e, lo, hi, by rw [hc.block b h.lt hF]; exact hb, hl⟩
theorem BRow.set {w : World} {b : Nat} {l : List UInt8} (h : BRow w b l) (j : Nat) (hj : j < l.length) (c : UInt8) : BRow (w.setCell ⟨b, j, none⟩ (.int .u8 (c.toNat : Int))) b (l.set j c) := by
  obtain ⟨extra, e, lo, hi, hb, hl⟩ := h.out
  refine ⟨extra, e, lo, hi, ?_, by simpa using hl⟩
  rw [setCell_eq_setRow w b j _ e (lo, hi) _ hb]
  have := setRow_heap w b _ ((((l.map bv).toArray ++ extra).setIfInBounds j (.int .u8 (c.toNat : Int)))) e (lo, hi) hb
  rw [this]
  congr 2
  apply Array.ext'
  simp [List.set_append, hj, List.map_set, bv]
theorem BRow.slB {w : World} {b c : Nat} {l : List UInt8} (h : BRow w b l) (hc : l.length ≤ c) : SlB w (fun _ => True) (.slice (some ⟨b, 0, none⟩) l.length c) l :=
  ⟨_, c, rfl, hc, fun _ => ⟨b, 0, rfl, trivial, fun j hj => by rw [Nat.zero_add]; exact h.cell j hj⟩⟩
section laws
variable {P : Program} {ops : Array Oper} {rest : List Oper} {o : Oper} {a : Act} {w : World} {Q : Exit → Act → World → Prop}
/-- '[]byte(s)' -/
theorem wpList_bytesR (hgd : o.guard = none) (src dst : TypeId) (x : Operand) (ho : o.op = .convert src dst x) (s : ByteArray) (hx : a.eval x = .string s) (e : TypeId) {u : TypeDesc}
    (hs : P.underlying src = some u) (hd : P.underlying dst = some (.slice e)) (he : P.underlying e = some (.int .u8))
    (h : ∀ w' c, s.size ≤ c → BRow w' w.heap.size (bs s) → Chg (fun _ => False) w w' → wpList P ops Q rest (a.put o.dst (.slice (some ⟨w.heap.size, 0, none⟩) s.size c)) w') :
    wpList P ops Q (o :: rest) a w := by
  refine wpList_plain hgd fun K hK => ?_
  unfold Oper.wp execOp
  simp only [ho, hx, Lib.run_convert_string_bytes w src dst e s hs hd he, Sem.run_bind, Sem.run_pure, Result.andThen_ok]
  refine hK _ _ (h (Lib.bytesWorld w e s) (grownCap w s.size 0 e) (grownCap_ge _ _ _ _) ?_ ?_)
  · refine ⟨Array.replicate (grownCap w s.size 0 e - s.size) (.int .u8 0), e, (Lib.bytesCells w e s).size, (Lib.bytesCells w e s).size + 1, ?_, ?_⟩
    · rw [Lib.bytesWorld_at_new]
      congr 2
      unfold Lib.bytesCells bs
      congr 1
      apply Array.ext'
      simp [bv]
    · rw [bs_length]
      unfold Lib.bytesCells
      rw [Array.size_append, Array.size_map]
      exact Nat.le_add_right _ _
  · exact ⟨rfl, rfl, rfl, by rw [Lib.bytesWorld_size]; omega, fun k hk _ => Lib.bytesWorld_at_old w e s k hk⟩
end laws
end Go.Proofs.YtejlffeiebfboaaGreatDoor.Mem
