/- Memory as rows: what a block of cells holds, and what a call has left alone. -/
import Derived.WalkKit
import Derived.Deep.Draws
import Derived.Laws.CopyOwn
import Derived.Deep.WholeRow
set_option linter.unusedVariables false
set_option linter.unusedSimpArgs false
namespace Go.Proofs.YtejlffeiebfboaaGreatDoor.Mem
open Go Go.RowKit

/-- Block b holds the cells l, none of them frozen. -/
structure Row (w : World) (b : Nat) (T : TypeId) (l : List Value) : Prop where
  mk :: (out : w.heap[b]? = some (.cells l.toArray T (0, 0)))

/-- Only blocks of F, and new ones, have turned. -/
structure Chg (F : Nat → Prop) (w w' : World) : Prop where
  os : w'.os = w.os
  tape : w'.tape = w.tape
  output : w'.output = w.output
  size : w.heap.size ≤ w'.heap.size
  block : ∀ k, k < w.heap.size → ¬ F k → w'.heap[k]? = w.heap[k]?

section
variable {w w' w'' : World} {b : Nat} {T : TypeId} {l : List Value} {F G : Nat → Prop}

theorem Row.lt (h : Row w b T l) : b < w.heap.size := (Array.getElem?_eq_some_iff.1 h.out).1
theorem Row.cell (h : Row w b T l) (o : Nat) : w.cell? ⟨b, o, none⟩ = l[o]? := by
  rw [cell_of_row w b o _ T _ h.out]; simp
theorem Row.cellD (h : Row w b T l) (o : Nat) (ho : o < l.length) : w.cell? ⟨b, o, none⟩ = some (l.getD o undef) := by
  rw [h.cell]; simp [List.getD, ho]
theorem Row.frozen (h : Row w b T l) (o : Nat) : w.frozen? ⟨b, o, none⟩ = false := frozen_of_row w b o _ T h.out
theorem Row.set (h : Row w b T l) (o : Nat) (v : Value) : Row (w.setCell ⟨b, o, none⟩ v) b T (l.set o v) :=
  ⟨by rw [heap_setCell_same w b o _ T v h.out]; simp⟩
theorem Row.set_other (h : Row w b T l) {a : Addr} (v : Value) (ha : b ≠ a.block) : Row (w.setCell a v) b T l :=
  ⟨by rw [heap_setCell_other w a b v ha]; exact h.out⟩
theorem Row.alloc (h : Row w b T l) (o : Obj) : Row (w.alloc o) b T l := ⟨by rw [Go.heap_alloc_old w o h.lt]; exact h.out⟩
theorem Row.alloc_new (w : World) (T : TypeId) (l : List Value) : Row (w.alloc (.cells l.toArray T)) w.heap.size T l := ⟨heap_alloc_new w _⟩
theorem Row.drewN (h : Row w b T l) (n : Nat) : Row (w.drewN n) b T l := ⟨h.out⟩
theorem Row.drew (h : Row w b T l) : Row w.drew b T l := ⟨h.out⟩
theorem Row.setRow (h : Row w b T l) (m : List Value) : Row (w.setRow b m.toArray) b T m := ⟨setRow_heap w b _ _ T _ h.out⟩
theorem Row.setRow_other (h : Row w b T l) {g : Nat} (m : Array Value) (hg : b ≠ g) : Row (w.setRow g m) b T l := ⟨by rw [Go.setRow_other w g b m hg]; exact h.out⟩
theorem Row.chg (h : Row w b T l) (hc : Chg F w w') (hb : ¬ F b) : Row w' b T l := ⟨by rw [hc.block b h.lt hb]; exact h.out⟩
theorem Row.inj {m : List Value} {U : TypeId} (h : Row w b T l) (h' : Row w b U m) : l = m := by
  have := h.out.symm.trans h'.out
  simp at this; exact this.1

theorem Chg.refl (F : Nat → Prop) (w : World) : Chg F w w := ⟨rfl, rfl, rfl, Nat.le_refl _, fun _ _ _ => rfl⟩
theorem Chg.trans (h : Chg F w w') (k : Chg F w' w'') : Chg F w w'' :=
  ⟨k.os.trans h.os, k.tape.trans h.tape, k.output.trans h.output, Nat.le_trans h.size k.size, fun i hi hF => (k.block i (Nat.lt_of_lt_of_le hi h.size) hF).trans (h.block i hi hF)⟩
theorem Chg.mono (h : Chg F w w') (hFG : ∀ k, k < w.heap.size → F k → G k) : Chg G w w' := ⟨h.os, h.tape, h.output, h.size, fun k hk hG => h.block k hk (fun hF => hG (hFG k hk hF))⟩
theorem Chg.then (h : Chg F w w') (k : Chg G w' w'') (hG : ∀ i, i < w.heap.size → G i → F i) : Chg F w w'' :=
  ⟨k.os.trans h.os, k.tape.trans h.tape, k.output.trans h.output, Nat.le_trans h.size k.size, fun i hi hF => (k.block i (Nat.lt_of_lt_of_le hi h.size) (fun g => hF (hG i hi g))).trans (h.block i hi hF)⟩
theorem Chg.drewN (h : Chg F w w') (n : Nat) : Chg F w (w'.drewN n) := ⟨h.os, h.tape, h.output, h.size, h.block⟩
theorem Chg.drew (h : Chg F w w') : Chg F w w'.drew := ⟨h.os, h.tape, h.output, h.size, h.block⟩
theorem Chg.alloc (h : Chg F w w') (o : Obj) : Chg F w (w'.alloc o) :=
  ⟨h.os, h.tape, h.output, Nat.le_trans h.size (by simp), fun k hk hF => (Go.heap_alloc_old w' o (Nat.lt_of_lt_of_le hk h.size)).trans (h.block k hk hF)⟩
theorem Chg.setCell (h : Chg F w w') (a : Addr) (v : Value) (ha : a.block < w.heap.size → F a.block) : Chg F w (w'.setCell a v) :=
  ⟨h.os, h.tape, h.output, by simpa [World.setCell] using h.size, fun k hk hF => (heap_setCell_other w' a k v (fun e => hF (e ▸ ha (e ▸ hk)))).trans (h.block k hk hF)⟩
theorem Chg.setRow (h : Chg F w w') (g : Nat) (m : Array Value) (ha : g < w.heap.size → F g) : Chg F w (w'.setRow g m) :=
  ⟨h.os, h.tape, h.output, by simpa using h.size, fun k hk hF => (Go.setRow_other w' g k m (fun e => hF (e ▸ ha (e ▸ hk)))).trans (h.block k hk hF)⟩
theorem Chg.grown {row : Option Nat} (h : Chg F w w') (hg : w'.grownBy w'' row) (hr : ∀ k, row = some k → k < w.heap.size → F k) : Chg F w w'' :=
  ⟨hg.os.trans h.os, hg.tape.trans h.tape, hg.output.trans h.output, Nat.le_trans h.size hg.size, fun k hk hF => (hg.block k (Nat.lt_of_lt_of_le hk h.size) (fun e => hF (hr k e.symm hk))).trans (h.block k hk hF)⟩
theorem Chg.below (h : Chg (fun _ => False) w w') : Below w.heap.size w w' := ⟨h.os, h.tape, h.output, h.size, fun k hk => h.block k hk id⟩
theorem Chg.of_below (h : Below w.heap.size w w') : Chg F w w' := ⟨h.os, h.tape, h.output, h.size, fun k hk _ => h.block k hk⟩
theorem Chg.cell (h : Chg F w w') {a : Addr} (ha : a.block < w.heap.size) (hF : ¬ F a.block) : w'.cell? a = w.cell? a := World.cell?_of_block (w := w) (h.block a.block ha hF)
theorem Chg.frozen (h : Chg F w w') {a : Addr} (ha : a.block < w.heap.size) (hF : ¬ F a.block) : w'.frozen? a = w.frozen? a := World.frozen?_of_block (w := w) (h.block a.block ha hF)
theorem Chg.cell_some (h : Chg F w w') {a : Addr} {v : Value} (hv : w.cell? a = some v) (hF : ¬ F a.block) : w'.cell? a = some v := (h.cell (World.block_lt_of_cell? w a hv) hF).trans hv
end
/-- A part of an array, from 'lo' on. -/
theorem run_arr_from {P : Program} (t e n size : Nat) (ht : P.underlying t = some (.array n e)) (hs : (P.info? e).map (·.size) = some size) (b off : Nat) (l : Int) (lo : Nat) (hl : l = lo) (hlo : lo < n) (w : World) :
    (Instr.sliceAt t (.pointer (some ⟨b, off, none⟩)) (some (.int .i64 l)) none none).run P w = .ok (.slice (some ⟨b, off + lo * size, none⟩) (n - lo) (n - lo)) w := by
  subst hl
  cases hq : P.info? e with
  | none => simp [hq] at hs
  | some i =>
    have hi : i.size = size := by simpa [hq] using hs
    have hne : ¬ n = lo := by omega
    have hadd : (⟨b, off, none⟩ : Addr).add (lo * size) = ⟨b, off + lo * size, none⟩ := by
      unfold Addr.add; split
      · rename_i h0; rw [h0]; rfl
      · rfl
    simp [Instr.sliceAt, Instr.sureAddr, slicedAt, run_underlying ht, Instr.sliceBounds, run_sliceBound, sliced, sizeOf, typeInfo, hq, hi, hne, hadd, (by omega : (lo : Int) ≤ n)]
/-- A part of an array, up to 'hi'. -/
theorem run_arr_to {P : Program} (t e n size : Nat) (ht : P.underlying t = some (.array n e)) (hs : (P.info? e).map (·.size) = some size) (b off : Nat) (h : Int) (hi : Nat) (hh : h = hi) (hhi : hi ≤ n) (w : World) :
    (Instr.sliceAt t (.pointer (some ⟨b, off, none⟩)) none (some (.int .i64 h)) none).run P w = .ok (.slice (some ⟨b, off, none⟩) hi n) w := by
  subst hh
  cases hq : P.info? e with
  | none => simp [hq] at hs
  | some i =>
    have hadd : (⟨b, off, none⟩ : Addr).add 0 = ⟨b, off, none⟩ := rfl
    simp [Instr.sliceAt, Instr.sureAddr, slicedAt, run_underlying ht, Instr.sliceBounds, run_sliceBound, sliced, sizeOf, typeInfo, hq, hadd, (by omega : (hi : Int) ≤ n)]
section laws
variable {P : Program} {ops : Array Oper} {rest : List Oper} {o : Oper} {a : Act} {w : World} {Q : Exit → Act → World → Prop}

/-- A new variable of a type of several cells (or one): the world behind it is a variable. -/
theorem wpList_allocA (hgd : o.guard = none) (elem : TypeId) (ho : o.op = .alloc elem) (z : Value) (l : List Value) (hz : ∀ w, (zeroValue elem).run P w = .ok z w) (hl : z.cells = l.toArray)
    (h : ∀ w', w'.heap.size = w.heap.size + 1 → Row w' w.heap.size elem l → Chg (fun _ => False) w w' → wpList P ops Q rest (a.put o.dst (.pointer (some ⟨w.heap.size, 0, none⟩))) w') : wpList P ops Q (o :: rest) a w := by
  refine wpList_plain hgd fun K hK => ?_
  unfold Oper.wp execOp
  have hr := hz w
  simp only [ho, Instr.alloc, Sem.run_bind, Sem.run_pure, Result.andThen_ok, hr, newVar, newRow, hl]
  refine hK _ _ (h (w.alloc (.cells l.toArray elem)) (by simp) (Row.alloc_new _ _ _) ((Chg.refl _ _).alloc _))

/-- A whole row is stored. -/
theorem wpList_store_rowA (hgd : o.guard = none) (ty : TypeId) (x y : Operand) (ho : o.op = .store ty x y)
    (g : Nat) (cells : List Value) (hx : a.eval x = .pointer (some ⟨g, 0, none⟩)) (hy : a.eval y = .agg cells.toArray)
    (t : TypeId) (old : List Value) (hg : Row w g t old) (hi : (P.info? ty).map (·.size) = some cells.length)
    (hold : old.length = cells.length) (h1 : ∀ v ∈ cells, v.oneCell' = true)
    (h : ∀ w', Row w' g t cells → Chg (· = g) w w' → w'.heap.size = w.heap.size → wpList P ops Q rest (a.put o.dst undef) w') : wpList P ops Q (o :: rest) a w :=
  wpList_store_row hgd ty x y ho g cells.toArray hx hy t old.toArray hg.out (by simpa using hi) (by simpa using hold) (by simpa using h1)
    (h _ (hg.setRow _) ((Chg.refl _ _).setRow _ _ (fun _ => rfl)) (by simp))

/-- A whole row is loaded. -/
theorem wpList_load_rowA (hgd : o.guard = none) (ty : TypeId) (x : Operand) (ho : o.op = .load ty x)
    (g : Nat) (hx : a.eval x = .pointer (some ⟨g, 0, none⟩)) (t : TypeId) (l : List Value) (d : TypeDesc) (hg : Row w g t l)
    (hu : P.underlying ty = some d) (hd : (match d with | .struct _ | .array _ _ => true | _ => false) = true) (hi : (P.info? ty).map (·.size) = some l.length)
    (h : wpList P ops Q rest (a.put o.dst (.agg l.toArray)) w) : wpList P ops Q (o :: rest) a w :=
  wpList_load_row hgd ty x ho g hx t l.toArray (0, 0) d hg.out hu hd (by simpa using hi) h

/-- A composite literal. -/
theorem wpList_buildA (hg : o.guard = none) (t : TypeId) (parts : Array (Nat × Operand)) (ho : o.op = .build t parts) (cs : Array Value)
    (hf : P.built t (parts.map fun (i, x) => (i, a.eval x)).toList = some cs)
    (h : wpList P ops Q rest (a.put o.dst (.agg cs)) w) : wpList P ops Q (o :: rest) a w :=
  wpList_build hg t parts ho (by rw [hf]; rfl) (by rw [hf]; exact h)

/-- The builtin copy into a row. -/
theorem wpList_copyA (hgd : o.guard = none) (d s : Operand) (dT sT : TypeId)
    (ho : o.op = .call { callee := .builtin .copy, args := #[d, s], argTypes := #[dT, sT] }) (elem : TypeId) (hu : P.underlying dT = some (.slice elem)) (hsz : (P.info? elem).map (·.size) = some 1)
    (g off dLen dCap so sb sLen sCap : Nat) (hd : a.eval d = .slice (some ⟨g, off, none⟩) dLen dCap) (hs : a.eval s = .slice (some ⟨sb, so, none⟩) sLen sCap)
    (cur : List Value) (t : TypeId) (hg : Row w g t cur) (cs : List Value) (n : Nat) (hcl : cs.length = n) (hn : n = Nat.min sLen dLen)
    (hsrc : ∀ j v, cs[j]? = some v → w.cell? ⟨sb, so + j, none⟩ = some v) (hfit : off + n ≤ cur.length) (h1 : ∀ v ∈ cs, v.oneCell' = true)
    (h : ∀ w', Row w' g t (cur.take off ++ (cs ++ cur.drop (off + n))) → Chg (· = g) w w' → w'.heap.size = w.heap.size → wpList P ops Q rest (a.put o.dst (.int .i64 (n : Int))) w') : wpList P ops Q (o :: rest) a w := by
  subst hcl
  refine wpList_copy_own hgd d s dT sT ho elem hu hsz g off dLen dCap ⟨sb, so, none⟩ sLen sCap hd hs cur.toArray t hg.out cs hn ?_ (by simpa using hfit) h1 ?_
  · intro j v hv
    have hadd : (⟨sb, so, none⟩ : Addr).add j = ⟨sb, so + j, none⟩ := by
      unfold Addr.add; split
      · rename_i h0; simp [h0]
      · rfl
    rw [hadd]; exact hsrc j v hv
  · exact h _ (hg.setRow _) ((Chg.refl _ _).setRow _ _ (fun _ => rfl)) (by simp)
/-! The same as single steps, for a region that draws its order. -/
section steps
variable {K : Act → World → Prop} {E : Prop}
theorem step_of (hgd : o.guard = none) (h : o.wp P a w K Q) : if Region.wanted o (yielded ops a.tmps) = true then o.wp P a w K Q else E := by
  rw [if_pos (by simp [Region.wanted, hgd])]; exact h
theorem wp_allocA (elem : TypeId) (ho : o.op = .alloc elem) (z : Value) (l : List Value) (hz : ∀ w, (zeroValue elem).run P w = .ok z w) (hl : z.cells = l.toArray)
    (h : ∀ w', w'.heap.size = w.heap.size + 1 → Row w' w.heap.size elem l → Chg (fun _ => False) w w' → K (a.put o.dst (.pointer (some ⟨w.heap.size, 0, none⟩))) w') : o.wp P a w K Q := by
  unfold Oper.wp execOp
  have hr := hz w
  simp only [ho, Instr.alloc, Sem.run_bind, Sem.run_pure, Result.andThen_ok, hr, newVar, newRow, hl]
  exact h (w.alloc (.cells l.toArray elem)) (by simp) (Row.alloc_new _ _ _) ((Chg.refl _ _).alloc _)
theorem wp_store_rowA (ty : TypeId) (x y : Operand) (ho : o.op = .store ty x y)
    (g : Nat) (cells : List Value) (hx : a.eval x = .pointer (some ⟨g, 0, none⟩)) (hy : a.eval y = .agg cells.toArray)
    (t : TypeId) (old : List Value) (hg : Row w g t old) (hi : (P.info? ty).map (·.size) = some cells.length)
    (hold : old.length = cells.length) (h1 : ∀ v ∈ cells, v.oneCell' = true)
    (h : ∀ w', Row w' g t cells → Chg (· = g) w w' → w'.heap.size = w.heap.size → K (a.put o.dst undef) w') : o.wp P a w K Q :=
  wp_store_row ty x y ho g cells.toArray hx hy t old.toArray hg.out (by simpa using hi) (by simpa using hold) (by simpa using h1)
    (h _ (hg.setRow _) ((Chg.refl _ _).setRow _ _ (fun _ => rfl)) (by simp))
end steps
end laws
/-- A slot's whole number. -/
theorem ret_eq {a b : Value} (h : a = b) : Ending.returned a = .returned b := by rw [h]
end Go.Proofs.YtejlffeiebfboaaGreatDoor.Mem
