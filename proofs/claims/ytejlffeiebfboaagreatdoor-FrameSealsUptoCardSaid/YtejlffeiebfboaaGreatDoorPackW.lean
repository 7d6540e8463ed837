/- The program's pack.Writer: what it has laid, and its first error. -/
import Derived.Test.YtejlffeiebfboaaGreatDoorBytes
import Derived.Lib.AppendStr
import Derived.StillTailTactics
import Derived.Deep.RegionHeld3
import Derived.Deep.RegionLaw
import Derived.WalkSpells
import Derived.Laws.EntriesVeiled
import Derived.WalkLawsBesides
import Derived.Deep.LoopGhost
import Derived.BigQuiet
import Derived.Lib.Hide
import Derived.Test.YtejlffeiebfboaaGreatDoorProg
set_option linter.unusedVariables false
set_option linter.unusedSimpArgs false
namespace Go.Proofs.YtejlffeiebfboaaGreatDoor.PackW
open Go Go.RowKit Go.Proofs.YtejlffeiebfboaaGreatDoor.Mem

section
variable {P : Program} {ops : Array Oper} {o : Oper} {a : Act} {w : World} {K : Act → World → Prop} {Q : Exit → Act → World → Prop} {E : Prop}
/-- 'append(b, s...)' as one step of a region that draws its order. -/
theorem step_append_strA (hgd : o.guard = none) (sl x : Operand) (t u : TypeId)
    (ho : o.op = .call { callee := .builtin .append, args := #[sl, x], argTypes := #[t, u] })
    (base : Nat) (e : TypeId) (i : TypeInfo) (ht : P.underlying t = some (.slice e)) (hu : P.underlying u = some .string) (hi : P.info? e = some i) (hz : i.zero = some (.int .u8 0))
    (hsize : i.size = 1) (hby : i.bytes = 1)
    (v : Value) (xs : List UInt8) (hs : a.eval sl = v) (hown : w.ownsRow base e 1 v xs.length (xs.map bv)) (s : ByteArray) (hx : a.eval x = .string s)
    (hlen : xs.length + s.size ≤ 140737488355328) (hbase : base ≤ w.heap.size)
    (h : ∀ v' w', w'.ownsRow base e 1 v' (xs ++ bs s).length ((xs ++ bs s).map bv) → Chg (fun k => v.ownBlock = some k) w w' → K (a.put o.dst v') w') :
    if Region.wanted o (yielded ops a.tmps) = true then o.wp P a w K Q else E := by
  rw [if_pos (by simp [Region.wanted, hgd])]
  obtain ⟨v', w', hr, h2, h3, h4⟩ := Lib.run_append_own_string (P := P) w base t u o.type e i ht hu hi hz hsize hby v xs.length (xs.map bv) hown s (by unfold maxLen; omega) hlen hbase
  unfold Oper.wp
  simp [execOp, ho, resolve, invoke, builtin, hs, hx, hr, Result.andThen]
  refine h v' w' ?_ ((Chg.refl _ _).grown h3 (fun k hk _ => hk))
  have e1 : xs.map bv ++ Lib.strCells s = (xs ++ bs s).map bv := by simp [Lib.strCells, bs, bv]
  have e2 : xs.length + s.size = (xs ++ bs s).length := by rw [List.length_append, bs_length]
  rw [← e1, ← e2]; exact h2
end

section
variable {P : Program} {ops : Array Oper} {rest : List Oper} {o : Oper} {a : Act} {w : World} {Q : Act → Prop}
/-- string(b) as one step of a still region. -/
theorem wpStill_stringA (hgd : o.guard = none) (src dst : TypeId) (x : Operand) (ho : o.op = .convert src dst x) (v : Value) (hx : a.eval x = v) (e : TypeId)
    (hs : P.underlying src = some (.slice e)) (he : P.underlying e = some (.int .u8)) (hd : P.underlying dst = some .string) (ok : Nat → Prop) (p : List UInt8) (hv : SlB w ok v p)
    (h : wpStill P ops w Q rest (a.put o.dst (.string ⟨p.toArray⟩))) : wpStill P ops w Q (o :: rest) a := by
  refine wpStill_step fun K hK => ?_
  rw [if_pos (by simp [Region.wanted, hgd])]
  unfold Oper.still execOp
  simp only [ho, hx, run_string_of src dst e hs he hd ok v p hv, Sem.run_bind, Sem.run_pure, Result.andThen_ok]
  exact ⟨rfl, hK _ h⟩
end

/-- What a writer's call may turn: its own block, and rows of bytes that it owns (from block B on). -/
structure Kp (B bw : Nat) (w w' : World) : Prop where
  chg : Chg (fun k => B ≤ k) w w'
  rows : ∀ b T l, T ≠ 5 → b ≠ bw → Row w b T l → Row w' b T l

/-- A writer: out has been laid, the first error is err (0: none). -/
structure IsW (w : World) (B bw bw2 : Nat) (out : List UInt8) (err : Int) : Prop where
  lo : B ≤ bw
  hi : w.heap.size > bw
  ok : err = 0 → ∃ v, Row w bw 78 [v, .int .i64 0, .func (.func 40) #[] #[.pointer (some ⟨bw2, 0, none⟩)]] ∧ Row w bw2 48 [.pointer (some ⟨bw, 0, none⟩)] ∧ w.ownsRow B 5 1 v out.length (out.map bv)
  bad : err ≠ 0 → ∃ v, Row w bw 78 [v, .int .i64 err, .func (.func 80) #[] #[]]


theorem Kp.refl (B bw : Nat) (w : World) : Kp B bw w w := ⟨Chg.refl _ _, fun _ _ _ _ _ h => h⟩
theorem Kp.trans {B bw : Nat} {w w' w'' : World} (h : Kp B bw w w') (k : Kp B bw w' w'') : Kp B bw w w'' :=
  ⟨h.chg.trans k.chg, fun b T l hT hb hr => k.rows b T l hT hb (h.rows b T l hT hb hr)⟩

theorem row_ne {w : World} {b g : Nat} {T e : TypeId} {l : List Value} {cur : Array Value} {fr : Nat × Nat} (h : Row w b T l) (hg : w.heap[g]? = some (.cells cur e fr)) (hT : T ≠ e) : b ≠ g := by
  rintro rfl
  have := h.out.symm.trans hg
  simp at this
  exact hT this.2.1

theorem own_ne {w : World} {base b : Nat} {T e : TypeId} {l : List Value} {v : Value} {n : Nat} {xs : List Value} (h : Row w b T l) (ho : w.ownsRow base e 1 v n xs) (hT : T ≠ e) : v.ownBlock ≠ some b := by
  rcases ho.2 with ⟨rfl, _⟩ | ⟨g, cap, cur, rfl, _, hg, _⟩
  · simp [Value.ownBlock]
  · simp only [Value.ownBlock, ne_eq, Option.some.injEq]
    exact fun e => row_ne h hg hT e.symm

theorem info8 : (Tryz.prog.info? 5).map (fun i => (i.zero, i.size, i.bytes)) = some (some (.int .u8 0), 1, 1) := by kernel_rfl

theorem own_form {w : World} {base : Nat} {e : TypeId} {v : Value} {n : Nat} {xs : List Value} (ho : w.ownsRow base e 1 v n xs) : ∃ A c, v = .slice A n c := by
  rcases ho.2 with ⟨rfl, rfl⟩ | ⟨g, cap, cur, rfl, _⟩
  · exact ⟨_, _, rfl⟩
  · exact ⟨_, _, rfl⟩

theorem own_setCell {w : World} {base b : Nat} {T e : TypeId} {l : List Value} {v : Value} {n : Nat} {xs : List Value} (h : Row w b T l) (ho : w.ownsRow base e 1 v n xs) (hT : T ≠ e) (i : Nat) (u : Value) : (w.setCell ⟨b, i, none⟩ u).ownsRow base e 1 v n xs := by
  refine ⟨ho.1, ?_⟩
  rcases ho.2 with h2 | ⟨g, cap, cur, hv, hb, hg, r⟩
  · exact .inl h2
  · refine .inr ⟨g, cap, cur, hv, hb, ?_, r⟩
    rw [heap_setCell_other w ⟨b, i, none⟩ g u (fun e => row_ne h hg hT e.symm)]; exact hg

theorem lay_fin {B bw bw2 : Nat} {out out' : List UInt8} {w w1 : World} {v v' : Value} (hlo : B ≤ bw) (hhi : w.heap.size > bw) (hw : Row w bw 78 [v, .int .i64 0, .func (.func 40) #[] #[.pointer (some ⟨bw2, 0, none⟩)]])
    (hv : Row w bw2 48 [.pointer (some ⟨bw, 0, none⟩)]) (hown : w.ownsRow B 5 1 v out.length (out.map bv))
    (cg : Chg (fun k => v.ownBlock = some k) w w1) (hown1 : w1.ownsRow B 5 1 v' out'.length (out'.map bv)) :
    IsW (w1.setCell ⟨bw, 0, none⟩ v') B bw bw2 out' 0 ∧ Kp B bw w (w1.setCell ⟨bw, 0, none⟩ v') := by
  have n1 := own_ne hw hown (by decide)
  have n2 := own_ne hv hown (by decide)
  have hne : bw2 ≠ bw := fun e => by
    subst e
    have := hw.out.symm.trans hv.out
    simp at this
  have hw1 := hw.chg cg n1
  have hv1 := hv.chg cg n2
  have hs := cg.size
  refine ⟨⟨hlo, by simp [World.setCell]; omega, fun _ => ⟨v', hw1.set 0 v', hv1.set_other v' hne, own_setCell hw1 hown1 (by decide) 0 v'⟩, fun h => absurd rfl h⟩, ⟨?_, ?_⟩⟩
  · exact (cg.mono (fun k _ hk => (World.ownsRow.lt hown k hk).1)).setCell _ _ (fun _ => hlo)
  · intro b T l hT hb hr
    exact (hr.chg cg (own_ne hr hown hT)).set_other v' hb

set_option maxRecDepth 100000
set_option maxHeartbeats 4000000 in
theorem lay_any (B bw bw2 : Nat) (out : List UInt8) (s : ByteArray) (w : World) (h : IsW w B bw bw2 out 0) (hlen : out.length + s.size ≤ 140737488355328) :
    Calls Tryz.prog 40 #[.string s, .pointer (some ⟨bw2, 0, none⟩)] w fun e w' => e = .returned (.tuple #[]) ∧ IsW w' B bw bw2 (out ++ bs s) 0 ∧ Kp B bw w w' := by
  obtain ⟨i0, hi, hz, h1, h2⟩ := info_parts info8
  have hlo := h.lo
  have hhi := h.hi
  obtain ⟨v, hw, hv, hown⟩ := h.ok rfl
  clear h
  have n1 := own_ne hw hown (by decide)
  have n2 := own_ne hv hown (by decide)
  have hne : bw2 ≠ bw := fun e => by
    subst e
    have := hw.out.symm.trans hv.out
    simp at this
  have c1 : w.cell? ⟨bw2, 0, none⟩ = some (.pointer (some ⟨bw, 0, none⟩)) := hv.cell 0
  have c2 : w.cell? ⟨bw, 0, none⟩ = some v := hw.cell 0
  have hvb : ∀ k, v.ownBlock = some k → B ≤ k := fun k hk => (World.ownsRow.lt hown k hk).1
  have HV := Lib.hid hvb
  have f0 := hw.frozen 0
  have HL := Lib.hid hlen
  clear hvb hlen
  go_enter Tryz.func40, Tryz.ntmps40
  go_wp2_with (fail)
  go_region_law (refine step_append_strA (by rfl) _ _ _ _ (by rfl) B 5 i0 Tryz.underlying38 Tryz.underlying9 hi hz h1 h2 v out (by rfl) hown.drew s (by rfl) HL.out (by show B ≤ w.heap.size; omega) ?_; intro v' w1 hown1 cg; (obtain ⟨A1, cap1, rfl⟩ := own_form hown1); (have fz : w1.frozen? ⟨bw, 0, none⟩ = false := (cg.frozen (a := ⟨bw, 0, none⟩) hhi n1).trans f0); (have q1 : w1.cell? ⟨bw2, 0, none⟩ = some (.pointer (some ⟨bw, 0, none⟩)) := cg.cell_some c1 n2); (have q2 : w1.cell? ⟨bw, 0, none⟩ = some v := cg.cell_some c2 n1))
  all_goals
    go_end0
    have hf := lay_fin (out' := out ++ bs s) hlo hhi hw hv hown ((Chg.refl _ w).drew.trans cg) hown1
    rw [List.length_append] at hf
    exact ⟨rfl, hf⟩

theorem laynot_any (s : ByteArray) (w : World) : Calls Tryz.prog 80 #[.string s] w fun e w' => e = .returned (.tuple #[]) ∧ w = w' := by
  go_enter Tryz.func80, Tryz.ntmps80
  go_wp2
  go_end0
  exact ⟨rfl, rfl⟩

theorem sized_any (n : Int) (w : World) : Calls Tryz.prog 41 #[.int .i64 n] w fun e w' => e = .returned (.bool (decide (1 ≤ n ∧ n ≤ 8))) ∧ w = w' := by
  by_cases h1 : 1 ≤ n
  · by_cases h2 : n ≤ 8
    · rw [show decide (1 ≤ n ∧ n ≤ 8) = true by simp [h1, h2]]
      go_enter Tryz.func41, Tryz.ntmps41
      go_wp2
      go_ret
      exact ⟨ret_eq (by simp [h1, h2]), rfl⟩
    · rw [show decide (1 ≤ n ∧ n ≤ 8) = false by simp [h1, h2]]
      go_enter Tryz.func41, Tryz.ntmps41
      go_wp2
      go_ret
      exact ⟨ret_eq (by simp [h1, h2]), rfl⟩
  · rw [show decide (1 ≤ n ∧ n ≤ 8) = false by simp [h1]]
    go_enter Tryz.func41, Tryz.ntmps41
    go_wp2
    go_ret
    exact ⟨ret_eq (by simp [h1]), rfl⟩

theorem zero8 : (Tryz.prog.info? 80).map (fun i => (i.zero, i.size)) = some (some (.agg ((List.replicate 8 (0 : UInt8)).map bv).toArray), 8) := by kernel_rfl
/-- A writer's state: what is laid, the first error. -/
abbrev WS := List UInt8 × Int
def layS (st : WS) (s : List UInt8) : WS := if st.2 = 0 then (st.1 ++ s, 0) else st
def failS (st : WS) (e : Int) : WS := if st.2 = 0 then (st.1, e) else st

def IsWS (w : World) (B bw bw2 : Nat) (st : WS) : Prop := IsW w B bw bw2 st.1 st.2

set_option maxHeartbeats 4000000 in
theorem bytes_any (B bw bw2 : Nat) (st : WS) (s : ByteArray) (w : World) (h : IsWS w B bw bw2 st) (hlen : st.1.length + s.size ≤ 140737488355328) :
    Calls Tryz.prog 23 #[.pointer (some ⟨bw, 0, none⟩), .string s] w fun e w' => e = .returned (.tuple #[]) ∧ IsWS w' B bw bw2 (layS st (bs s)) ∧ Kp B bw w w' := by
  obtain ⟨out, err⟩ := st
  unfold IsWS at h
  by_cases he : err = 0
  · subst he
    obtain ⟨v, hw, _⟩ := h.ok rfl
    have c2 : w.cell? ⟨bw, 2, none⟩ = some (.func (.func 40) #[] #[.pointer (some ⟨bw2, 0, none⟩)]) := hw.cell 2
    have C := Lib.hid (lay_any B bw bw2 out s w h hlen)
    clear hw h
    go_enter Tryz.func23, Tryz.ntmps23
    go_wp2_with (go_at_call 40; with_reducible refine C.out.mono ?_; rintro e w1 ⟨rfl, hI, hk⟩)
    go_end0
    exact ⟨rfl, by unfold IsWS layS; simpa using hI, hk⟩
  · obtain ⟨v, hw⟩ := h.bad he
    have c2 : w.cell? ⟨bw, 2, none⟩ = some (.func (.func 80) #[] #[]) := hw.cell 2
    have HE := Lib.hid he
    clear hw he
    go_enter Tryz.func23, Tryz.ntmps23
    go_wp2_with (go_at_call 80; with_reducible refine (laynot_any _ _).mono ?_; rintro e w1 ⟨rfl, rfl⟩)
    go_end0
    exact ⟨rfl, by unfold IsWS layS; rw [if_neg HE.out]; exact h, Kp.refl _ _ _⟩

set_option maxHeartbeats 4000000 in
theorem fail_any (B bw bw2 : Nat) (st : WS) (x : Int) (hx : x ≠ 0) (w : World) (h : IsWS w B bw bw2 st) :
    Calls Tryz.prog 42 #[.pointer (some ⟨bw, 0, none⟩), .int .i64 x] w fun e w' => e = .returned (.tuple #[]) ∧ IsWS w' B bw bw2 (failS st x) ∧ Kp B bw w w' := by
  obtain ⟨out, err⟩ := st
  unfold IsWS at h
  have hlo := h.lo
  have hhi := h.hi
  have HX := Lib.hid hx
  clear hx
  by_cases he : err = 0
  · subst he
    obtain ⟨v, hw, _⟩ := h.ok rfl
    have c1 : w.cell? ⟨bw, 1, none⟩ = some (.int .i64 0) := hw.cell 1
    have c2 : w.cell? ⟨bw, 2, none⟩ = some (.func (.func 40) #[] #[.pointer (some ⟨bw2, 0, none⟩)]) := hw.cell 2
    have f1 := hw.frozen 1
    have f2 := hw.frozen 2
    clear h
    go_enter Tryz.func42, Tryz.ntmps42
    go_wp2
    go_end0
    refine ⟨rfl, ?_, ⟨((Chg.refl _ _).setCell _ _ (fun _ => hlo)).setCell _ _ (fun _ => hlo), fun b T l hT hb hr => (hr.set_other _ hb).set_other _ hb⟩⟩
    unfold IsWS failS
    exact ⟨hlo, by simp [World.setCell]; omega, fun h0 => absurd h0 HX.out, fun _ => ⟨v, (hw.set 1 _).set 2 _⟩⟩
  · obtain ⟨v, hw⟩ := h.bad he
    have c1 : w.cell? ⟨bw, 1, none⟩ = some (.int .i64 err) := hw.cell 1
    have hb : (err == 0) = false := by simp [he]
    have HE := Lib.hid he
    clear hw he
    go_enter Tryz.func42, Tryz.ntmps42
    go_wp2
    go_end0
    exact ⟨rfl, by unfold IsWS failS; rw [if_neg HE.out]; exact h, Kp.refl _ _ _⟩

set_option maxHeartbeats 4000000 in
theorem newWriter_any (w : World) : Calls Tryz.prog 22 #[] w fun e w' => e = .returned (.pointer (some ⟨w.heap.size, 0, none⟩)) ∧ IsWS w' w.heap.size w.heap.size (w.heap.size + 1) ([], 0) ∧ Chg (fun _ => False) w w' := by
  have hmf : ∀ (fn : Fn) (first cap : Array Value) (w : World), (Instr.makeFunc fn first cap).run Tryz.prog w = .ok (.func fn first cap) w := fun _ _ _ _ => rfl
  go_enter Tryz.func22, Tryz.ntmps22
  go_wp2
  go_ret
  refine ⟨rfl, ⟨Nat.le_refl _, by simp; omega, fun _ => ⟨.slice none 0 0, ?_, ?_, World.ownsRow_nil _ _ _ _⟩, fun h => absurd rfl h⟩, ((Chg.refl _ _).alloc _).alloc _⟩
  · exact (Row.alloc_new w 78 [.slice none 0 0, .int .i64 0, .func (.func 40) #[] #[.pointer (some ⟨w.heap.size + 1, 0, none⟩)]]).alloc _
  · have := Row.alloc_new (w.alloc (.cells [Value.slice none 0 0, .int .i64 0, .func (.func 40) #[] #[.pointer (some ⟨w.heap.size + 1, 0, none⟩)]].toArray 78)) 48 [.pointer (some ⟨w.heap.size, 0, none⟩)]
    simpa using this

/-- n bytes of a number, the highest first. -/
def be (n : Nat) (x : Nat) : List UInt8 := (List.range n).map fun i => UInt8.ofNat (x / 256 ^ (n - 1 - i))
def numS (st : WS) (x : Nat) (n : Nat) : WS := if x < 256 ^ n then layS st (be n x) else failS st 51

/-- A number's bytes while they are laid from the lowest on: k of n are there, in an array of eight. -/
def partN (n x k : Nat) : List UInt8 := (List.range 8).map fun i => if i < n ∧ n - 1 - i < k then UInt8.ofNat (x / 256 ^ (n - 1 - i)) else 0

theorem partN_length (n x k : Nat) : (partN n x k).length = 8 := by simp [partN]
theorem partN_zero (n x : Nat) : partN n x 0 = List.replicate 8 0 := by
  apply List.ext_getElem (by simp [partN])
  intro i h1 h2
  rw [List.getElem_replicate]
  simp only [partN, List.getElem_map]
  rw [if_neg (by omega)]
theorem partN_set (n x k : Nat) (hk : k < n) (hn : n ≤ 8) : (partN n x k).set (n - 1 - k) (UInt8.ofNat (x / 256 ^ k)) = partN n x (k + 1) := by
  apply List.ext_getElem (by simp [partN])
  intro i h1 h2
  have hi : i < 8 := by simpa [partN] using h2
  rw [List.getElem_set]
  by_cases e : n - 1 - k = i
  · rw [if_pos e]
    have e2 : n - 1 - i = k := by omega
    simp [partN, e2]; intro h; omega
  · rw [if_neg e]
    simp only [partN, List.getElem_map, List.getElem_range]
    by_cases h : i < n ∧ n - 1 - i < k
    · rw [if_pos h, if_pos ⟨h.1, by omega⟩]
    · rw [if_neg h, if_neg (by omega)]
theorem partN_cell (n x k i : Nat) (hi : i < 8) : ∃ c, ((partN n x k).map bv)[i]? = some c := by
  have : i < ((partN n x k).map bv).length := by simpa [partN] using hi
  exact ⟨_, List.getElem?_eq_getElem this⟩
theorem byte_of (x k : Nat) : Value.int .u8 ((x : Int) / 2 ^ (8 * k) % 256) = bv (UInt8.ofNat (x / 256 ^ k)) := by
  unfold bv
  congr 1
  rw [show (2 : Int) ^ (8 * k) = ((256 ^ k : Nat) : Int) by rw [Int.pow_mul]; simp]
  rw [UInt8.toNat_ofNat']
  omega
theorem be_length (n x : Nat) : (be n x).length = n := by simp [be]
theorem partN_all (n x : Nat) (hn : n ≤ 8) : (partN n x n).take n = be n x := by
  apply List.ext_getElem (by simp [partN, be]; omega)
  intro i h1 h2
  have hi : i < n := by simpa [be] using h2
  simp [partN, be]
  intro h; omega

theorem IsWS.chg {w w' : World} {B bw bw2 : Nat} {st : WS} (h : IsWS w B bw bw2 st) (c : Chg (fun _ => False) w w') : IsWS w' B bw bw2 st := by
  unfold IsWS at *
  refine ⟨h.lo, Nat.lt_of_lt_of_le h.hi c.size, fun he => ?_, fun he => ?_⟩
  · obtain ⟨v, h1, h2, h3⟩ := h.ok he
    refine ⟨v, h1.chg c id, h2.chg c id, h3.1, ?_⟩
    rcases h3.2 with q | ⟨g, cap, cur, e, q1, q2, q3⟩
    · exact .inl q
    · exact .inr ⟨g, cap, cur, e, q1, (c.block g (Array.getElem?_eq_some_iff.1 q2).1 id).trans q2, q3⟩
  · obtain ⟨v, h1⟩ := h.bad he
    exact ⟨v, h1.chg c id⟩
theorem Kp.of0 {w w' : World} {B bw : Nat} (c : Chg (fun _ => False) w w') : Kp B bw w w' := ⟨c.mono (fun _ _ h => h.elim), fun _ _ _ _ _ h => h.chg c id⟩

/-- What the loop of Number leaves: the bytes of x, and then they are laid. -/
theorem shr64 (x m : Nat) (hx : x < 18446744073709551616) (hm : m < 64) : ((x : Int) / 2 ^ m) = ((x / 2 ^ m : Nat) : Int) := by
  rw [Int.natCast_ediv, Int.natCast_pow]; rfl

set_option maxHeartbeats 8000000 in
theorem number_any (B bw bw2 : Nat) (st : WS) (x n : Nat) (w : World) (h : IsWS w B bw bw2 st) (hn : 1 ≤ n ∧ n ≤ 8) (hx : x < 18446744073709551616) (hlen : st.1.length + 8 ≤ 140737488355328) :
    Calls Tryz.prog 24 #[.pointer (some ⟨bw, 0, none⟩), .int .u64 (x : Int), .int .i64 (n : Int)] w fun e w' => e = .returned (.tuple #[]) ∧ IsWS w' B bw bw2 (numS st x n) ∧ Kp B bw w w' := by
  have z8 := (zero_of_info zero8).1
  have hnI : 1 ≤ (n : Int) ∧ (n : Int) ≤ 8 := by omega
  have hsz : decide (1 ≤ (n : Int) ∧ (n : Int) ≤ 8) = true := by simp [hnI.1, hnI.2]
  obtain ⟨hn1, hn8⟩ := hn
  have H := Lib.hid h
  have HX := Lib.hid hx
  have HLEN := Lib.hid hlen
  clear h hx hlen
  go_enter Tryz.func24, Tryz.ntmps24
  have hsh : ((x : Int) / 2 ^ (8 * n) != 0) = !decide (x < 256 ^ n) := by
    rw [show (2 : Int) ^ (8 * n) = ((256 ^ n : Nat) : Int) by rw [Int.pow_mul]; simp]
    have h0 : 0 < 256 ^ n := Nat.pow_pos (by decide)
    have : ((x : Int) / ((256 ^ n : Nat) : Int)) = ((x / 256 ^ n : Nat) : Int) := by simp
    rw [this]
    by_cases h : x < 256 ^ n
    · have : x / 256 ^ n = 0 := Nat.div_eq_of_lt h
      simp [h, this]
    · have : x / 256 ^ n ≠ 0 := fun e => h ((Nat.div_eq_zero_iff_lt h0).1 e)
      rw [show decide (x < 256 ^ n) = false by simp [h]]
      clear h h0
      generalize x / 256 ^ n = q at *
      simp; omega
  rcases (show (decide ((n : Int) < 8) = false ∧ x < 256 ^ n) ∨ (decide ((n : Int) < 8) = true ∧ x < 256 ^ n) ∨ (decide ((n : Int) < 8) = true ∧ ¬ x < 256 ^ n) by
    by_cases h8 : n = 8
    · exact .inl ⟨by simp; omega, by rw [h8]; exact HX.out⟩
    · by_cases hf : x < 256 ^ n
      · exact .inr (.inl ⟨by simp; omega, hf⟩)
      · exact .inr (.inr ⟨by simp; omega, hf⟩)) with ⟨h8I, hfit⟩ | ⟨h8I, hfit⟩ | ⟨h8I, hfit⟩
  rotate_left 2
  · rw [show decide (x < 256 ^ n) = false by simp [hfit]] at hsh
    have HF := Lib.hid hfit
    clear hfit
    have C := Lib.hid (fail_any B bw bw2 st 51 (by decide) w H.out)
    go_wp2_with (first
      | (go_at_call 41; with_reducible refine (sized_any _ _).mono ?_; rintro e w1 ⟨rfl, rfl⟩)
      | (go_at_call 42; with_reducible refine C.out.mono ?_; rintro e w3 ⟨rfl, hI, hk⟩))
    (try simp only [Exit.inBlock, Exit.then])
    refine bodyPost_ret (results_none rfl _ _ _) rfl ?_
    refine ⟨rfl, ?_, hk⟩
    unfold numS
    rw [if_neg HF.out]; exact hI
  all_goals
    rw [show decide (x < 256 ^ n) = true by simp [hfit]] at hsh
    have HF := Lib.hid hfit
    clear hfit
    go_wp2_with (first
      | (go_at_call 41; with_reducible refine (sized_any _ _).mono ?_; rintro e w1 ⟨rfl, rfl⟩)
      | (refine wpList_allocA rfl 80 rfl _ _ z8 rfl ?_; intro w1 s1 r1 c1))
    go_loopw [25] (fun i wr => ∃ k : Nat, k ≤ n ∧ i = .int .i64 k ∧ Row wr w.heap.size 80 ((partN n x k).map bv) ∧ Chg (fun _ => False) w wr) (fun i _ => n - (intOf i).toNat)
    case atStart => exact ⟨0, by omega, rfl, by rw [partN_zero]; exact r1, c1⟩
    case round =>
      clear r1 c1
      obtain ⟨k, hk, rfl, r1, c1⟩ := hrel
      by_cases hlt : k < n
      · have hltI : (k : Int) < (n : Int) := by omega
        have f1 := r1.frozen (n - 1 - k)
        obtain ⟨c, hc⟩ := partN_cell n x k (n - 1 - k) (by omega)
        have d1 := (r1.cell (n - 1 - k)).trans hc
        clear hc
        go_wp2
        go_roundw
        case rel =>
          refine ⟨k + 1, by omega, by go_num, ?_, c1.setCell _ _ (by simp)⟩
          have := r1.set (n - 1 - k) (bv (UInt8.ofNat (x / 256 ^ k)))
          rw [← List.map_set, partN_set n x k hlt hn8, ← byte_of] at this
          exact this
        case measure => simp [intOf]; omega
      · have hltI : ¬ (k : Int) < (n : Int) := by omega
        have ek : k = n := by omega
        subst ek
        have hS : SlB wr (fun _ => True) (.slice (some ⟨w.heap.size, 0, none⟩) (be k x).length 8) (be k x) := by
          have := SlB.arr (ok := fun _ => True) (c := 8) r1 trivial k (by rw [partN_length]; exact hn8) hn8
          rw [partN_all k x hn8] at this
          rw [be_length]; exact this
        rw [be_length] at hS
        have HS := Lib.hid hS
        have hsl := run_arr_to (P := Tryz.prog) 80 5 8 1 Tryz.underlying80 (by kernel_rfl) w.heap.size 0 (k : Int) k rfl hn8
        have h' := IsWS.chg H.out c1
        have H2 := Lib.hid h'
        have CK := Lib.hid (Kp.of0 (B := B) (bw := bw) c1)
        have BE := Lib.hid (be_length k x)
        generalize hbe : be k x = l at *
        have HBE := Lib.hid hbe
        clear hbe hS
        obtain ⟨out, err⟩ := st
        unfold IsWS at h'
        by_cases he : err = 0
        · obtain ⟨v, hw, hw2, hown⟩ := h'.ok he
          have c2 : wr.cell? ⟨bw, 2, none⟩ = some (.func (.func 40) #[] #[.pointer (some ⟨bw2, 0, none⟩)]) := hw.cell 2
          have HE := Lib.hid he
          clear hw hw2 hown h' he
          go_wp2
          go_still_tail 7, (by kernel_rfl)
          refine wpStill_stringA rfl 38 9 (.tmp 44) rfl _ rfl 5 Tryz.underlying38 Tryz.underlying5 Tryz.underlying9 (fun _ => True) l HS.out ?_
          repeat still_step
          refine wpStill_nil ?_
          change wpList _ _ _ _ _ wr.drew
          clear hsl r1 c1 c2 HS z8 hnI hsh
          have h3 : IsW wr.drew B bw bw2 out 0 := by
            have := H2.out
            rw [HE.out] at this
            exact ⟨this.lo, this.hi, fun h => by
              obtain ⟨v, a, b, c⟩ := this.ok h
              exact ⟨v, a.drew, b.drew, c.drew⟩, fun h => absurd rfl h⟩
          have C := Lib.hid (lay_any B bw bw2 out ⟨l.toArray⟩ wr.drew h3 (by have := HLEN.out; have := BE.out; simp [ByteArray.size]; omega))
          have CK2 := Lib.hid (⟨CK.out.chg.drew, fun b T l hT hb hr => (CK.out.rows b T l hT hb hr).drew⟩ : Kp B bw w wr.drew)
          clear h3
          generalize wr.drew = w2 at *
          go_wp2_with (go_at_call 40; with_reducible refine C.out.mono ?_; rintro e w3 ⟨rfl, hI, hk⟩)
          go_end0
          refine ⟨rfl, ?_, CK2.out.trans hk⟩
          unfold IsWS numS layS
          rw [if_pos HF.out, if_pos HE.out, HBE.out]
          simpa [bs] using hI
        · obtain ⟨v, hw⟩ := h'.bad he
          have c2 : wr.cell? ⟨bw, 2, none⟩ = some (.func (.func 80) #[] #[]) := hw.cell 2
          have HE := Lib.hid he
          clear hw h' he
          go_wp2
          go_still_tail 7, (by kernel_rfl)
          refine wpStill_stringA rfl 38 9 (.tmp 44) rfl _ rfl 5 Tryz.underlying38 Tryz.underlying5 Tryz.underlying9 (fun _ => True) l HS.out ?_
          repeat still_step
          refine wpStill_nil ?_
          change wpList _ _ _ _ _ wr.drew
          clear hsl r1 c1 c2 HS z8 hnI hsh
          have CK2 := Lib.hid (⟨CK.out.chg.drew, fun b T l hT hb hr => (CK.out.rows b T l hT hb hr).drew⟩ : Kp B bw w wr.drew)
          have h3 := Lib.hid (⟨H2.out.lo, H2.out.hi, fun h => absurd h HE.out, fun h => by
              obtain ⟨v, a⟩ := H2.out.bad h
              exact ⟨v, a.drew⟩⟩ : IsW wr.drew B bw bw2 out err)
          generalize wr.drew = w2 at *
          go_wp2_with (go_at_call 80; with_reducible refine (laynot_any _ _).mono ?_; rintro e w3 ⟨rfl, rfl⟩)
          go_end0
          refine ⟨rfl, ?_, CK2.out⟩
          unfold IsWS numS layS
          rw [if_pos HF.out, if_neg HE.out]
          exact h3.out
end Go.Proofs.YtejlffeiebfboaaGreatDoor.PackW
