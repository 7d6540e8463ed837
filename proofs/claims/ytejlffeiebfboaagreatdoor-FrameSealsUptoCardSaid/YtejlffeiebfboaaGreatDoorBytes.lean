/- Slices of bytes and strings: conversions and copy, over worlds that are variables. -/
import Derived.Test.YtejlffeiebfboaaGreatDoorMem
import Derived.Lib.ConvBytes
set_option linter.unusedVariables false
set_option linter.unusedSimpArgs false
namespace Go.Proofs.YtejlffeiebfboaaGreatDoor.Mem
open Go Go.RowKit

def bv (c : UInt8) : Value := .int .u8 (c.toNat : Int)

/-- A slice of bytes that can be read; its block, where it has bytes, is one of ok. -/
def SlB (w : World) (ok : Nat → Prop) (v : Value) (p : List UInt8) : Prop :=
  ∃ A c, v = .slice A p.length c ∧ p.length ≤ c ∧ (p ≠ [] → ∃ g o, A = some ⟨g, o, none⟩ ∧ ok g ∧ ∀ j, j < p.length → w.cell? ⟨g, o + j, none⟩ = some (.int .u8 ((p.getD j 0).toNat : Int)))

theorem SlB.chg {w w' : World} {ok F : Nat → Prop} {v : Value} {p : List UInt8} (h : SlB w ok v p) (hc : Chg F w w') (hF : ∀ g, ok g → ¬ F g) : SlB w' ok v p := by
  obtain ⟨A, c, e, hle, hp⟩ := h
  refine ⟨A, c, e, hle, fun hne => ?_⟩
  obtain ⟨g, o, eA, hok, hcell⟩ := hp hne
  exact ⟨g, o, eA, hok, fun j hj => hc.cell_some (hcell j hj) (hF g hok)⟩
theorem SlB.mono {w : World} {ok ok' : Nat → Prop} {v : Value} {p : List UInt8} (h : SlB w ok v p) (hk : ∀ g, ok g → ok' g) : SlB w ok' v p := by
  obtain ⟨A, c, e, hle, hp⟩ := h
  refine ⟨A, c, e, hle, fun hne => ?_⟩
  obtain ⟨g, o, eA, hok, hcell⟩ := hp hne
  exact ⟨g, o, eA, hk g hok, hcell⟩
theorem SlB.arr {w : World} {ok : Nat → Prop} {b c : Nat} {T : TypeId} {l : List UInt8} (h : Row w b T (l.map bv)) (hok : ok b) (n : Nat) (hn : n ≤ l.length) (hc : n ≤ c) : SlB w ok (.slice (some ⟨b, 0, none⟩) n c) (l.take n) := by
  have hl : (l.take n).length = n := by simp; omega
  refine ⟨_, c, by rw [hl], by omega, fun _ => ⟨b, 0, rfl, hok, fun j hj => ?_⟩⟩
  rw [Nat.zero_add, h.cell, List.getElem?_map]
  rw [hl] at hj
  rw [List.getElem?_eq_getElem (by omega)]
  simp [bv, List.getD, List.getElem?_take, hj, (by omega : j < l.length)]
/-- A whole array as a slice. -/
theorem SlB.all {w : World} {ok : Nat → Prop} {b n : Nat} {T : TypeId} {l : List UInt8} (h : Row w b T (l.map bv)) (hok : ok b) (hn : l.length = n) : SlB w ok (.slice (some ⟨b, 0, none⟩) n n) l := by
  have := SlB.arr h hok n (by omega) (Nat.le_refl n)
  rwa [List.take_of_length_le (by omega)] at this
theorem bvs_one (l : List UInt8) : ∀ v ∈ l.map bv, v.oneCell' = true := by
  intro v hv
  simp only [List.mem_map] at hv
  obtain ⟨z, _, rfl⟩ := hv
  rfl
theorem bv_def (c : UInt8) : bv c = .int .u8 (c.toNat : Int) := rfl

/-- The bytes of a string. -/
def bs (s : ByteArray) : List UInt8 := s.data.toList
theorem bs_length (s : ByteArray) : (bs s).length = s.size := by unfold bs; rw [Array.length_toList]; rfl
theorem bs_mk (l : List UInt8) : bs ⟨l.toArray⟩ = l := by simp [bs]
theorem mk_bs (s : ByteArray) : (⟨(bs s).toArray⟩ : ByteArray) = s := by cases s; simp [bs]
theorem bs_inj {s t : ByteArray} (h : bs s = bs t) : s = t := by rw [← mk_bs s, h, mk_bs]

section laws
variable {P : Program} {ops : Array Oper} {rest : List Oper} {o : Oper} {a : Act} {w : World} {Q : Exit → Act → World → Prop}

/-- '[]byte(s)' -/
theorem wpList_bytesA (hgd : o.guard = none) (src dst : TypeId) (x : Operand) (ho : o.op = .convert src dst x) (s : ByteArray) (hx : a.eval x = .string s) (e : TypeId) {u : TypeDesc}
    (hs : P.underlying src = some u) (hd : P.underlying dst = some (.slice e)) (he : P.underlying e = some (.int .u8))
    (h : ∀ w' c, w'.heap.size = w.heap.size + 1 → SlB w' (· = w.heap.size) (.slice (some ⟨w.heap.size, 0, none⟩) s.size c) (bs s) → Chg (fun _ => False) w w' → wpList P ops Q rest (a.put o.dst (.slice (some ⟨w.heap.size, 0, none⟩) s.size c)) w') :
    wpList P ops Q (o :: rest) a w := by
  refine wpList_plain hgd fun K hK => ?_
  unfold Oper.wp execOp
  simp only [ho, hx, Lib.run_convert_string_bytes w src dst e s hs hd he, Sem.run_bind, Sem.run_pure, Result.andThen_ok]
  refine hK _ _ (h (Lib.bytesWorld w e s) (grownCap w s.size 0 e) (Lib.bytesWorld_size w e s) ?_ ?_)
  · refine ⟨_, grownCap w s.size 0 e, by rw [bs_length], ?_, fun _ => ⟨w.heap.size, 0, rfl, rfl, fun j hj => ?_⟩⟩
    · rw [bs_length]; exact grownCap_ge _ _ _ _
    · rw [Nat.zero_add]; exact Lib.bytesWorld_cell w e s j (by rw [bs_length] at hj; exact hj)
  · exact ⟨rfl, rfl, rfl, by rw [Lib.bytesWorld_size]; omega, fun k hk _ => Lib.bytesWorld_at_old w e s k hk⟩

/-- The builtin copy of bytes into a row. -/
theorem wpList_copyB (hgd : o.guard = none) (d s : Operand) (dT sT : TypeId)
    (ho : o.op = .call { callee := .builtin .copy, args := #[d, s], argTypes := #[dT, sT] }) (elem : TypeId) (hu : P.underlying dT = some (.slice elem)) (hsz : (P.info? elem).map (·.size) = some 1)
    (g off dLen dCap : Nat) (v : Value) (hd : a.eval d = .slice (some ⟨g, off, none⟩) dLen dCap) (hs : a.eval s = v) (ok : Nat → Prop) (p : List UInt8) (hv : SlB w ok v p)
    (cur : List Value) (t : TypeId) (hg : Row w g t cur) (n : Nat) (hn : n = Nat.min p.length dLen) (hfit : off + n ≤ cur.length)
    (h : ∀ w', Row w' g t (cur.take off ++ ((p.take n).map bv ++ cur.drop (off + n))) → Chg (· = g) w w' → w'.heap.size = w.heap.size → wpList P ops Q rest (a.put o.dst (.int .i64 (n : Int))) w') : wpList P ops Q (o :: rest) a w := by
  obtain ⟨A, c, rfl, hle, hp⟩ := hv
  have hnp : n ≤ p.length := by rw [hn]; exact Nat.min_le_left _ _
  by_cases h0 : n = 0
  · subst h0
    refine wpList_copy_nothing hgd d s dT sT ho elem hu hsz _ _ dLen dCap p.length c hd hs hn.symm ?_
    refine h w ⟨?_⟩ (Chg.refl _ _) rfl
    have : cur.take off ++ ((p.take 0).map bv ++ cur.drop (off + 0)) = cur := by simp
    rw [this]; exact hg.out
  · have hne : p ≠ [] := fun e => h0 (by subst e; simpa using hnp)
    obtain ⟨sb, so, rfl, _, hcell⟩ := hp hne
    refine wpList_copyA hgd d s dT sT ho elem hu hsz g off dLen dCap so sb p.length c hd hs cur t hg ((p.take n).map bv) n (by simp; omega) hn ?_ hfit (bvs_one _) h
    intro j v hj
    rw [List.getElem?_map] at hj
    have hjn : j < n := by
      rcases Nat.lt_or_ge j n with h | h
      · exact h
      · rw [List.getElem?_eq_none (by simp; omega)] at hj; simp at hj
    rw [hcell j (by omega)]
    rw [List.getElem?_take, if_pos hjn, List.getElem?_eq_getElem (by omega)] at hj
    simp only [Option.map_some, bv, Option.some.injEq] at hj
    rw [← hj]; simp [List.getD, (by omega : j < p.length)]

/-- 'string(b)' -/
theorem run_string_of (src dst e : TypeId) (hs : P.underlying src = some (.slice e)) (he : P.underlying e = some (.int .u8)) (hd : P.underlying dst = some .string)
    (ok : Nat → Prop) (v : Value) (p : List UInt8) (hv : SlB w ok v p) : (convert src dst v).run P w = .ok (.string ⟨p.toArray⟩) w := by
  obtain ⟨A, c, rfl, hle, hp⟩ := hv
  rw [run_convert_bytes_string w src dst e A p.length c hs he hd]
  by_cases h0 : p = []
  · subst h0
    cases A with
    | none => rfl
    | some ad =>
      have hl : (loadCells ad 0).run P w = .ok #[] w := by simpa using run_loadCells_list (P := P) w ad [] (by simp)
      have := run_bytesToString (P := P) w ad 0 c [] (by simpa using hl)
      exact this
  · obtain ⟨g, o, rfl, _, hcell⟩ := hp h0
    have hl : (loadCells ⟨g, o, none⟩ p.length).run P w = .ok (p.map bv).toArray w := by
      have := run_loadCells_list (P := P) w ⟨g, o, none⟩ (p.map bv) (fun j v hv => by
        have hadd : (⟨g, o, none⟩ : Addr).add j = ⟨g, o + j, none⟩ := by
          unfold Addr.add; split
          · rename_i h0; simp [h0]
          · rfl
        have hj : j < p.length := by
          rcases Nat.lt_or_ge j p.length with h | h
          · exact h
          · rw [List.getElem?_eq_none (by simp; omega)] at hv; simp at hv
        rw [hadd, hcell j hj]
        rw [List.getElem?_map, List.getElem?_eq_getElem hj] at hv
        simp only [Option.map_some, bv, Option.some.injEq] at hv
        rw [← hv]; simp [List.getD, hj])
      simpa using this
    have e1 : p.map bv = (p.map (fun c : UInt8 => (c.toNat : Int))).map (Value.int .u8) := by simp [bv]
    rw [e1] at hl
    rw [run_bytesToString (P := P) w _ p.length c _ hl]
    congr 2
    have key : ∀ (l : List UInt8) (s : ByteArray), (l.map (fun c : UInt8 => (c.toNat : Int))).foldl (fun r n => r.push (UInt8.ofNat n.toNat)) s = ⟨s.data ++ l.toArray⟩ := by
      intro l
      induction l with
      | nil => intro s; cases s; simp
      | cons c l ih => intro s; simp only [List.map_cons, List.foldl_cons]; rw [ih]; simp [ByteArray.push]
    rw [key]; simp [ByteArray.empty, ByteArray.emptyWithCapacity]; rfl
theorem wpList_stringA (hgd : o.guard = none) (src dst : TypeId) (x : Operand) (ho : o.op = .convert src dst x) (v : Value) (hx : a.eval x = v) (e : TypeId)
    (hs : P.underlying src = some (.slice e)) (he : P.underlying e = some (.int .u8)) (hd : P.underlying dst = some .string) (ok : Nat → Prop) (p : List UInt8) (hv : SlB w ok v p)
    (h : wpList P ops Q rest (a.put o.dst (.string ⟨p.toArray⟩)) w) : wpList P ops Q (o :: rest) a w := by
  refine wpList_plain hgd fun K hK => ?_
  unfold Oper.wp execOp
  simp only [ho, hx, run_string_of src dst e hs he hd ok v p hv, Sem.run_bind, Sem.run_pure, Result.andThen_ok]
  exact hK _ _ h
end laws
end Go.Proofs.YtejlffeiebfboaaGreatDoor.Mem
