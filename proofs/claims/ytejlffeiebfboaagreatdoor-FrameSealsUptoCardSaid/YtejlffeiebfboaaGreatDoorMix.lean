/- The program's (*sha.Hash).mix takes the block into the sum. -/
import Derived.Deep.LoopGhost
import Derived.Deep.QuietTactic
import Derived.BigQuiet
import Derived.StillTailTactics
import Derived.Laws.CopyOwn
import Derived.WalkLawsBesides
import Derived.Test.YtejlffeiebfboaaGreatDoorProg
import Derived.Test.YtejlffeiebfboaaGreatDoorNum
import Derived.Test.YtejlffeiebfboaaGreatDoorBytes
import Derived.Lib.Hide
import Derived.IntWalk
set_option linter.unusedVariables false
set_option linter.unusedSimpArgs false
namespace Go.Proofs.YtejlffeiebfboaaGreatDoor.Mix
open Go Go.RowKit Go.Proofs.YtejlffeiebfboaaGreatDoor.Sha Go.Proofs.YtejlffeiebfboaaGreatDoor.Num Go.Proofs.YtejlffeiebfboaaGreatDoor.Mem

def wv (x : W32) : Value := .int .u32 (n32 x)
def hcells (s : St) (blk : List UInt8) (at_ n : Int) : List Value := s.list.map wv ++ blk.map bv ++ [.int .i64 at_, .int .u64 n]
def warr (ws : List W32) : List Value := (ws ++ List.replicate (64 - ws.length) 0).map wv
def Tab (w : World) : Prop := ∀ t, t < 64 → w.cell? ⟨0, t, none⟩ = some (.int .u32 (n32 (K t)))

set_option maxRecDepth 100000
set_option maxHeartbeats 1000000 in
theorem rotl_any (x : W32) (k : Int) (m : Nat) (w : World) (hk : bits .and .u64 (IntKind.u64.wrap k) 31 = ((32 - m : Nat) : Int)) (hw : IntKind.u64.wrap (32 - ((32 - m : Nat) : Int)) = (m : Int)) (h1 : 1 ≤ m) (h2 : m < 32) :
    Calls Tryz.prog 117 #[.int .u32 (n32 x), .int .i64 k] w fun e w' => e = .returned (.int .u32 (n32 (rotr x m))) ∧ w = w' := by
  have s1 := shl32' x (32 - m) (by omega)
  have s2 := shr32' x m (by omega)
  have s3 := bits_or32 (x <<< (32 - m)) (x >>> m)
  have s4 : ((x <<< (32 - m)) ||| (x >>> m)) = rotr x m := rfl
  go_enter Tryz.func117, Tryz.ntmps117
  generalize hq : (32 - m : Nat) = q at *
  clear hq
  go_wp2
  go_ret
  exact ⟨rfl, rfl⟩
set_option maxHeartbeats 1000000 in
theorem rot_any (x : W32) (m : Nat) (w : World) (hm : m ∈ [2, 6, 7, 11, 13, 17, 18, 19, 22, 25]) :
    Calls Tryz.prog 109 #[.int .u32 (n32 x), .int .i64 (m : Int)] w fun e w' => e = .returned (.int .u32 (n32 (rotr x m))) ∧ w = w' := by
  have C : ∀ w, Calls Tryz.prog 117 #[.int .u32 (n32 x), .int .i64 (-(m : Int))] w fun e w' => e = .returned (.int .u32 (n32 (rotr x m))) ∧ w = w' := by
    intro w
    simp only [List.mem_cons, List.not_mem_nil, or_false] at hm
    rcases hm with rfl | rfl | rfl | rfl | rfl | rfl | rfl | rfl | rfl | rfl <;> exact rotl_any x _ _ w (by decide) (by decide) (by decide) (by decide)
  have hb : (m : Int) ≤ 25 := by
    simp only [List.mem_cons, List.not_mem_nil, or_false] at hm; omega
  go_enter Tryz.func109, Tryz.ntmps109
  go_wp2_with (go_at_call 117; refine (C _).mono ?_; rintro e w' ⟨rfl, rfl⟩)
  go_ret
  exact ⟨rfl, rfl⟩


theorem rotk (x : W32) (k : Int) (w : World) (hk : k ∈ [2, 6, 7, 11, 13, 17, 18, 19, 22, 25]) :
    Calls Tryz.prog 109 #[.int .u32 (n32 x), .int .i64 k] w fun e w' => e = .returned (.int .u32 (n32 (rotr x k.toNat))) ∧ w = w' := by
  have h0 : 0 ≤ k := by simp only [List.mem_cons, List.not_mem_nil, or_false] at hk; omega
  obtain ⟨m, rfl⟩ := Int.eq_ofNat_of_zero_le h0
  have hm : m ∈ [2, 6, 7, 11, 13, 17, 18, 19, 22, 25] := by simp only [List.mem_cons, List.not_mem_nil, or_false] at hk ⊢; omega
  rw [Int.toNat_natCast]
  exact rot_any x m w hm
theorem rotq (x : W32) (k : Int) (w : World) (hk : k ∈ [2, 6, 7, 11, 13, 17, 18, 19, 22, 25]) :
    Calls Tryz.prog 109 #[.int .u32 (n32 x), .int .i64 k] w fun e w' => e = .returned (.int .u32 (n32 (rotr x k.toNat))) ∧ w' = w :=
  (rotk x k w hk).mono fun _ _ ⟨a, b⟩ => ⟨a, b.symm⟩

theorem hcell_blk {w : World} {b : Nat} {T : TypeId} {s : St} {blk : List UInt8} {at_ n : Int} (h : Row w b T (hcells s blk at_ n)) (hl : blk.length = 64) (j : Nat) (hj : j < 64) :
    w.cell? ⟨b, 8 + j, none⟩ = some (.int .u8 ((blk.getD j 0).toNat : Int)) := by
  rw [h.cell]
  have h8 : (s.list.map wv).length = 8 := by simp [St.list]
  unfold hcells
  rw [List.append_assoc, List.getElem?_append_right (by omega), h8, show 8 + j - 8 = j by omega, List.getElem?_append_left (by simp; omega)]
  simp [bv, List.getD, hl, hj]

theorem u32_set (ws : List W32) (x : W32) (h : ws.length < 64) : (warr ws).set ws.length (wv x) = warr (ws ++ [x]) := by
  unfold warr
  rw [show 64 - ws.length = (64 - (ws ++ [x]).length) + 1 by simp; omega, List.replicate_succ]
  simp

theorem ext_one (blk : List UInt8) (k : Nat) (hk : k < 64) : warr (List.map (word blk) (List.range (k + 1))) = (warr (List.map (word blk) (List.range k))).set k (.int .u32 (n32 (word blk k))) := by
  have := u32_set (List.map (word blk) (List.range k)) (word blk k) (by simpa using hk)
  simp only [List.length_map, List.length_range] at this
  rw [List.range_succ, List.map_append]; exact this.symm

theorem warr_cell {w : World} {b : Nat} {T : TypeId} {ws : List W32} (h : Row w b T (warr ws)) (i : Nat) (hi : i < ws.length) : w.cell? ⟨b, i, none⟩ = some (.int .u32 (n32 (ws.getD i 0))) := by
  rw [h.cell]
  unfold warr
  rw [List.getElem?_map, List.getElem?_append_left hi]
  simp [List.getD, hi, wv]

theorem ext_length (l : List W32) : (ext l).length = l.length + 1 := by simp [ext]
theorem extN_succ (n : Nat) : ∀ l, extN (n + 1) l = ext (extN n l) := by
  induction n with
  | zero => intro l; rfl
  | succ n ih => intro l; rw [extN, ih]; rfl
theorem extN_length (n : Nat) (l : List W32) : (extN n l).length = l.length + n := by
  induction n with
  | zero => rfl
  | succ n ih => rw [extN_succ, ext_length, ih]; omega

/-- The sum while it is added up: the first k words have been. -/
def part (s t : St) (k : Nat) : List W32 := (List.range 8).map fun i => if i < k then s.list.getD i 0 + t.list.getD i 0 else s.list.getD i 0
theorem part_set (s t : St) (k : Nat) (hk : k < 8) (rest : List Value) :
    ((part s t k).map wv ++ rest).set k (.int .u32 (n32 (s.list.getD k 0 + t.list.getD k 0))) = (part s t (k + 1)).map wv ++ rest := by
  have h : k = 0 ∨ k = 1 ∨ k = 2 ∨ k = 3 ∨ k = 4 ∨ k = 5 ∨ k = 6 ∨ k = 7 := by omega
  rcases h with rfl | rfl | rfl | rfl | rfl | rfl | rfl | rfl <;> rfl
theorem part_cell {w : World} {b : Nat} {T : TypeId} {s t : St} {k : Nat} {rest : List Value} (h : Row w b T ((part s t k).map wv ++ rest)) (hk : k < 8) :
    w.cell? ⟨b, k, none⟩ = some (.int .u32 (n32 (s.list.getD k 0))) := by
  rw [h.cell]
  have h : k = 0 ∨ k = 1 ∨ k = 2 ∨ k = 3 ∨ k = 4 ∨ k = 5 ∨ k = 6 ∨ k = 7 := by omega
  rcases h with rfl | rfl | rfl | rfl | rfl | rfl | rfl | rfl <;> rfl
theorem list_cell {w : World} {b : Nat} {T : TypeId} {t : St} {k : Nat} (h : Row w b T (t.list.map wv)) (hk : k < 8) :
    w.cell? ⟨b, k, none⟩ = some (.int .u32 (n32 (t.list.getD k 0))) := by
  rw [h.cell]
  have h : k = 0 ∨ k = 1 ∨ k = 2 ∨ k = 3 ∨ k = 4 ∨ k = 5 ∨ k = 6 ∨ k = 7 := by omega
  rcases h with rfl | rfl | rfl | rfl | rfl | rfl | rfl | rfl <;> rfl

set_option maxHeartbeats 16000000 in
theorem mix_any (b : Nat) (T : TypeId) (s : St) (blk : List UInt8) (hl : blk.length = 64) (at_ n : Int) (w : World) (h : Row w b T (hcells s blk at_ n)) (hK : Tab w) :
    Calls Tryz.prog 94 #[.pointer (some ⟨b, 0, none⟩)] w fun e w' => e = .returned (.tuple #[]) ∧ Row w' b T (hcells (compress s blk) blk at_ n) ∧ Chg (· = b) w w' := by
  go_enter Tryz.func94, Tryz.ntmps94
  go_wp2
  have hW0 : Row (w.alloc (.cells (warr []).toArray 126)) w.heap.size 126 (warr []) := Row.alloc_new _ _ _
  go_loopw [21] (fun i wr => ∃ k : Nat, k ≤ 16 ∧ i = .int .i64 k ∧ Row wr w.heap.size 126 (warr ((List.range k).map (word blk))) ∧ Chg (fun _ => False) w wr) (fun i _ => 16 - (intOf i).toNat)
  case atStart => exact ⟨0, by omega, rfl, hW0, (Chg.refl _ _).alloc _⟩
  case round =>
    clear hW0
    obtain ⟨k, hk, rfl, hR, hC⟩ := hrel
    by_cases hlt : k < 16
    ·
      --DEV{
      have hsl := run_arr_from (P := Tryz.prog) 76 5 64 1 Tryz.underlying76 (by kernel_rfl) b 8 (4 * (k : Int)) (4 * k) (by omega) (by omega)
      have hH := h.chg hC id
      have c0 := hcell_blk hH hl (4 * k) (by omega)
      have c1 := hcell_blk hH hl (4 * k + 1) (by omega)
      have c2 := hcell_blk hH hl (4 * k + 2) (by omega)
      have c3 := hcell_blk hH hl (4 * k + 3) (by omega)
      simp only [← Nat.add_assoc] at c1 c2 c3
      have hw : word blk k = be (blk.getD (4 * k) 0) (blk.getD (4 * k + 1) 0) (blk.getD (4 * k + 2) 0) (blk.getD (4 * k + 3) 0) := rfl
      generalize blk.getD (4 * k) 0 = p0 at c0 hw
      generalize blk.getD (4 * k + 1) 0 = p1 at c1 hw
      generalize blk.getD (4 * k + 2) 0 = p2 at c2 hw
      generalize blk.getD (4 * k + 3) 0 = p3 at c3 hw
      have W : Hid (word blk k = be p0 p1 p2 p3) := hw
      clear hw
      have b64 : (k : Int) < 64 := by omega
      have f0 := hR.frozen k
      have hs := hR.cellD k (by simp [warr]; omega)
      generalize (warr (List.map (word blk) (List.range k))).getD k undef = old at hs
      have b0 : (0 : Int) < ((64 - 4 * k : Nat) : Int) := by omega
      have b0' : 0 < 64 - 4 * k := by omega
      have b1 : (1 : Int) < ((64 - 4 * k : Nat) : Int) := by omega
      have b2 : (2 : Int) < ((64 - 4 * k : Nat) : Int) := by omega
      have b3 : (3 : Int) < ((64 - 4 * k : Nat) : Int) := by omega
      go_wp2
      go_still_tail 24, (by kernel_rfl)
      change wpList _ _ _ _ _ wr.drew
      go_wp2
      go_roundw
      case rel =>
        refine ⟨k + 1, by omega, by go_num, ?_, (hC.setCell _ _ (by simp)).drew⟩
        rw [word_bits, ← W.out, ext_one _ _ (by omega)]
        exact (hR.set k _).drew
      case measure => simp [intOf]; omega
      --DEV}
    · have ek : k = 16 := by omega
      rw [ek] at hR
      have hge : 16 ≤ k := by omega
      clear ek
      go_wp2
      obtain ⟨k0, rfl⟩ : ∃ k0 : Nat, k0 = k := ⟨_, rfl⟩
      obtain ⟨w0, rfl⟩ : ∃ w0 : World, w0 = wr := ⟨_, rfl⟩
      go_loopw [5] (fun i wr => ∃ k : Nat, 16 ≤ k ∧ k ≤ 64 ∧ i = .int .i64 k ∧ Row wr w.heap.size 126 (warr (extN (k - 16) (first16 blk))) ∧ Chg (fun _ => False) w wr) (fun i _ => 64 - (intOf i).toNat)
      case atStart => exact ⟨16, by omega, by omega, rfl, hR, hC⟩
      case round =>
        clear hR hC hlt hk hge
        obtain ⟨k, hk0, hk, rfl, hR, hC⟩ := hrel
        have hlen : (extN (k - 16) (first16 blk)).length = k := by rw [extN_length]; simp [first16]; omega
        by_cases hlt : k < 64
        ·
          --DEV{
          have hX : extN (k + 1 - 16) (first16 blk) = ext (extN (k - 16) (first16 blk)) := by rw [← extN_succ]; congr 1; omega
          generalize extN (k - 16) (first16 blk) = ws at *
          have c15 := warr_cell hR (k - 15) (by omega)
          have c2 := warr_cell hR (k - 2) (by omega)
          generalize hx : ws.getD (k - 15) 0 = x at c15
          generalize hy : ws.getD (k - 2) 0 = y at c2
          generalize hp : ws.getD (k - 7) 0 = p
          generalize hq : ws.getD (k - 16) 0 = q
          have i7 : IntKind.i64.wrap ((k : Int) - 7) = ((k - 7 : Nat) : Int) := by rw [IntWalk.i64_in _ (by omega)]; omega
          have i16 : IntKind.i64.wrap ((k : Int) - 16) = ((k - 16 : Nat) : Int) := by rw [IntWalk.i64_in _ (by omega)]; omega
          have b7 : ((k - 7 : Nat) : Int) < 64 := by omega
          have b16 : ((k - 16 : Nat) : Int) < 64 := by omega
          have E : Hid (ext ws = ws ++ [((((rotr y 17 ^^^ rotr y 19) ^^^ (y >>> 10)) + p) + ((rotr x 7 ^^^ rotr x 18) ^^^ (x >>> 3))) + q]) := by
            show ext ws = _
            unfold ext; simp only [hlen, hx, hy, hp, hq]
          have P7 : Hid (ws.getD (k - 7) 0 = p) := hp
          have P16 : Hid (ws.getD (k - 16) 0 = q) := hq
          clear hx hy hp hq
          have H1 := Lib.hid hlen
          have H2 := Lib.hid hX
          clear hlen hX
          go_wp2
          go_quiet (fail)
          go_wp2_with (go_at_call 109; (with_reducible refine (rotk _ _ _ (by decide)).mono ?_); rintro e w' ⟨rfl, rfl⟩)
          clear c15 c2
          generalize hw2 : wr.drewN nq = w2
          have hR2 : Row w2 w.heap.size 126 (warr ws) := hw2 ▸ hR.drewN nq
          have hC2 : Chg (fun _ => False) w w2 := hw2 ▸ hC.drewN nq
          clear hw2 hR hC
          have c7 := warr_cell hR2 (k - 7) (by rw [H1.out]; omega)
          have c16 := warr_cell hR2 (k - 16) (by rw [H1.out]; omega)
          rw [P7.out] at c7
          rw [P16.out] at c16
          have f0 := hR2.frozen k
          have hs := hR2.cellD k (by simp [warr, H1.out]; omega)
          generalize (warr ws).getD k undef = old at hs
          go_still_tail 15, (by kernel_rfl)
          change wpList _ _ _ _ _ w2.drew
          go_wp2
          go_roundw
          case rel =>
            refine ⟨k + 1, by omega, by omega, by go_num, ?_, (hC2.setCell _ _ (by simp)).drew⟩
            rw [sched_bits, H2.out, E.out]
            have := (hR2.set k (wv ((((rotr y 17 ^^^ rotr y 19) ^^^ (y >>> 10)) + p + ((rotr x 7 ^^^ rotr x 18) ^^^ (x >>> 3))) + q))).drew
            rw [← u32_set _ _ (by rw [H1.out]; omega), H1.out]
            exact this
          case measure => simp [intOf]; omega
          --DEV}
        · have ek : k = 64 := by omega
          rw [ek] at hR
          clear ek hlen
          obtain ⟨k1, rfl⟩ : ∃ k1 : Nat, k1 = k := ⟨_, rfl⟩
          have hB := h.chg hC id
          have d0 : wr.cell? ⟨b, 0, none⟩ = some (.int .u32 (n32 s.a)) := hB.cell 0
          have d1 : wr.cell? ⟨b, 1, none⟩ = some (.int .u32 (n32 s.b)) := hB.cell 1
          have d2 : wr.cell? ⟨b, 2, none⟩ = some (.int .u32 (n32 s.c)) := hB.cell 2
          have d3 : wr.cell? ⟨b, 3, none⟩ = some (.int .u32 (n32 s.d)) := hB.cell 3
          have d4 : wr.cell? ⟨b, 4, none⟩ = some (.int .u32 (n32 s.e)) := hB.cell 4
          have d5 : wr.cell? ⟨b, 5, none⟩ = some (.int .u32 (n32 s.f)) := hB.cell 5
          have d6 : wr.cell? ⟨b, 6, none⟩ = some (.int .u32 (n32 s.g)) := hB.cell 6
          have d7 : wr.cell? ⟨b, 7, none⟩ = some (.int .u32 (n32 s.h)) := hB.cell 7
          go_wp2
          clear hlt hk hk0
          have hV : Row (wr.alloc (.cells (s.list.map wv).toArray 112)) wr.heap.size 112 (s.list.map wv) := Row.alloc_new _ _ _
          have hR1 := hR.alloc (.cells (s.list.map wv).toArray 112)
          have hC1 := hC.alloc (.cells (s.list.map wv).toArray 112)
          have hlp := hR.lt
          clear d0 d1 d2 d3 d4 d5 d6 d7 hR hC hB
          obtain ⟨w1, rfl⟩ : ∃ w1 : World, w1 = wr := ⟨_, rfl⟩
          go_loopw [102] (fun i wr => ∃ k : Nat, k ≤ 64 ∧ i = .int .i64 k ∧ Row wr w.heap.size 126 (warr (plan blk)) ∧ Row wr w1.heap.size 112 ((steps (plan blk) s k).list.map wv) ∧ Chg (fun _ => False) w wr) (fun i _ => 64 - (intOf i).toNat)
          case atStart => exact ⟨0, by omega, rfl, hR1, hV, hC1⟩
          case round =>
            clear hR1 hC1 hV
            obtain ⟨k, hk, rfl, hR, hV, hC⟩ := hrel
            by_cases hlt : k < 64
            ·
              --DEV{
              have hpl : (plan blk).length = 64 := by unfold plan; rw [extN_length]; simp [first16]
              have cw := warr_cell hR k (by omega)
              have ck := hC.cell_some (hK k hlt) id
              have HS : Hid (steps (plan blk) s (k + 1) = Sha.step (steps (plan blk) s k) (K k) ((plan blk).getD k 0)) := rfl
              generalize steps (plan blk) s k = st at *
              generalize (plan blk).getD k 0 = x at *
              generalize K k = kk at *
              have e0 : wr.cell? ⟨w1.heap.size, 0, none⟩ = some (.int .u32 (n32 st.a)) := hV.cell 0
              have e1 : wr.cell? ⟨w1.heap.size, 1, none⟩ = some (.int .u32 (n32 st.b)) := hV.cell 1
              have e2 : wr.cell? ⟨w1.heap.size, 2, none⟩ = some (.int .u32 (n32 st.c)) := hV.cell 2
              have e4 : wr.cell? ⟨w1.heap.size, 4, none⟩ = some (.int .u32 (n32 st.e)) := hV.cell 4
              have e5 : wr.cell? ⟨w1.heap.size, 5, none⟩ = some (.int .u32 (n32 st.f)) := hV.cell 5
              have e6 : wr.cell? ⟨w1.heap.size, 6, none⟩ = some (.int .u32 (n32 st.g)) := hV.cell 6
              have e7 : wr.cell? ⟨w1.heap.size, 7, none⟩ = some (.int .u32 (n32 st.h)) := hV.cell 7
              have H1 := Lib.hid hpl
              clear hpl
              have hk64 : (k : Int) < 64 := by omega
              go_wp2
              go_quiet (fail)
              go_wp2
              generalize hw2 : wr.drewN nq = w2
              replace hR : Row w2 w.heap.size 126 (warr (plan blk)) := by rw [← hw2]; exact hR.drewN nq
              replace hV : Row w2 w1.heap.size 112 (st.list.map wv) := by rw [← hw2]; exact hV.drewN nq
              replace hC : Chg (fun _ => False) w w2 := by rw [← hw2]; exact hC.drewN nq
              replace cw : w2.cell? ⟨w.heap.size, k, none⟩ = some (.int .u32 (n32 x)) := by rw [← hw2]; exact cw
              replace ck : w2.cell? ⟨0, k, none⟩ = some (.int .u32 (n32 kk)) := by rw [← hw2]; exact ck
              clear hw2 e0 e1 e2 e4 e5 e6 e7
              have e7 : w2.cell? ⟨w1.heap.size, 7, none⟩ = some (.int .u32 (n32 st.h)) := hV.cell 7
              obtain ⟨A1, hA1⟩ : ∃ z : W32, Hid (z = (rotr st.e 6) ^^^ (rotr st.e 11)) := ⟨_, rfl⟩
              have rA1 : bits .xor .u32 (n32 (rotr st.e 6)) (n32 (rotr st.e 11)) = n32 A1 := by rw [hA1.out]; exact bits_xor32 _ _
              obtain ⟨A2, hA2⟩ : ∃ z : W32, Hid (z = A1 ^^^ (rotr st.e 25)) := ⟨_, rfl⟩
              have rA2 : bits .xor .u32 (n32 A1) (n32 (rotr st.e 25)) = n32 A2 := by rw [hA2.out]; exact bits_xor32 _ _
              obtain ⟨S1, hS1⟩ : ∃ z : W32, Hid (z = st.h + A2) := ⟨_, rfl⟩
              have rS1 : IntKind.wrap .u32 (n32 st.h + n32 A2) = n32 S1 := by rw [hS1.out]; exact wrap_add32 _ _
              have rS1' : (n32 st.h + n32 A2) % (4294967296 : Int) = n32 S1 := by rw [hS1.out]; exact add32_2 _ _
              obtain ⟨B1, hB1⟩ : ∃ z : W32, Hid (z = st.e &&& st.f) := ⟨_, rfl⟩
              have rB1 : bits .and .u32 (n32 st.e) (n32 st.f) = n32 B1 := by rw [hB1.out]; exact bits_and32 _ _
              obtain ⟨N1, hN1⟩ : ∃ z : W32, Hid (z = ~~~ st.e) := ⟨_, rfl⟩
              have rN1 : bits .xor .u32 (if IntKind.signed .u32 = true then -1 else IntKind.max .u32) (n32 st.e) = n32 N1 := by rw [hN1.out]; exact not32 _
              have rN1' : bits .xor .u32 4294967295 (n32 st.e) = n32 N1 := by rw [hN1.out]; exact not32' _
              obtain ⟨B2, hB2⟩ : ∃ z : W32, Hid (z = N1 &&& st.g) := ⟨_, rfl⟩
              have rB2 : bits .and .u32 (n32 N1) (n32 st.g) = n32 B2 := by rw [hB2.out]; exact bits_and32 _ _
              obtain ⟨B3, hB3⟩ : ∃ z : W32, Hid (z = B1 ^^^ B2) := ⟨_, rfl⟩
              have rB3 : bits .xor .u32 (n32 B1) (n32 B2) = n32 B3 := by rw [hB3.out]; exact bits_xor32 _ _
              obtain ⟨S2, hS2⟩ : ∃ z : W32, Hid (z = S1 + B3) := ⟨_, rfl⟩
              have rS2 : IntKind.wrap .u32 (n32 S1 + n32 B3) = n32 S2 := by rw [hS2.out]; exact wrap_add32 _ _
              have rS2' : (n32 S1 + n32 B3) % (4294967296 : Int) = n32 S2 := by rw [hS2.out]; exact add32_2 _ _
              obtain ⟨S3, hS3⟩ : ∃ z : W32, Hid (z = S2 + kk) := ⟨_, rfl⟩
              have rS3 : IntKind.wrap .u32 (n32 S2 + n32 kk) = n32 S3 := by rw [hS3.out]; exact wrap_add32 _ _
              have rS3' : (n32 S2 + n32 kk) % (4294967296 : Int) = n32 S3 := by rw [hS3.out]; exact add32_2 _ _
              obtain ⟨X, hX⟩ : ∃ z : W32, Hid (z = S3 + x) := ⟨_, rfl⟩
              have rX : IntKind.wrap .u32 (n32 S3 + n32 x) = n32 X := by rw [hX.out]; exact wrap_add32 _ _
              have rX' : (n32 S3 + n32 x) % (4294967296 : Int) = n32 X := by rw [hX.out]; exact add32_2 _ _
              go_quiet ((go_at_call 109; (with_reducible exact Calls.quiet_of_same (rotq _ _ _ (by decide)))))
              clear rA1 rA2 rS1 rS1' rB1 rN1 rN1' rB2 rB3 rS2 rS2' rS3 rS3' rX rX'
              obtain ⟨C1, hC1⟩ : ∃ z : W32, Hid (z = (rotr st.a 2) ^^^ (rotr st.a 13)) := ⟨_, rfl⟩
              have rC1 : bits .xor .u32 (n32 (rotr st.a 2)) (n32 (rotr st.a 13)) = n32 C1 := by rw [hC1.out]; exact bits_xor32 _ _
              obtain ⟨C2, hC2⟩ : ∃ z : W32, Hid (z = C1 ^^^ (rotr st.a 22)) := ⟨_, rfl⟩
              have rC2 : bits .xor .u32 (n32 C1) (n32 (rotr st.a 22)) = n32 C2 := by rw [hC2.out]; exact bits_xor32 _ _
              obtain ⟨D1, hD1⟩ : ∃ z : W32, Hid (z = st.a &&& st.b) := ⟨_, rfl⟩
              have rD1 : bits .and .u32 (n32 st.a) (n32 st.b) = n32 D1 := by rw [hD1.out]; exact bits_and32 _ _
              obtain ⟨D2, hD2⟩ : ∃ z : W32, Hid (z = st.a &&& st.c) := ⟨_, rfl⟩
              have rD2 : bits .and .u32 (n32 st.a) (n32 st.c) = n32 D2 := by rw [hD2.out]; exact bits_and32 _ _
              obtain ⟨D3, hD3⟩ : ∃ z : W32, Hid (z = D1 ^^^ D2) := ⟨_, rfl⟩
              have rD3 : bits .xor .u32 (n32 D1) (n32 D2) = n32 D3 := by rw [hD3.out]; exact bits_xor32 _ _
              obtain ⟨D4, hD4⟩ : ∃ z : W32, Hid (z = st.b &&& st.c) := ⟨_, rfl⟩
              have rD4 : bits .and .u32 (n32 st.b) (n32 st.c) = n32 D4 := by rw [hD4.out]; exact bits_and32 _ _
              obtain ⟨D5, hD5⟩ : ∃ z : W32, Hid (z = D3 ^^^ D4) := ⟨_, rfl⟩
              have rD5 : bits .xor .u32 (n32 D3) (n32 D4) = n32 D5 := by rw [hD5.out]; exact bits_xor32 _ _
              obtain ⟨Y, hY⟩ : ∃ z : W32, Hid (z = C2 + D5) := ⟨_, rfl⟩
              have rY : IntKind.wrap .u32 (n32 C2 + n32 D5) = n32 Y := by rw [hY.out]; exact wrap_add32 _ _
              have rY' : (n32 C2 + n32 D5) % (4294967296 : Int) = n32 Y := by rw [hY.out]; exact add32_2 _ _
              go_wp2_with (go_at_call 109; (with_reducible refine (rotk _ _ _ (by decide)).mono ?_); rintro e w' ⟨rfl, rfl⟩)
              clear rC1 rC2 rD1 rD2 rD3 rD4 rD5 rY rY'
              generalize hw3 : w2.drewN nq = w3
              replace hR : Row w3 w.heap.size 126 (warr (plan blk)) := by rw [← hw3]; exact hR.drewN nq
              replace hV : Row w3 w1.heap.size 112 (st.list.map wv) := by rw [← hw3]; exact hV.drewN nq
              replace hC : Chg (fun _ => False) w w3 := by rw [← hw3]; exact hC.drewN nq
              clear hw3 cw ck e7
              go_still_tail 2, (by kernel_rfl)
              change wpList _ _ _ _ _ w3.drew
              generalize hw4 : w3.drew = w4
              replace hR : Row w4 w.heap.size 126 (warr (plan blk)) := by rw [← hw4]; exact hR.drew
              replace hV : Row w4 w1.heap.size 112 (st.list.map wv) := by rw [← hw4]; exact hV.drew
              replace hC : Chg (fun _ => False) w w4 := by rw [← hw4]; exact hC.drew
              clear hw4
              refine wpList_copy_own rfl _ _ _ _ rfl 106 Tryz.underlying128 (by kernel_rfl) w1.heap.size 1 7 7 ⟨w1.heap.size, 0, none⟩ 7 8 rfl rfl (st.list.map wv).toArray 112 hV.out ((st.list.map wv).take 7) rfl ?hsrc (by simp [St.list]) ?h1 ?_
              case hsrc =>
                intro j v hj
                have hadd : (⟨w1.heap.size, 0, none⟩ : Addr).add j = ⟨w1.heap.size, j, none⟩ := by unfold Addr.add; split <;> simp_all
                rw [hadd, hV.cell]
                rw [List.getElem?_take] at hj
                split at hj
                · exact hj
                · cases hj
              case h1 =>
                intro v hv
                have := List.mem_of_mem_take hv
                simp only [List.mem_map] at this
                obtain ⟨z, _, rfl⟩ := this
                rfl
              have hV5 : Row (w4.setRow w1.heap.size (List.take 1 (List.map wv st.list).toArray.toList ++ (List.take 7 (List.map wv st.list) ++ List.drop (1 + (List.take 7 (List.map wv st.list)).length) (List.map wv st.list).toArray.toList)).toArray) w1.heap.size 112 [wv st.a, wv st.a, wv st.b, wv st.c, wv st.d, wv st.e, wv st.f, wv st.g] := hV.setRow _
              have hR5 := hR.setRow_other (List.take 1 (List.map wv st.list).toArray.toList ++ (List.take 7 (List.map wv st.list) ++ List.drop (1 + (List.take 7 (List.map wv st.list)).length) (List.map wv st.list).toArray.toList)).toArray (show w.heap.size ≠ w1.heap.size by omega)
              have hC5 := hC.setRow w1.heap.size (List.take 1 (List.map wv st.list).toArray.toList ++ (List.take 7 (List.map wv st.list) ++ List.drop (1 + (List.take 7 (List.map wv st.list)).length) (List.map wv st.list).toArray.toList)).toArray (by omega)
              clear hV hR hC
              generalize w4.setRow w1.heap.size (List.take 1 (List.map wv st.list).toArray.toList ++ (List.take 7 (List.map wv st.list) ++ List.drop (1 + (List.take 7 (List.map wv st.list)).length) (List.map wv st.list).toArray.toList)).toArray = w5 at *
              have e4 : w5.cell? ⟨w1.heap.size, 4, none⟩ = some (.int .u32 (n32 st.d)) := hV5.cell 4
              have e0 : w5.cell? ⟨w1.heap.size, 0, none⟩ = some (.int .u32 (n32 st.a)) := hV5.cell 0
              have f4 := hV5.frozen 4
              have f0 := hV5.frozen 0
              obtain ⟨E, hE⟩ : ∃ z : W32, Hid (z = st.d + X) := ⟨_, rfl⟩
              have rE : IntKind.wrap .u32 (n32 st.d + n32 X) = n32 E := by rw [hE.out]; exact wrap_add32 _ _
              have rE' : (n32 st.d + n32 X) % (4294967296 : Int) = n32 E := by rw [hE.out]; exact add32_2 _ _
              obtain ⟨F, hF⟩ : ∃ z : W32, Hid (z = X + Y) := ⟨_, rfl⟩
              have rF : IntKind.wrap .u32 (n32 X + n32 Y) = n32 F := by rw [hF.out]; exact wrap_add32 _ _
              have rF' : (n32 X + n32 Y) % (4294967296 : Int) = n32 F := by rw [hF.out]; exact add32_2 _ _
              go_wp2
              go_roundw
              case rel =>
                have hs : Sha.step st kk x = ⟨F, st.a, st.b, st.c, E, st.e, st.f, st.g⟩ := by
                  rw [hF.out, hE.out, hY.out, hX.out, hS3.out, hS2.out, hS1.out, hB3.out, hB2.out, hB1.out, hN1.out, hA2.out, hA1.out, hC2.out, hC1.out, hD5.out, hD4.out, hD3.out, hD2.out, hD1.out]; rfl
                refine ⟨k + 1, by omega, by go_num, (hR5.set_other _ (by simp; omega)).set_other _ (by simp; omega), ?_, (hC5.setCell _ _ (by simp; omega)).setCell _ _ (by simp; omega)⟩
                rw [HS.out, hs]
                exact (hV5.set 4 (.int .u32 (n32 E))).set 0 (.int .u32 (n32 F))
              case measure => simp [intOf]; omega
              --DEV}
            · have ek : k = 64 := by omega
              rw [ek] at hV
              have hge : 64 ≤ k := by omega
              clear ek
              obtain ⟨k2, rfl⟩ : ∃ k2 : Nat, k2 = k := ⟨_, rfl⟩
              obtain ⟨t, ht⟩ : ∃ t, Hid (t = steps (plan blk) s 64) := ⟨_, rfl⟩
              rw [← ht.out] at hV
              go_wp2
              clear hlt hk hge
              have hB : Row wr b T ((part s t 0).map wv ++ (blk.map bv ++ [.int .i64 at_, .int .u64 n])) := by
                have := h.chg hC id
                have e : hcells s blk at_ n = (part s t 0).map wv ++ (blk.map bv ++ [.int .i64 at_, .int .u64 n]) := by
                  unfold hcells; rw [List.append_assoc]; rfl
                rw [← e]; exact this
              have hC' : Chg (· = b) w wr := hC.mono (fun _ _ h => h.elim)
              have hbl := h.lt
              clear hC hR
              generalize hrest : blk.map bv ++ [.int .i64 at_, .int .u64 n] = rest at hB
              have HR := Lib.hid hrest
              clear hrest
              obtain ⟨w3, rfl⟩ : ∃ w3 : World, w3 = wr := ⟨_, rfl⟩
              go_loopw [178] (fun i wr => ∃ k : Nat, k ≤ 8 ∧ i = .int .i64 k ∧ Row wr w1.heap.size 112 (t.list.map wv) ∧ Row wr b T ((part s t k).map wv ++ rest) ∧ Chg (· = b) w wr) (fun i _ => 8 - (intOf i).toNat)
              case atStart => exact ⟨0, by omega, rfl, hV, hB, hC'⟩
              case round =>
                clear hV hB hC'
                obtain ⟨k, hk, rfl, hV, hB, hC⟩ := hrel
                by_cases hlt : k < 8
                · have c1 := part_cell hB hlt
                  have c2 := list_cell hV hlt
                  have f1 := hB.frozen k
                  have hps := part_set s t k hlt rest
                  have H1 := Lib.hid hps
                  clear hps
                  generalize s.list.getD k 0 = x at *
                  generalize t.list.getD k 0 = y at *
                  obtain ⟨E, hE⟩ : ∃ z : W32, Hid (z = x + y) := ⟨_, rfl⟩
                  have rE : IntKind.wrap .u32 (n32 x + n32 y) = n32 E := by rw [hE.out]; exact wrap_add32 _ _
                  have rE' : (n32 x + n32 y) % (4294967296 : Int) = n32 E := by rw [hE.out]; exact add32_2 _ _
                  have hk8 : (k : Int) < 8 := by omega
                  go_wp2
                  go_still_tail 13, (by kernel_rfl)
                  change wpList _ _ _ _ _ wr.drew
                  go_wp2
                  go_roundw
                  case rel =>
                    refine ⟨k + 1, by omega, by go_num, (hV.set_other _ (by simp; omega)).drew, ?_, (hC.setCell _ _ (by simp)).drew⟩
                    rw [← H1.out, ← hE.out]
                    exact (hB.set k _).drew
                  case measure => simp [intOf]; omega
                · have ek : k = 8 := by omega
                  rw [ek] at hB
                  clear ek
                  go_wp2
                  go_end0
                  refine ⟨rfl, ?_, hC⟩
                  have e : hcells (compress s blk) blk at_ n = (part s t 8).map wv ++ rest := by
                    rw [← HR.out, ht.out]; unfold hcells; rw [List.append_assoc]; rfl
                  rw [e]; exact hB
end Go.Proofs.YtejlffeiebfboaaGreatDoor.Mix
