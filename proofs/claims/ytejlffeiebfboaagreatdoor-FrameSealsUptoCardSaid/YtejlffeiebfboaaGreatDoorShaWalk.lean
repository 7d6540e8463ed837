/- The program's package sha: New, (*Hash).Write, (*Hash).Sum, Of. -/
import Derived.Test.YtejlffeiebfboaaGreatDoorMix
import Derived.Test.YtejlffeiebfboaaGreatDoorShaLaw
import Derived.Deep.DeepCutAuto
import Derived.Deep.WholeRow
set_option linter.unusedVariables false
set_option linter.unusedSimpArgs false
namespace Go.Proofs.YtejlffeiebfboaaGreatDoor.ShaWalk
open Go Go.RowKit Go.Proofs.YtejlffeiebfboaaGreatDoor.Sha Go.Proofs.YtejlffeiebfboaaGreatDoor.Num Go.Proofs.YtejlffeiebfboaaGreatDoor.Mem Go.Proofs.YtejlffeiebfboaaGreatDoor.Mix

/-- A sum that is being made: m has been written. -/
def IsHash (w : World) (b : Nat) (T : TypeId) (m : List UInt8) : Prop :=
  ∃ blk, blk.length = 64 ∧ blk.take (m.length % 64) = pend m ∧ Row w b T (hcells (absorb init m) blk ((m.length % 64 : Nat) : Int) (m.length : Int))

theorem IsHash.chg {w w' : World} {F : Nat → Prop} {b : Nat} {T : TypeId} {m : List UInt8} (h : IsHash w b T m) (hc : Chg F w w') (hF : ¬ F b) : IsHash w' b T m := by
  obtain ⟨blk, h1, h2, h3⟩ := h
  exact ⟨blk, h1, h2, h3.chg hc hF⟩

set_option maxRecDepth 100000
theorem new_any (w : World) : Calls Tryz.prog 77 #[] w fun e w' => e = .returned (.pointer (some ⟨w.heap.size, 0, none⟩)) ∧ IsHash w' w.heap.size 114 [] ∧ Chg (fun _ => False) w w' := by
  go_enter Tryz.func77, Tryz.ntmps77
  go_wp2
  go_ret
  refine ⟨rfl, ⟨List.replicate 64 0, rfl, rfl, ?_⟩, (Chg.refl _ _).alloc _⟩
  exact Row.alloc_new w 114 (hcells (absorb init []) (List.replicate 64 0) 0 0)

theorem hcells_copy (s : St) (blk cs : List UInt8) (at_ k : Nat) (hl : blk.length = 64) (hk : at_ + k ≤ 64) (hc : cs.length = k) (a n : Int) :
    (hcells s blk a n).take (8 + at_) ++ (cs.map bv ++ (hcells s blk a n).drop (8 + at_ + k)) = hcells s (blk.take at_ ++ (cs ++ blk.drop (at_ + k))) a n := by
  have h8 : (s.list.map wv).length = 8 := by simp [St.list]
  unfold hcells
  rw [List.append_assoc, List.take_append, List.drop_append, h8, List.take_of_length_le (by omega), List.drop_eq_nil_of_le (by omega), show 8 + at_ - 8 = at_ by omega, show 8 + at_ + k - 8 = at_ + k by omega, List.take_append_of_le_length (by simp; omega), List.drop_append_of_le_length (by simp; omega)]
  simp [List.map_take, List.map_drop]

theorem Tab.chg {w w' : World} {F : Nat → Prop} (h : Tab w) (hc : Chg F w w') (hF : ¬ F 0) : Tab w' := fun t ht => hc.cell_some (h t ht) hF
theorem hcells_at (s : St) (blk : List UInt8) (hl : blk.length = 64) (a a' n : Int) : (hcells s blk a n).set 72 (.int .i64 a') = hcells s blk a' n := by
  unfold hcells
  rw [List.set_append_right _ _ (by simp [St.list, hl])]
  simp [St.list, hl]

/-- 'q[k:]' -/
theorem slb_drop (t e : TypeId) (ht : Tryz.prog.underlying t = some (.slice e)) (hs : (Tryz.prog.info? e).map (·.size) = some 1) (A : Option Addr) (q : List UInt8) (c k : Nat) (hk : k ≤ q.length) (hle : q.length ≤ c) :
    ∃ v2, (∀ W, (Instr.sliceAt t (.slice A q.length c) (some (.int .i64 (k : Int))) none none).run Tryz.prog W = .ok v2 W) ∧ ∀ w ok, SlB w ok (.slice A q.length c) q → SlB w ok v2 (q.drop k) := by
  cases hq : Tryz.prog.info? e with
  | none => simp [hq] at hs
  | some i =>
    have hi : i.size = 1 := by simpa [hq] using hs
    refine ⟨.slice (if c = k then A else A.map (·.add (k * 1))) (q.length - k) (c - k), fun W => ?_, fun w ok h => ?_⟩
    · simp [Instr.sliceAt, run_underlying ht, Instr.slice, Instr.sliceBounds, run_sliceBound, sizeOf, typeInfo, hq, hi, (by omega : (k : Int) ≤ q.length), (by omega : (k : Int) ≤ c)]
    · obtain ⟨A', c', e', hle', hp⟩ := h
      simp only [Value.slice.injEq, true_and] at e'
      obtain ⟨rfl, rfl⟩ := e'
      refine ⟨_, _, by rw [List.length_drop], by simp; omega, fun hne => ?_⟩
      have hne' : q ≠ [] := fun e => hne (by simp [e])
      have hlt : k < q.length := by
        rcases Nat.lt_or_ge k q.length with h | h
        · exact h
        · exact absurd (List.drop_eq_nil_of_le h) hne
      obtain ⟨g, o, eA, hok, hcell⟩ := hp hne'
      refine ⟨g, o + k, ?_, hok, fun j hj => ?_⟩
      · rw [if_neg (by omega), eA]
        simp only [Option.map_some, Nat.mul_one]
        unfold Addr.add; split
        · rename_i h0; simp [h0]
        · rfl
      · rw [List.length_drop] at hj
        have := hcell (k + j) (by omega)
        rw [show o + k + j = o + (k + j) by omega, this]
        simp [List.getD]

set_option maxHeartbeats 4000000 in
theorem write_any (b : Nat) (T : TypeId) (m p : List UInt8) (v : Value) (w : World) (h : IsHash w b T m) (hv : SlB w (· ≠ b) v p) (hK : Tab w) (hb : b ≠ 0) (hm : m.length + p.length < 1000000000000000000) :
    Calls Tryz.prog 78 #[.pointer (some ⟨b, 0, none⟩), v] w fun e w' => e = .returned (.tuple #[]) ∧ IsHash w' b T (m ++ p) ∧ Chg (· = b) w w' := by
  obtain ⟨blk, hbl, hpe, hR⟩ := h
  have hv0 := hv
  obtain ⟨A, c, rfl, hle, hp⟩ := hv
  have d3 : w.cell? ⟨b, 73, none⟩ = some (.int .u64 (m.length : Int)) := by
    rw [hR.cell]; unfold hcells; rw [List.getElem?_append_right (by simp [St.list, hbl])]; simp [St.list, hbl]
  have f3 := hR.frozen 73
  have hml : (m.length : Int) + (p.length : Int) < 1000000000000000000 := by omega
  go_enter Tryz.func78, Tryz.ntmps78
  go_wp2
  have hN : hcells (absorb init m) blk ((m.length % 64 : Nat) : Int) (((m ++ p).length : Nat) : Int) = (hcells (absorb init m) blk ((m.length % 64 : Nat) : Int) (m.length : Int)).set 73 (.int .u64 ((m.length : Int) + (p.length : Int))) := by
    unfold hcells
    rw [List.set_append_right _ _ (by simp [St.list, hbl])]
    simp [St.list, hbl]
  have hR1 := hR.set 73 (.int .u64 ((m.length : Int) + (p.length : Int)))
  rw [← hN] at hR1
  have hC1 : Chg (· = b) w (w.setCell ⟨b, 73, none⟩ (.int .u64 ((m.length : Int) + (p.length : Int)))) := (Chg.refl _ _).setCell _ _ (fun _ => rfl)
  have hv1 := hv0.chg hC1 (fun g h => h)
  have hbs := hR.lt
  clear hp hR hN d3 f3 hv0
  generalize ht : (((m ++ p).length : Nat) : Int) = total at hR1
  have HT := Lib.hid ht
  clear ht
  go_loopg [1] p.length (fun gk v wr => ∃ q m' blk, Hid (q.length ≤ gk ∧ m' ++ q = m ++ p ∧ blk.length = 64 ∧ blk.take (m'.length % 64) = pend m') ∧ SlB wr (· ≠ b) v q ∧ Row wr b T (hcells (absorb init m') blk ((m'.length % 64 : Nat) : Int) total) ∧ Chg (· = b) w wr)
  case atStart => exact ⟨p, m, blk, ⟨Nat.le_refl _, rfl, hbl, hpe⟩, hv1, hR1, hC1⟩
  case round =>
    clear hR1 hC1 hv1 hpe hbl hle hm hml
    obtain ⟨q, m', blk, hh, hv, hR, hC⟩ := hrel
    have hv0 := hv
    obtain ⟨A, c, rfl, hle, hp⟩ := hv
    by_cases hq : q = []
    · subst hq
      obtain ⟨_, hmq, hbl, hpe⟩ := hh.out
      have HM := Lib.hid hmq
      have HB := Lib.hid hbl
      have HE := Lib.hid hpe
      clear hp hmq hbl hpe hle
      go_wp2
      go_end0
      have e : m' = m ++ p := by rw [← HM.out, List.append_nil]
      subst e
      refine ⟨rfl, ⟨blk, HB.out, HE.out, ?_⟩, hC⟩
      rw [HT.out]; exact hR
    · have hpos : 0 < q.length := List.length_pos_iff.2 hq
      obtain ⟨g, o, rfl, hg, hcell⟩ := hp hq
      have hposI : (0 : Int) < (q.length : Int) := by omega
      clear hp
      obtain ⟨hgk, hmq, hbl, hpe⟩ := hh.out
      obtain ⟨a, ha⟩ : ∃ a, Hid (a = m'.length % 64) := ⟨_, rfl⟩
      have ha64 : a < 64 := by rw [ha.out]; omega
      rw [← ha.out] at hR hpe
      obtain ⟨k, hk⟩ : ∃ k, Hid (k = Nat.min q.length (64 - a)) := ⟨_, rfl⟩
      have hk1 : 0 < k ∧ k ≤ q.length ∧ a + k ≤ 64 ∧ (a + k < 64 → k = q.length) := by rw [hk.out]; simp only [Nat.min_def]; split <;> omega
      have d2 : wr.cell? ⟨b, 72, none⟩ = some (.int .i64 (a : Int)) := by
        rw [hR.cell]; unfold hcells; rw [List.getElem?_append_right (by simp [St.list, hbl])]; simp [St.list, hbl]
      have hsl := run_arr_from (P := Tryz.prog) 76 5 64 1 Tryz.underlying76 (by kernel_rfl) b 8 (a : Int) a rfl ha64
      have H1 := Lib.hid hbl
      have H2 := Lib.hid hpe
      have H3 := Lib.hid hmq
      clear hbl hpe hmq
      go_wp2
      go_still_tail 9, (by kernel_rfl)
      change wpList _ _ _ _ _ wr.drew
      clear d2 hsl
      generalize hw2 : wr.drew = w2
      replace hR : Row w2 b T (hcells (absorb init m') blk (a : Int) total) := by rw [← hw2]; exact hR.drew
      replace hv0 : SlB w2 (· ≠ b) (.slice (some ⟨g, o, none⟩) q.length c) q := by rw [← hw2]; exact hv0
      replace hC : Chg (· = b) w w2 := by rw [← hw2]; exact hC.drew
      replace hcell : ∀ (j : Nat), j < q.length → w2.cell? ⟨g, o + j, none⟩ = some (.int .u8 ((q.getD j 0).toNat : Int)) := by rw [← hw2]; exact hcell
      clear hw2
      have hcl : ((q.take k).map bv).length = k := by simp; omega
      obtain ⟨L, hL⟩ : ∃ L, Hid (L = List.take (8 + a) (hcells (absorb init m') blk (a : Int) total).toArray.toList ++ ((q.take k).map bv ++ List.drop (8 + a + ((q.take k).map bv).length) (hcells (absorb init m') blk (a : Int) total).toArray.toList)) := ⟨_, rfl⟩
      obtain ⟨blk', hblk⟩ : ∃ blk', Hid (blk' = blk.take a ++ (q.take k ++ blk.drop (a + k))) := ⟨_, rfl⟩
      have hLe : L = hcells (absorb init m') blk' (a : Int) total := by
        rw [hL.out, hblk.out, hcl]
        exact hcells_copy _ _ _ _ _ H1.out (by omega) (by simp; omega) _ _
      have hbl' : blk'.length = 64 := by rw [hblk.out]; simp [H1.out]; omega
      refine wpList_copy_own rfl _ _ _ _ rfl 5 Tryz.underlying38 (by kernel_rfl) b (8 + a) (64 - a) (64 - a) ⟨g, o, none⟩ q.length c rfl rfl (hcells (absorb init m') blk (a : Int) total).toArray T hR.out ((q.take k).map bv) (by rw [hcl, hk.out]) ?hsrc ?hfit ?h1 ?_
      case hsrc =>
        intro j v hj
        rw [List.getElem?_map] at hj
        have hjk : j < k := by
          rcases Nat.lt_or_ge j k with h | h
          · exact h
          · rw [List.getElem?_eq_none (by simp; omega)] at hj; simp at hj
        have hadd : (⟨g, o, none⟩ : Addr).add j = ⟨g, o + j, none⟩ := by
          unfold Addr.add; split
          · rename_i h0; simp [h0]
          · rfl
        rw [hadd, hcell j (by omega)]
        rw [List.getElem?_take, if_pos hjk, List.getElem?_eq_getElem (by omega)] at hj
        simp only [Option.map_some, bv, Option.some.injEq] at hj
        rw [← hj]; simp [List.getD, (by omega : j < q.length)]
      case hfit => rw [hcl]; unfold hcells; simp [St.list, H1.out]; omega
      case h1 =>
        intro v hv
        simp only [List.mem_map] at hv
        obtain ⟨z, _, rfl⟩ := hv
        rfl
      rw [← hL.out, hcl]
      have hR3 : Row (w2.setRow b L.toArray) b T (hcells (absorb init m') blk' (a : Int) total) := hLe ▸ hR.setRow L
      have hC3 := hC.setRow b L.toArray (fun _ => rfl)
      have hC23 : Chg (· = b) w2 (w2.setRow b L.toArray) := (Chg.refl _ _).setRow b L.toArray (fun _ => rfl)
      have hv3 := hv0.chg hC23 (fun g h => h)
      clear hR hC hv0 hLe hcell hC23
      generalize w2.setRow b L.toArray = w3 at *
      obtain ⟨v2, hsl, hv2⟩ := slb_drop 38 5 Tryz.underlying38 (by kernel_rfl) (some ⟨g, o, none⟩) q c k hk1.2.1 hle
      replace hv3 := hv2 w3 _ hv3
      have d2 : w3.cell? ⟨b, 72, none⟩ = some (.int .i64 (a : Int)) := by
        rw [hR3.cell]; unfold hcells; rw [List.getElem?_append_right (by simp [St.list, hbl'])]; simp [St.list, hbl']
      have f2 := hR3.frozen 72
      have hgi : goInt (k : Int) = .int .i64 (k : Int) := rfl
      have hak : (a : Int) + (k : Int) ≤ 64 := by omega
      have HK := Lib.hid hk1
      have HP := Lib.hid hpos
      clear hv2 hcl hk1 hq hposI hpos
      have H4 := Lib.hid hbl'
      clear hbl'
      by_cases hfull : a + k = 64
      · have ht : (((a : Int) + (k : Int)) == 64) = true := by simp; omega
        go_wp2_with (fail)
        have hR4 : Row (w3.setCell ⟨b, 72, none⟩ (.int .i64 ((a : Int) + (k : Int)))) b T (hcells (absorb init m') blk' ((a : Int) + (k : Int)) total) := by
          rw [← hcells_at _ _ H4.out (a : Int)]; exact hR3.set 72 _
        have hC4 : Chg (· = b) w (w3.setCell ⟨b, 72, none⟩ (.int .i64 ((a : Int) + (k : Int)))) := hC3.setCell _ _ (fun _ => rfl)
        have hv4 := hv3.chg (F := (· = b)) ((Chg.refl _ _).setCell ⟨b, 72, none⟩ (.int .i64 ((a : Int) + (k : Int))) (fun _ => rfl)) (fun g h => h)
        refine (mix_any b T _ blk' H4.out _ _ _ hR4 (Tab.chg hK hC4 (fun e => hb e.symm))).mono ?_
        rintro e w5 ⟨rfl, hR5, hC5⟩
        have hC6 := hC4.trans hC5
        have hv6 := hv4.chg hC5 (fun g h => h)
        have f2 := hR5.frozen 72
        have d5 : w5.cell? ⟨b, 72, none⟩ = some (.int .i64 ((a : Int) + (k : Int))) := by
          rw [hR5.cell]; unfold hcells; rw [List.getElem?_append_right (by simp [St.list, H4.out])]; simp [St.list, H4.out]
        clear hR4 hC4 hv4 hC5 hv3 hR3 hC3 d2 hsl
        go_wp2
        have hcp : hcells (compress (absorb init m') blk') blk' 0 total = (hcells (compress (absorb init m') blk') blk' ((a : Int) + (k : Int)) total).set 72 (.int .i64 0) := (hcells_at _ _ H4.out _ _ _).symm
        have hl1 : (q.take k).length = k := by have := HK.out; simp; omega
        have hcm : m'.length % 64 + (q.take k).length = 64 := by rw [hl1, ← ha.out]; exact hfull
        have hbk : blk' = pend m' ++ q.take k := by
          rw [hblk.out, ← H2.out, List.drop_eq_nil_of_le (by rw [H1.out]; omega), List.append_nil]
        go_roundg (gk - 1)
        case rel =>
          refine ⟨q.drop k, m' ++ q.take k, blk', ⟨by have := HK.out; simp; omega, by rw [List.append_assoc, List.take_append_drop]; exact H3.out, H4.out, ?_⟩, hv6.chg (F := (· = b)) ((Chg.refl _ _).setCell _ _ (fun _ => rfl)) (fun g h => h), ?_, hC6.setCell _ _ (fun _ => rfl)⟩
          · rw [pend_full _ _ hcm, List.length_append, show (m'.length + (q.take k).length) % 64 = 0 by omega]; rfl
          · rw [absorb_full _ _ _ hcm, ← hbk, List.length_append, show (m'.length + (q.take k).length) % 64 = 0 by omega]
            show Row _ b T (hcells _ _ 0 _)
            rw [hcp]
            exact hR5.set 72 _
        case measure => have := HP.out; omega
      · have ht : (((a : Int) + (k : Int)) == 64) = false := by simp; omega
        go_wp2_with (fail)
        have hl1 : (q.take k).length = k := by have := HK.out; simp; omega
        have hcm : m'.length % 64 + (q.take k).length < 64 := by have := HK.out; rw [hl1, ← ha.out]; omega
        go_roundg (gk - 1)
        case rel =>
          refine ⟨q.drop k, m' ++ q.take k, blk', ⟨by have := HK.out; simp; omega, by rw [List.append_assoc, List.take_append_drop]; exact H3.out, H4.out, ?_⟩, hv3.chg (F := (· = b)) ((Chg.refl _ _).setCell _ _ (fun _ => rfl)) (fun g h => h), ?_, hC3.setCell _ _ (fun _ => rfl)⟩
          · rw [pend_short _ _ hcm, List.length_append, show (m'.length + (q.take k).length) % 64 = a + k by rw [hl1, ha.out] at *; omega, hblk.out, ← H2.out]
            rw [← List.append_assoc, List.take_append_of_le_length (by have := HK.out; simp [H1.out]; omega), List.take_of_length_le (by have := HK.out; simp [H1.out]; omega)]
          · rw [absorb_short _ _ _ hcm, List.length_append, show (m'.length + (q.take k).length) % 64 = a + k by rw [hl1, ha.out] at *; omega]
            rw [show ((a + k : Nat) : Int) = (a : Int) + (k : Int) by omega, ← hcells_at _ _ H4.out (a : Int)]
            exact hR3.set 72 _
        case measure => have := HP.out; omega

def zeroSt : St := ⟨0, 0, 0, 0, 0, 0, 0, 0⟩
theorem zeroHash : (Tryz.prog.info? 114).map (fun i => (i.zero, i.size)) = some (some (.agg (hcells zeroSt (List.replicate 64 0) 0 0).toArray), 74) := by kernel_rfl
theorem sizeHash : (Tryz.prog.info? 114).map (·.size) = some 74 := by kernel_rfl
theorem hcells_size (s : St) (blk : List UInt8) (hl : blk.length = 64) (a n : Int) : (hcells s blk a n).toArray.size = 74 := by simp [hcells, St.list, hl]
theorem hcells_one (s : St) (blk : List UInt8) (a n : Int) : (hcells s blk a n).toArray.all (·.oneCell') = true := by
  simp [hcells, St.list, wv, bv, Value.oneCell']

def zeros (n : Nat) : List Value := (List.replicate n (0 : UInt8)).map bv
theorem zero32 : (Tryz.prog.info? 74).map (fun i => (i.zero, i.size)) = some (some (.agg (zeros 32).toArray), 32) := by kernel_rfl
theorem zero64 : (Tryz.prog.info? 76).map (fun i => (i.zero, i.size)) = some (some (.agg (zeros 64).toArray), 64) := by kernel_rfl
theorem zero8 : (Tryz.prog.info? 80).map (fun i => (i.zero, i.size)) = some (some (.agg (zeros 8).toArray), 8) := by kernel_rfl
theorem hcell_n {w : World} {b : Nat} {T : TypeId} {s : St} {blk : List UInt8} {a n : Int} {l : List Value} (h : Row w b T l) (hl : l = hcells s blk a n) (hb : blk.length = 64) : w.cell? ⟨b, 73, none⟩ = some (.int .u64 n) := by
  subst hl; rw [h.cell]; unfold hcells; rw [List.getElem?_append_right (by simp [St.list, hb])]; simp [St.list, hb]
theorem hcell_at {w : World} {b : Nat} {T : TypeId} {s : St} {blk : List UInt8} {a n : Int} {l : List Value} (h : Row w b T l) (hl : l = hcells s blk a n) (hb : blk.length = 64) : w.cell? ⟨b, 72, none⟩ = some (.int .i64 a) := by
  subst hl; rw [h.cell]; unfold hcells; rw [List.getElem?_append_right (by simp [St.list, hb])]; simp [St.list, hb]
/-- What Sum writes: a byte 128, zeros, the length. -/
theorem wtail (n R : Nat) (h : (n % 64 < 56 ∧ R = 56 - n % 64) ∨ (56 ≤ n % 64 ∧ R = 120 - n % 64)) : tail n = ((128 :: List.replicate 63 (0 : UInt8)).take R) ++ beBytes 8 (8 * n % 18446744073709551616) := by
  unfold tail
  obtain ⟨R, rfl⟩ : ∃ r, R = r + 1 := ⟨R - 1, by omega⟩
  rw [List.take_succ_cons, List.take_replicate, show min R 63 = (119 - n % 64) % 64 by omega]

/-- The first k of the eight bytes of a number; zeros behind them. -/
def part8 (x k : Nat) : List UInt8 := (List.range 8).map fun i => if i < k then UInt8.ofNat (x / 256 ^ (7 - i)) else 0
theorem part8_set (x k : Nat) (hk : k < 8) : ((part8 x k).map bv).set k (bv (UInt8.ofNat (x / 256 ^ (7 - k)))) = (part8 x (k + 1)).map bv := by
  have h : k = 0 ∨ k = 1 ∨ k = 2 ∨ k = 3 ∨ k = 4 ∨ k = 5 ∨ k = 6 ∨ k = 7 := by omega
  rcases h with rfl | rfl | rfl | rfl | rfl | rfl | rfl | rfl <;> rfl
theorem tail_byte (x k : Nat) (hk : k < 8) : Value.int .u8 ((x : Int) / 2 ^ (56 - 8 * k) % 256) = bv (UInt8.ofNat (x / 256 ^ (7 - k))) := by
  have e : (256 : Nat) ^ (7 - k) = 2 ^ (56 - 8 * k) := by rw [show (256 : Nat) = 2 ^ 8 from rfl, ← Nat.pow_mul]; congr 1; omega
  rw [e]
  unfold bv
  congr 1
theorem part8_all (x : Nat) : part8 x 8 = beBytes 8 x := rfl

theorem by24 (x : W32) : Value.int .u8 (n32 x / 16777216 % 256) = bv (UInt8.ofNat (x >>> 24).toNat) := by
  rw [show n32 x / (16777216 : Int) = n32 (x >>> 24) from shr32' x 24 (by decide)]; unfold bv n32; congr 1
theorem by16 (x : W32) : Value.int .u8 (n32 x / 65536 % 256) = bv (UInt8.ofNat (x >>> 16).toNat) := by
  rw [show n32 x / (65536 : Int) = n32 (x >>> 16) from shr32' x 16 (by decide)]; unfold bv n32; congr 1
theorem by8 (x : W32) : Value.int .u8 (n32 x / 256 % 256) = bv (UInt8.ofNat (x >>> 8).toNat) := by
  rw [show n32 x / (256 : Int) = n32 (x >>> 8) from shr32' x 8 (by decide)]; unfold bv n32; congr 1
theorem by0 (x : W32) : Value.int .u8 (n32 x % 256) = bv (UInt8.ofNat x.toNat) := by
  unfold bv n32; congr 1
/-- The first k words of a digest, zeros behind them. -/
def partD (t : St) (k : Nat) : List UInt8 := (digest t).take (4 * k) ++ List.replicate (32 - 4 * k) 0
theorem partD_set (t : St) (k : Nat) (hk : k < 8) :
    (((((partD t k).map bv).set (4 * k) (bv (UInt8.ofNat (t.list.getD k 0 >>> 24).toNat))).set (4 * k + 1) (bv (UInt8.ofNat (t.list.getD k 0 >>> 16).toNat))).set (4 * k + 2) (bv (UInt8.ofNat (t.list.getD k 0 >>> 8).toNat))).set (4 * k + 3) (bv (UInt8.ofNat (t.list.getD k 0).toNat)) = (partD t (k + 1)).map bv := by
  have h : k = 0 ∨ k = 1 ∨ k = 2 ∨ k = 3 ∨ k = 4 ∨ k = 5 ∨ k = 6 ∨ k = 7 := by omega
  rcases h with rfl | rfl | rfl | rfl | rfl | rfl | rfl | rfl <;> rfl
theorem partD_length (t : St) (k : Nat) (hk : k ≤ 8) : (partD t k).length = 32 := by
  unfold partD; simp [digest_length]; omega
theorem idx8_0 (v0 v1 v2 v3 v4 v5 v6 v7 : Value) (W : World) : (Instr.index 112 (.agg #[v0, v1, v2, v3, v4, v5, v6, v7]) (.int .i64 0)).run Tryz.prog W = .ok v0 W := by kernel_rfl
theorem idx8_1 (v0 v1 v2 v3 v4 v5 v6 v7 : Value) (W : World) : (Instr.index 112 (.agg #[v0, v1, v2, v3, v4, v5, v6, v7]) (.int .i64 1)).run Tryz.prog W = .ok v1 W := by kernel_rfl
theorem idx8_2 (v0 v1 v2 v3 v4 v5 v6 v7 : Value) (W : World) : (Instr.index 112 (.agg #[v0, v1, v2, v3, v4, v5, v6, v7]) (.int .i64 2)).run Tryz.prog W = .ok v2 W := by kernel_rfl
theorem idx8_3 (v0 v1 v2 v3 v4 v5 v6 v7 : Value) (W : World) : (Instr.index 112 (.agg #[v0, v1, v2, v3, v4, v5, v6, v7]) (.int .i64 3)).run Tryz.prog W = .ok v3 W := by kernel_rfl
theorem idx8_4 (v0 v1 v2 v3 v4 v5 v6 v7 : Value) (W : World) : (Instr.index 112 (.agg #[v0, v1, v2, v3, v4, v5, v6, v7]) (.int .i64 4)).run Tryz.prog W = .ok v4 W := by kernel_rfl
theorem idx8_5 (v0 v1 v2 v3 v4 v5 v6 v7 : Value) (W : World) : (Instr.index 112 (.agg #[v0, v1, v2, v3, v4, v5, v6, v7]) (.int .i64 5)).run Tryz.prog W = .ok v5 W := by kernel_rfl
theorem idx8_6 (v0 v1 v2 v3 v4 v5 v6 v7 : Value) (W : World) : (Instr.index 112 (.agg #[v0, v1, v2, v3, v4, v5, v6, v7]) (.int .i64 6)).run Tryz.prog W = .ok v6 W := by kernel_rfl
theorem idx8_7 (v0 v1 v2 v3 v4 v5 v6 v7 : Value) (W : World) : (Instr.index 112 (.agg #[v0, v1, v2, v3, v4, v5, v6, v7]) (.int .i64 7)).run Tryz.prog W = .ok v7 W := by kernel_rfl
theorem idx8 (t : St) (k : Nat) (hk : k < 8) (W : World) : (Instr.index 112 (.agg #[.int .u32 (n32 t.a), .int .u32 (n32 t.b), .int .u32 (n32 t.c), .int .u32 (n32 t.d), .int .u32 (n32 t.e), .int .u32 (n32 t.f), .int .u32 (n32 t.g), .int .u32 (n32 t.h)]) (.int .i64 (k : Int))).run Tryz.prog W = .ok (.int .u32 (n32 (t.list.getD k 0))) W := by
  have h : k = 0 ∨ k = 1 ∨ k = 2 ∨ k = 3 ∨ k = 4 ∨ k = 5 ∨ k = 6 ∨ k = 7 := by omega
  rcases h with rfl | rfl | rfl | rfl | rfl | rfl | rfl | rfl
  · exact idx8_0 _ _ _ _ _ _ _ _ W
  · exact idx8_1 _ _ _ _ _ _ _ _ W
  · exact idx8_2 _ _ _ _ _ _ _ _ W
  · exact idx8_3 _ _ _ _ _ _ _ _ W
  · exact idx8_4 _ _ _ _ _ _ _ _ W
  · exact idx8_5 _ _ _ _ _ _ _ _ W
  · exact idx8_6 _ _ _ _ _ _ _ _ W
  · exact idx8_7 _ _ _ _ _ _ _ _ W

set_option maxHeartbeats 8000000 in
theorem sum_any (b : Nat) (T : TypeId) (m : List UInt8) (w : World) (h : IsHash w b T m) (hK : Tab w) (hm : m.length < 900000000000000000) :
    Calls Tryz.prog 79 #[.pointer (some ⟨b, 0, none⟩)] w fun e w' => e = .returned (.agg ((Sha.hash m).map bv).toArray) ∧ Chg (fun _ => False) w w' := by
  obtain ⟨blk, hbl, hpe, hR⟩ := h
  have hz := (zero_of_info zeroHash).1
  have z32 := (zero_of_info zero32).1
  have z64 := (zero_of_info zero64).1
  have z8 := (zero_of_info zero8).1
  obtain ⟨l, hl⟩ : ∃ l, Hid (l = hcells (absorb init m) blk ((m.length % 64 : Nat) : Int) (m.length : Int)) := ⟨_, rfl⟩
  have hls : l.length = 74 := by rw [hl.out]; simpa using hcells_size (absorb init m) blk hbl ((m.length % 64 : Nat) : Int) (m.length : Int)
  have hl1 : ∀ v ∈ l, v.oneCell' = true := by rw [hl.out]; simpa using hcells_one (absorb init m) blk ((m.length % 64 : Nat) : Int) (m.length : Int)
  rw [← hl.out] at hR
  have HS := Lib.hid hls
  have HO := Lib.hid hl1
  have HK := Lib.hid hK
  have HB := Lib.hid hbl
  have HE := Lib.hid hpe
  have hbw := hR.lt
  clear hls hl1 hK hbl hpe
  obtain ⟨a, ha⟩ : ∃ a, Hid (a = m.length % 64) := ⟨_, rfl⟩
  have ha64 : a < 64 := by rw [ha.out]; omega
  obtain ⟨R, hr, hr0⟩ : ∃ R : Nat, ((a < 56 ∧ R = 56 - a) ∨ (56 ≤ a ∧ R = 120 - a)) ∧ R ≤ 64 := by
    by_cases h : a < 56
    · exact ⟨56 - a, .inl ⟨h, rfl⟩, by omega⟩
    · exact ⟨120 - a, .inr ⟨by omega, rfl⟩, by omega⟩
  have hroom : Hid ((if (56 - (a : Int)) < 1 then 56 - (a : Int) + 64 else 56 - (a : Int)) = (R : Int)) := by
    show _ = _
    split <;> omega
  rw [show ((m.length % 64 : Nat) : Int) = (a : Int) by rw [ha.out]] at hl
  rw [← ha.out] at HE
  have tl := wtail m.length R (by rcases hr with h | h <;> rw [ha.out] at h <;> omega)
  have HT := Lib.hid tl
  clear tl
  have hw8 : IntKind.u64.wrap ((m.length : Int) * 8) = ((8 * m.length : Nat) : Int) := by rw [IntKind.wrap_u64]; omega
  have HM := Lib.hid hm
  clear hm
  generalize hL : (8 * m.length : Nat) = LL at hw8
  have HLL := Lib.hid hL
  clear hL
  rcases hr with ⟨hr1, hr2⟩ | ⟨hr1, hr2⟩
  all_goals
    have hsl := run_arr_to (P := Tryz.prog) 76 5 64 1 Tryz.underlying76 (by kernel_rfl) (w.heap.size + 2) 0 (if (56 - (a : Int)) < 1 then 56 - (a : Int) + 64 else 56 - (a : Int)) R hroom.out hr0
    first
    | rw [if_pos (by omega)] at hsl
    | rw [if_neg (by omega)] at hsl
    have hrI : (a : Int) < 56 ∨ (56 : Int) ≤ a := by omega
    have HRR := Lib.hid hr2
    clear hroom hrI hr2
    go_enter Tryz.func79, Tryz.ntmps79
    go_wp2_with (first
    | (refine wpList_allocA rfl 74 rfl _ (zeros 32) z32 rfl ?_; intro w1 s1 r1 c1; replace r1 := Lib.hid r1; replace hR := hR.chg c1 id)
    | (refine wpList_load_rowA rfl 114 (.tmp 13) rfl b rfl T l _ hR Tryz.underlying114 rfl (by rw [HS.out]; exact sizeHash) ?_)
    | (refine wpList_allocA rfl 114 rfl _ _ hz rfl ?_; intro w2 s2 r2 c2)
    | (refine wpList_store_rowA rfl 114 (.tmp 3) (.tmp 14) rfl _ l rfl rfl _ _ r2 (by rw [HS.out]; exact sizeHash) (by rw [HS.out]; rfl) HO.out ?_; intro w3 r3 c3 s3; rw [s1] at r3; (have d73 := hcell_n r3 hl.out HB.out); (have d72 := hcell_at r3 hl.out HB.out))
    | (refine wpList_buildA rfl 76 #[(0, .const (.int .u8 128))] rfl ((128 :: List.replicate 63 (0 : UInt8)).map bv).toArray (by kernel_rfl) ?_)
    | (refine wpList_allocA rfl 76 rfl _ (zeros 64) z64 rfl ?_; intro w4 s4 r4 c4; replace r3 := r3.chg c4 id; (have d72 := hcell_at r3 hl.out HB.out))
    | (refine wpList_store_rowA rfl 76 (.tmp 5) (.tmp 18) rfl _ ((128 :: List.replicate 63 (0 : UInt8)).map bv) rfl rfl _ _ r4 (by kernel_rfl) rfl (bvs_one _) ?_; intro w5 r5 c5 s5; rw [s3, s2, s1] at r5; replace r3 := r3.chg c5 (by rw [s3, s2, s1]; omega); (have d72 := hcell_at r3 hl.out HB.out)))
    have cA : Chg (fun _ => False) w w5 := (((c1.trans c2).then c3 (fun i hi h => by omega)).trans (c4.mono (fun _ _ h => h))).then c5 (fun i hi h => by omega)
    have hI : IsHash w5 (w.heap.size + 1) 114 m := ⟨blk, HB.out, by rw [← ha.out]; exact HE.out, by rw [← ha.out, ← hl.out]; exact r3⟩
    have hSl := SlB.arr (ok := (· ≠ w.heap.size + 1)) r5 (by omega) R (by simp; omega) hr0
    have hpl : ((128 :: List.replicate 63 (0 : UInt8)).take R).length = R := by simp; omega
    have hT5 : Tab w5 := Tab.chg HK.out cA id
    have HX := Lib.hid (show tail m.length = _ ++ _ from HT.out)
    generalize (128 :: List.replicate 63 (0 : UInt8)).take R = p1 at hSl HX hpl
    have hlen : m.length + p1.length < 1000000000000000000 := by have := HM.out; omega
    refine (write_any (w.heap.size + 1) 114 m p1 _ w5 hI hSl hT5 (by omega) hlen).mono ?_
    rintro e w6 ⟨rfl, hI6, c6⟩
    have cB : Chg (fun _ => False) w w6 := cA.then c6 (fun i hi h => by omega)
    have hro : Row w6 w.heap.size 74 (zeros 32) := ((((r1.out.chg c2 id).chg c3 (by omega)).chg c4 id).chg c5 (by omega)).chg c6 (by omega)
    have s6 : w.heap.size + 3 ≤ w6.heap.size := by have := c6.size; omega
    have HPL := Lib.hid hpl
    clear hSl hI r3 r5 c6 cA hT5 d72 d73 hlen hsl s1 c1 r1 hR s2 r2 c2 c3 s3 s4 r4 c4 c5 s5 hpl
    go_wp2_with (first | (refine wpList_allocA rfl 80 rfl _ (zeros 8) z8 rfl ?_; intro w7 s7 r7 c7))
    have hI7 := IsHash.chg hI6 c7 id
    have hro7 := hro.chg c7 id
    have cC := cB.trans c7
    have HO1 := Lib.hid s6
    clear hI6 hro c7 cB d72
    obtain ⟨w8, rfl⟩ : ∃ w8 : World, w8 = w7 := ⟨_, rfl⟩
    go_loopw [29] (fun i wr => ∃ k : Nat, k ≤ 8 ∧ i = .int .i64 k ∧ Row wr w6.heap.size 80 ((part8 LL k).map bv) ∧ Row wr w.heap.size 74 (zeros 32) ∧ IsHash wr (w.heap.size + 1) 114 (m ++ p1) ∧ Chg (fun _ => False) w wr) (fun i _ => 8 - (intOf i).toNat)
    case atStart => exact ⟨0, by omega, rfl, r7, hro7, hI7, cC⟩
    case round =>
      clear r7 hro7 hI7 cC
      obtain ⟨k, hk, rfl, r7, hro, hI, cC⟩ := hrel
      by_cases hlt : k < 8
      · have f7 := r7.frozen k
        have d7 := r7.cellD k (by simp [part8]; omega)
        generalize ((part8 LL k).map bv).getD k undef = old at d7
        have hk8 : (k : Int) < 8 := by omega
        have hsh : 0 ≤ 56 - 8 * (k : Int) := by omega
        go_wp2
        go_roundw
        case rel =>
          refine ⟨k + 1, by omega, by go_num, ?_, hro.set_other _ (by have := HO1.out; simp; omega), hI.chg (F := (· = w6.heap.size)) ((Chg.refl _ _).setCell _ _ (fun _ => rfl)) (by have := HO1.out; omega), cC.setCell _ _ (by have := HO1.out; simp; omega)⟩
          rw [tail_byte _ _ hlt, ← part8_set _ _ hlt]
          exact r7.set k _
        case measure => simp [intOf]; omega
      · have ek : k = 8 := by omega
        rw [ek, part8_all] at r7
        clear ek
        go_wp2_with (fail)
        have hSl := SlB.arr (ok := (· ≠ w.heap.size + 1)) r7 (by have := HO1.out; omega) 8 (by simp [beBytes_length]) (Nat.le_refl 8)
        rw [List.take_of_length_le (by simp [beBytes_length])] at hSl
        have hT8 : Tab wr := Tab.chg HK.out cC id
        have hlen : (m ++ p1).length + (beBytes 8 LL).length < 1000000000000000000 := by have := HM.out; have := HPL.out; rw [List.length_append, beBytes_length]; omega
        refine (write_any (w.heap.size + 1) 114 (m ++ p1) _ _ wr hI hSl hT8 (by omega) hlen).mono ?_
        rintro e w9 ⟨rfl, hI9, c9⟩
        replace cC : Chg (fun _ => False) w w9 := cC.then c9 (fun i hi h => by omega)
        replace hro := hro.chg c9 (by omega)
        have s9 : w.heap.size + 2 ≤ w9.heap.size := by have := HO1.out; have := c9.size; have := r7.lt; omega
        clear hSl hI r7 c9 hT8 hlen
        obtain ⟨blk9, hb9, _, hR9⟩ := hI9
        obtain ⟨t, ht⟩ : ∃ t, Hid (t = absorb init (m ++ p1 ++ beBytes 8 LL)) := ⟨_, rfl⟩
        rw [← ht.out] at hR9
        have d0 : w9.cell? ⟨w.heap.size + 1, 0, none⟩ = some (.int .u32 (n32 t.a)) := hR9.cell 0
        have d1 : w9.cell? ⟨w.heap.size + 1, 1, none⟩ = some (.int .u32 (n32 t.b)) := hR9.cell 1
        have d2 : w9.cell? ⟨w.heap.size + 1, 2, none⟩ = some (.int .u32 (n32 t.c)) := hR9.cell 2
        have d3 : w9.cell? ⟨w.heap.size + 1, 3, none⟩ = some (.int .u32 (n32 t.d)) := hR9.cell 3
        have d4 : w9.cell? ⟨w.heap.size + 1, 4, none⟩ = some (.int .u32 (n32 t.e)) := hR9.cell 4
        have d5 : w9.cell? ⟨w.heap.size + 1, 5, none⟩ = some (.int .u32 (n32 t.f)) := hR9.cell 5
        have d6 : w9.cell? ⟨w.heap.size + 1, 6, none⟩ = some (.int .u32 (n32 t.g)) := hR9.cell 6
        have d7 : w9.cell? ⟨w.heap.size + 1, 7, none⟩ = some (.int .u32 (n32 t.h)) := hR9.cell 7
        have hne : w.heap.size + 1 < w9.heap.size := by omega
        clear hR9
        go_wp2_with (fail)
        have r10 : Row (w9.alloc (.cells (zeros 32).toArray 74)) w9.heap.size 74 ((partD t 0).map bv) := Row.alloc_new _ _ _
        have hro10 := hro.alloc (.cells (zeros 32).toArray 74)
        have cD := cC.alloc (.cells (zeros 32).toArray 74)
        have S9 := Lib.hid hne
        clear hro cC d0 d1 d2 d3 d4 d5 d6 d7 s9 hne hlt
        obtain ⟨k0, rfl⟩ : ∃ k0 : Nat, k0 = k := ⟨_, rfl⟩
        go_loopw [45] (fun i wr => ∃ k : Nat, k ≤ 8 ∧ i = .int .i64 k ∧ Row wr w9.heap.size 74 ((partD t k).map bv) ∧ Row wr w.heap.size 74 (zeros 32) ∧ Chg (fun _ => False) w wr) (fun i _ => 8 - (intOf i).toNat)
        case atStart => exact ⟨0, by omega, rfl, r10, hro10, cD⟩
        case round =>
          clear r10 hro10 cD
          obtain ⟨k, hk, rfl, r10, hro, cD⟩ := hrel
          by_cases hlt : k < 8
          · have g0 := r10.frozen (4 * k)
            have g1 := r10.frozen (4 * k + 1)
            have g2 := r10.frozen (4 * k + 2)
            have g3 := r10.frozen (4 * k + 3)
            have q0 := r10.cellD (4 * k) (by simp [partD_length _ _ hk]; omega)
            have q1 := r10.cellD (4 * k + 1) (by simp [partD_length _ _ hk]; omega)
            have q2 := r10.cellD (4 * k + 2) (by simp [partD_length _ _ hk]; omega)
            have q3 := r10.cellD (4 * k + 3) (by simp [partD_length _ _ hk]; omega)
            generalize ((partD t k).map bv).getD (4 * k) undef = o0 at q0
            generalize ((partD t k).map bv).getD (4 * k + 1) undef = o1 at q1
            generalize ((partD t k).map bv).getD (4 * k + 2) undef = o2 at q2
            generalize ((partD t k).map bv).getD (4 * k + 3) undef = o3 at q3
            have hix := idx8 t k hlt
            have HP := Lib.hid (partD_set t k hlt)
            generalize t.list.getD k 0 = x at hix HP
            have hk8 : (k : Int) < 8 := by omega
            have hk32 : 4 * (k : Int) + 3 < 32 := by omega
            go_wp2
            go_roundw
            case rel =>
              refine ⟨k + 1, by omega, by go_num, ?_, (((hro.set_other _ ?_).set_other _ ?_).set_other _ ?_).set_other _ ?_, (((cD.setCell _ _ ?_).setCell _ _ ?_).setCell _ _ ?_).setCell _ _ ?_⟩
              · rw [by24, by16, by8, by0, ← HP.out]
                exact (((r10.set (4 * k) _).set (4 * k + 1) _).set (4 * k + 2) _).set (4 * k + 3) _
              all_goals (have := S9.out; simp; omega)
            case measure => simp [intOf]; omega
          · have ek : k = 8 := by omega
            rw [ek] at r10
            clear ek
            have hdl : ((partD t 8).map bv).length = 32 := by simp [partD_length _ _ (Nat.le_refl 8)]
            have hd : (partD t 8).map bv = (Sha.hash m).map bv := by
              unfold Sha.hash
              rw [HX.out, show (8 * m.length % 18446744073709551616) = LL by rw [← HLL.out]; have := HM.out; omega, ← List.append_assoc, ← ht.out]
              unfold partD
              rw [List.take_of_length_le (by rw [digest_length]; decide), show List.replicate (32 - 4 * 8) (0 : UInt8) = [] from rfl, List.append_nil]
            rw [hd] at r10 hdl
            clear hd
            go_wp2_with (first
              | (refine wpList_load_rowA rfl 74 (.tmp 9) rfl w9.heap.size rfl 74 _ _ r10 Tryz.underlying74 rfl (by rw [hdl]; kernel_rfl) ?_)
              | (refine wpList_store_rowA rfl 74 (.tmp 2) (.tmp 76) rfl w.heap.size _ rfl rfl 74 _ hro (by rw [hdl]; kernel_rfl) (by rw [hdl]; rfl) (bvs_one _) ?_; intro w12 r12 c12 s12))
            refine bodyPost_ret (results_cell_row rfl _ _ w.heap.size 74 _ (0, 0) _ rfl r12.out Tryz.underlying74 rfl (by simp only [List.size_toArray]; rw [hdl]; kernel_rfl)) rfl ⟨rfl, ?_⟩
            exact cD.then c12 (fun i hi h => by omega)
end Go.Proofs.YtejlffeiebfboaaGreatDoor.ShaWalk
