/- The program's sha.Of: the sum of parts, one behind the other. -/
import Derived.Test.YtejlffeiebfboaaGreatDoorShaWalk
set_option linter.unusedVariables false
set_option linter.unusedSimpArgs false
namespace Go.Proofs.YtejlffeiebfboaaGreatDoor.ShaWalk
open Go Go.RowKit Go.Proofs.YtejlffeiebfboaaGreatDoor.Sha Go.Proofs.YtejlffeiebfboaaGreatDoor.Num Go.Proofs.YtejlffeiebfboaaGreatDoor.Mem Go.Proofs.YtejlffeiebfboaaGreatDoor.Mix

/-- Parts that are handed over: their bytes one behind the other. -/
def flat (parts : List (Value × List UInt8)) : List UInt8 := (parts.map (·.2)).flatten
theorem flat_snoc (l : List (Value × List UInt8)) (k : Nat) (hk : k < l.length) : flat (l.take (k + 1)) = flat (l.take k) ++ (l[k]).2 := by
  unfold flat
  rw [List.take_succ_eq_append_getElem hk, List.map_append, List.flatten_append]
  simp only [List.map_cons, List.map_nil, List.flatten_cons, List.flatten_nil, List.append_nil]
theorem flat_le (l : List (Value × List UInt8)) (k : Nat) (hk : k < l.length) : (flat (l.take k)).length + (l[k]).2.length ≤ (flat l).length := by
  have h := flat_snoc l k hk
  have h2 : flat l = flat (l.take (k + 1)) ++ flat (l.drop (k + 1)) := by unfold flat; rw [← List.flatten_append, ← List.map_append, List.take_append_drop]
  rw [h2, h]; simp

set_option maxRecDepth 100000
set_option maxHeartbeats 4000000 in
theorem of_any (g o c : Nat) (parts : List (Value × List UInt8)) (w : World) (hcell : ∀ i (h : i < parts.length), w.cell? ⟨g, o + i, none⟩ = some (parts[i]).1)
    (hs : ∀ i (h : i < parts.length), SlB w (· < w.heap.size) (parts[i]).1 (parts[i]).2) (hK : Tab w) (hg : 0 < w.heap.size) (hm : (flat parts).length < 900000000000000000) (hpl : parts.length < 1000000) :
    Calls Tryz.prog 38 #[.slice (some ⟨g, o, none⟩) parts.length c] w fun e w' => e = .returned (.agg ((Sha.hash (flat parts)).map bv).toArray) ∧ Chg (fun _ => False) w w' := by
  have z32 := (zero_of_info zero32).1
  have HK := Lib.hid hK
  have HC := Lib.hid hcell
  have HS := Lib.hid hs
  have HM := Lib.hid hm
  clear hK hcell hs hm
  have hpi : (parts.length : Int) < 1000000 := by omega
  go_enter Tryz.func38, Tryz.ntmps38
  go_wp2_with (first
    | (refine wpList_allocA rfl 74 rfl _ (zeros 32) z32 rfl ?_; intro w1 s1 r1 c1)
    | (go_at_call 77; with_reducible refine (new_any _).mono ?_; rintro e w2 ⟨rfl, hI, c2⟩))
  have hro := r1.chg c2 id
  have cA := c1.trans c2
  have s2 := c2.size
  rw [s1] at hI
  clear r1 c1 c2
  obtain ⟨w3, rfl⟩ : ∃ w3 : World, w3 = w2 := ⟨_, rfl⟩
  go_loopw [9] (fun i wr => ∃ k : Nat, k ≤ parts.length ∧ i = .int .i64 k ∧ Row wr w.heap.size 74 (zeros 32) ∧ IsHash wr (w.heap.size + 1) 114 (flat (parts.take k)) ∧ Chg (fun _ => False) w wr) (fun i _ => parts.length - (intOf i).toNat)
  case atStart => exact ⟨0, by omega, rfl, hro, hI, cA⟩
  case round =>
    clear hro hI cA
    obtain ⟨k, hk, rfl, hro, hI, cA⟩ := hrel
    by_cases hlt : k < parts.length
    · have hcell := cA.cell_some (HC.out k hlt) id
      have hSl := ((HS.out k hlt).chg cA (fun _ _ => id)).mono (ok' := (· ≠ w.heap.size + 1)) (fun g h => by omega)
      have hfs := Lib.hid (flat_snoc parts k hlt)
      have hfl := Lib.hid (flat_le parts k hlt)
      generalize parts[k] = pr at hcell hSl hfs hfl
      have hki : (k : Int) < (parts.length : Int) := by omega
      go_wp2_with (fail)
      refine (write_any (w.heap.size + 1) 114 _ pr.2 _ wr hI hSl (Tab.chg HK.out cA id) (by omega) (by have := HM.out; have := hfl.out; omega)).mono ?_
      rintro e w9 ⟨rfl, hI9, c9⟩
      rw [← hfs.out] at hI9
      have hro9 := hro.chg c9 (by omega)
      have cB : Chg (fun _ => False) w w9 := cA.then c9 (fun i hi h => by omega)
      clear hro hI cA hSl hcell c9
      go_wp2
      go_roundw
      case rel => exact ⟨k + 1, by omega, by go_num, hro9, hI9, cB⟩
      case measure => simp [intOf]; omega
    · have ek : k = parts.length := by omega
      rw [ek, List.take_length] at hI
      clear ek
      go_wp2_with (fail)
      refine (sum_any (w.heap.size + 1) 114 _ wr hI (Tab.chg HK.out cA id) HM.out).mono ?_
      rintro e w9 ⟨rfl, c9⟩
      have hro9 := hro.chg c9 id
      have cB := cA.trans c9
      have hdl : ((Sha.hash (flat parts)).map bv).length = 32 := by simp [hash_length]
      clear hro hI cA
      go_wp2_with (refine wpList_store_rowA rfl 74 (.tmp 2) (.tmp 18) rfl w.heap.size _ rfl rfl 74 _ hro9 (by rw [hdl]; kernel_rfl) (by rw [hdl]; rfl) (bvs_one _) ?_; intro w12 r12 c12 s12)
      refine bodyPost_ret (results_cell_row rfl _ _ w.heap.size 74 _ (0, 0) _ rfl r12.out Tryz.underlying74 rfl (by simp only [List.size_toArray]; rw [hdl]; kernel_rfl)) rfl ⟨rfl, ?_⟩
      exact cB.then c12 (fun i hi h => by omega)
end Go.Proofs.YtejlffeiebfboaaGreatDoor.ShaWalk
