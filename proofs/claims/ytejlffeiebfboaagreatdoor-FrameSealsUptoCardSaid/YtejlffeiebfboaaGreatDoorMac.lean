/- The program's mac.Tag is HMAC-SHA-256. -/
import Derived.Test.YtejlffeiebfboaaGreatDoorShaOf
set_option linter.unusedVariables false
set_option linter.unusedSimpArgs false
namespace Go.Proofs.YtejlffeiebfboaaGreatDoor.Mac
open Go Go.RowKit Go.Proofs.YtejlffeiebfboaaGreatDoor.Sha Go.Proofs.YtejlffeiebfboaaGreatDoor.Num Go.Proofs.YtejlffeiebfboaaGreatDoor.Mem Go.Proofs.YtejlffeiebfboaaGreatDoor.Mix Go.Proofs.YtejlffeiebfboaaGreatDoor.ShaWalk

def tagB (key text : ByteArray) : ByteArray := ⟨(hmac (bs key) (bs text)).toArray⟩

/-- The key as the sum takes it. -/
def kb (key : List UInt8) : List UInt8 := if 64 < key.length then Sha.hash key else key
theorem kb_le (key : List UInt8) : (kb key).length ≤ 64 := by
  unfold kb; split
  · rw [hash_length]; decide
  · omega
theorem kb_big (key : List UInt8) (h : 64 < key.length) : kb key = Sha.hash key := by unfold kb; rw [if_pos h]
theorem kb_small (key : List UInt8) (h : ¬ 64 < key.length) : kb key = key := by unfold kb; rw [if_neg h]
theorem keyed_copy (key : List UInt8) (n : Nat) (hn : n = (kb key).length) : (zeros 64).take 0 ++ (((kb key).take n).map bv ++ (zeros 64).drop (0 + n)) = (keyed key).map bv := by
  have := kb_le key
  subst hn
  unfold keyed
  show _ = ((kb key) ++ List.replicate (64 - (kb key).length) 0).map bv
  rw [List.take_length, List.map_append]
  rw [List.take_zero, List.nil_append, Nat.zero_add]
  unfold zeros
  rw [← List.map_drop, List.drop_replicate]
theorem keyed_length (key : List UInt8) : (keyed key).length = 64 := by
  have := kb_le key
  show ((kb key) ++ List.replicate (64 - (kb key).length) 0).length = 64
  simp; omega

theorem xor8 (c d : UInt8) : bits .xor .u8 (c.toNat : Int) (d.toNat : Int) = ((c ^^^ d).toNat : Int) := by
  have h : ∀ c : UInt8, BitVec.ofInt (IntKind.bits .u8) (c.toNat : Int) = c.toBitVec := by
    intro c; apply BitVec.eq_of_toNat_eq; simp [IntKind.bits]
  unfold bits
  simp only [h]
  show IntKind.wrap .u8 (((c.toBitVec ^^^ d.toBitVec).toNat : Nat) : Int) = _
  rw [IntWalk.u8_in _ (by have := (c.toBitVec ^^^ d.toBitVec).isLt; omega)]
  rfl
/-- The first k bytes are turned. -/
def xr (K : List UInt8) (x : UInt8) (k : Nat) : List UInt8 := (K.take k).map (· ^^^ x) ++ K.drop k
theorem xr_length (K : List UInt8) (x : UInt8) (k : Nat) : (xr K x k).length = K.length := by unfold xr; simp; omega
theorem xr_get (K : List UInt8) (x : UInt8) (k : Nat) (hk : k < K.length) : ((xr K x k).map bv)[k]? = some (bv (K.getD k 0)) := by
  unfold xr
  rw [List.getElem?_map, List.getElem?_append_right (by simp; omega)]
  simp [List.getD, Nat.min_eq_left (Nat.le_of_lt hk), hk]
theorem xr_set (K : List UInt8) (x : UInt8) (k : Nat) (hk : k < K.length) : ((xr K x k).map bv).set k (bv (K.getD k 0 ^^^ x)) = (xr K x (k + 1)).map bv := by
  unfold xr
  rw [← List.map_set, List.set_append_right _ _ (by simp; omega)]
  have hl : ((K.take k).map (· ^^^ x)).length = k := by simp; omega
  rw [hl, Nat.sub_self, List.drop_eq_getElem_cons hk, List.set_cons_zero, List.take_succ_eq_append_getElem hk]
  simp only [List.map_append, List.map_cons, List.map_nil, List.append_assoc, List.cons_append, List.nil_append, List.getD, List.getElem?_eq_getElem hk, Option.getD_some]
theorem xr_all (K : List UInt8) (x : UInt8) (h : K.length = 64) : xr K x 64 = K.map (· ^^^ x) := by
  unfold xr; rw [List.take_of_length_le (by omega), List.drop_eq_nil_of_le (by omega), List.append_nil]

theorem of2g (g : Nat) (v1 v2 : Value) (p1 p2 : List UInt8) (w : World) (hc0 : w.cell? ⟨g, 0, none⟩ = some v1) (hc1 : w.cell? ⟨g, 1, none⟩ = some v2) (h1 : SlB w (· < w.heap.size) v1 p1) (h2 : SlB w (· < w.heap.size) v2 p2) (hK : Tab w) (hr : 0 < w.heap.size) (hm : p1.length + p2.length < 900000000000000000) :
    Calls Tryz.prog 38 #[.slice (some ⟨g, 0, none⟩) 2 2] w fun e w' => e = .returned (.agg ((Sha.hash (p1 ++ p2)).map bv).toArray) ∧ Chg (fun _ => False) w w' := by
  have e : flat [(v1, p1), (v2, p2)] = p1 ++ p2 := by simp [flat]
  rw [← e]
  refine of_any g 0 2 [(v1, p1), (v2, p2)] _ ?_ ?_ hK hr (by rw [e]; simpa using hm) (by simp)
  · intro i hi
    have : i = 0 ∨ i = 1 := by simp at hi; omega
    rcases this with rfl | rfl
    · exact hc0
    · exact hc1
  · intro i hi
    have : i = 0 ∨ i = 1 := by simp at hi; omega
    rcases this with rfl | rfl
    · exact h1
    · exact h2

theorem of2_any (g : Nat) (T : TypeId) (v1 v2 : Value) (p1 p2 : List UInt8) (w : World) (hg : g = w.heap.size) (h1 : SlB w (· < w.heap.size) v1 p1) (h2 : SlB w (· < w.heap.size) v2 p2) (hK : Tab w) (hr : 0 < w.heap.size) (hm : p1.length + p2.length < 900000000000000000) :
    Calls Tryz.prog 38 #[.slice (some ⟨g, 0, none⟩) 2 2] (w.alloc (.cells #[v1, v2] T)) fun e w' => e = .returned (.agg ((Sha.hash (p1 ++ p2)).map bv).toArray) ∧ Chg (fun _ => False) (w.alloc (.cells #[v1, v2] T)) w' := by
  subst hg
  have cA : Chg (fun _ => False) w (w.alloc (.cells #[v1, v2] T)) := (Chg.refl _ _).alloc _
  have e : flat [(v1, p1), (v2, p2)] = p1 ++ p2 := by simp [flat]
  rw [← e]
  refine of_any w.heap.size 0 2 [(v1, p1), (v2, p2)] _ ?_ ?_ (Tab.chg hK cA id) (by simp <;> omega) (by rw [e]; simpa using hm) (by simp)
  · intro i hi
    have : i = 0 ∨ i = 1 := by simp at hi; omega
    rcases this with rfl | rfl <;> simp
  · intro i hi
    have : i = 0 ∨ i = 1 := by simp at hi; omega
    rcases this with rfl | rfl
    · exact (h1.chg cA (fun _ _ => id)).mono (fun g h => by simp; omega)
    · exact (h2.chg cA (fun _ _ => id)).mono (fun g h => by simp; omega)

set_option maxRecDepth 100000
set_option maxHeartbeats 8000000 in
theorem tag_any (key text : ByteArray) (w : World) (hK : Tab w) (hg : 0 < w.heap.size) (hk : key.size < 300000000000000000) (ht : text.size < 300000000000000000) :
    Calls Tryz.prog 18 #[.string key, .string text] w fun e w' => e = .returned (.string (tagB key text)) ∧ Chg (fun _ => False) w w' := by
  have z32 := (zero_of_info zero32).1
  have z64 := (zero_of_info zero64).1
  have HK := Lib.hid hK
  have HKS := Lib.hid hk
  have HTS := Lib.hid ht
  have hkl := kb_le (bs key)
  clear hK hk ht
  have tok1 : True := trivial
  by_cases hbig : 64 < key.size
  case' pos =>
    have hbI : (64 : Int) < (key.size : Int) := by omega
    have hbl : 64 < (bs key).length := by rw [bs_length]; exact hbig
    have HB := Lib.hid (kb_big (bs key) hbl)
    clear hbl
    go_enter Tryz.func18, Tryz.ntmps18
    go_wp2_with (first
      | (refine wpList_bytesA rfl 9 38 (.tmp 12) rfl key rfl 5 Tryz.underlying9 Tryz.underlying38 Tryz.underlying5 ?_; intro w1 c s1 b1 c1))
    have cA := c1.alloc (.cells #[.slice (some ⟨w.heap.size, 0, none⟩) key.size c] 38)
    have b2 := (b1.chg (F := fun _ => False) ((Chg.refl _ w1).alloc (.cells #[.slice (some ⟨w.heap.size, 0, none⟩) key.size c] 38)) (fun _ _ => id)).mono (ok' := (· < (w1.alloc (.cells #[.slice (some ⟨w.heap.size, 0, none⟩) key.size c] 38)).heap.size)) (fun g h => by simp; omega)
    have q0 : (w1.alloc (.cells #[.slice (some ⟨w.heap.size, 0, none⟩) key.size c] 38)).cell? ⟨w.heap.size + 1, 0, none⟩ = some (.slice (some ⟨w.heap.size, 0, none⟩) key.size c) := by rw [← s1]; simp
    refine (of_any (w.heap.size + 1) 0 1 [(.slice (some ⟨w.heap.size, 0, none⟩) key.size c, bs key)] _ ?h1 ?h2 (Tab.chg HK.out cA id) ?h3 ?h4 (by simp)).mono ?_
    case h1 => intro i hi; simp at hi; subst hi; exact q0
    case h2 => intro i hi; simp at hi; subst hi; exact b2
    case h3 => have := cA.size; omega
    case h4 => have := HKS.out; simp [flat, bs_length]; omega
    rw [show flat [(Value.slice (some ⟨w.heap.size, 0, none⟩) key.size c, bs key)] = bs key by simp [flat], ← HB.out]
    rintro e w2 ⟨rfl, c2⟩
    have cB := cA.trans c2
    have hdl : ((kb (bs key)).map bv).length = 32 := by rw [HB.out]; simp [hash_length]
    have HD := Lib.hid hdl
    clear hdl q0 b2 b1 cA c2 c1
    go_wp2_with (first
      | (refine wpList_allocA rfl 74 rfl _ (zeros 32) z32 rfl ?_; intro w3 s3 r3 c3)
      | (refine wpList_store_rowA rfl 74 (.tmp 6) (.tmp 19) rfl _ _ rfl rfl 74 _ r3 (by rw [HD.out]; kernel_rfl) (by rw [HD.out]; rfl) (bvs_one _) ?_; intro wk rk ck sk; (have cK := (cB.trans c3).then ck (fun i hi h => by have := cB.size; omega)); (have hks := SlB.all (ok := (· < wk.heap.size)) rk (by omega) (by have := HD.out; simpa using this)); (have lk : w.heap.size < wk.heap.size := by have := cB.size; have := rk.lt; omega); clear r3 c3 ck cB sk s3)
      | (refine wpList_allocA rfl 76 rfl _ (zeros 64) z64 rfl ?_; have _t := tok1; intro w4 s4 r4 c4; clear tok1)
      | (refine wpList_allocA rfl 76 rfl _ (zeros 64) z64 rfl ?_; intro w5 s5 r5 c5; (have r6 := r4.chg c5 id); (have hks5 := (hks.chg c4 (fun _ _ => id)).chg c5 (fun _ _ => id)); rw [s4] at r5; (have cC := (cK.trans c4).trans c5); clear c4 c5 r4 hks cK)
      | (refine wpList_copyB rfl (.tmp 21) (.tmp 22) _ _ rfl 5 Tryz.underlying38 (by kernel_rfl) wk.heap.size 0 64 64 _ rfl rfl _ _ hks5 _ _ r6 (kb (bs key)).length (by simp only [Nat.min_def]; rw [if_pos hkl]) (by simpa [zeros] using hkl) ?_; intro w6 r7 c6 s6; rw [keyed_copy _ _ rfl] at r7; (have r8 := r5.chg c6 (by omega)); (have hks6 := hks5.chg c6 (fun g hg => by omega)); (have cD : Chg (fun _ => False) w w6 := cC.then c6 (fun i hi h => by omega)); clear c6 r6 r5 hks5 cC)
      | (refine wpList_copyB rfl (.tmp 24) (.tmp 25) _ _ rfl 5 Tryz.underlying38 (by kernel_rfl) (wk.heap.size + 1) 0 64 64 _ rfl rfl _ _ hks6 _ _ r8 (kb (bs key)).length (by simp only [Nat.min_def]; rw [if_pos hkl]) (by simpa [zeros] using hkl) ?_; intro w7 r9 c7 s7; rw [keyed_copy _ _ rfl] at r9; (have r10 := r7.chg c7 (by omega)); (have cE : Chg (fun _ => False) w w7 := cD.then c7 (fun i hi h => by omega)); (have s7' : wk.heap.size + 2 ≤ w7.heap.size := by omega); clear c7 r7 r8 hks6 cD s6 s5))
  case' neg =>
    have hbI : ¬ (64 : Int) < (key.size : Int) := by omega
    have hbl : ¬ 64 < (bs key).length := by rw [bs_length]; exact hbig
    have HB := Lib.hid (kb_small (bs key) hbl)
    clear hbl
    go_enter Tryz.func18, Tryz.ntmps18
    go_wp2_with (first
      | (refine wpList_bytesA rfl 9 38 (.tmp 12) rfl key rfl 5 Tryz.underlying9 Tryz.underlying38 Tryz.underlying5 ?_; intro wk c sk bk cK; (have hks := bk.mono (ok' := (· < wk.heap.size)) (fun g h => by omega)); rw [← HB.out] at hks; (have lk : w.heap.size < wk.heap.size := by omega); clear bk; replace sk := Lib.hid sk)
      | (refine wpList_allocA rfl 76 rfl _ (zeros 64) z64 rfl ?_; have _t := tok1; intro w4 s4 r4 c4; clear tok1)
      | (refine wpList_allocA rfl 76 rfl _ (zeros 64) z64 rfl ?_; intro w5 s5 r5 c5; (have r6 := r4.chg c5 id); (have hks5 := (hks.chg c4 (fun _ _ => id)).chg c5 (fun _ _ => id)); rw [s4] at r5; (have cC := (cK.trans c4).trans c5); clear c4 c5 r4 hks cK)
      | (refine wpList_copyB rfl (.tmp 21) (.tmp 22) _ _ rfl 5 Tryz.underlying38 (by kernel_rfl) wk.heap.size 0 64 64 _ rfl rfl _ _ hks5 _ _ r6 (kb (bs key)).length (by simp only [Nat.min_def]; rw [if_pos hkl]) (by simpa [zeros] using hkl) ?_; intro w6 r7 c6 s6; rw [keyed_copy _ _ rfl] at r7; (have r8 := r5.chg c6 (by omega)); (have hks6 := hks5.chg c6 (fun g hg => by omega)); (have cD : Chg (fun _ => False) w w6 := cC.then c6 (fun i hi h => by omega)); clear c6 r6 r5 hks5 cC)
      | (refine wpList_copyB rfl (.tmp 24) (.tmp 25) _ _ rfl 5 Tryz.underlying38 (by kernel_rfl) (wk.heap.size + 1) 0 64 64 _ rfl rfl _ _ hks6 _ _ r8 (kb (bs key)).length (by simp only [Nat.min_def]; rw [if_pos hkl]) (by simpa [zeros] using hkl) ?_; intro w7 r9 c7 s7; rw [keyed_copy _ _ rfl] at r9; (have r10 := r7.chg c7 (by omega)); (have cE : Chg (fun _ => False) w w7 := cD.then c7 (fun i hi h => by omega)); (have s7' : wk.heap.size + 2 ≤ w7.heap.size := by omega); clear c7 r7 r8 hks6 cD s6 s5))
  all_goals
    clear hkl hbig hbI _t s4 s7
    have hKl := keyed_length (bs key)
    generalize hKK : keyed (bs key) = KK at r9 r10 hKl
    have HKK := Lib.hid hKK
    clear hKK
    have e54 : KK = xr KK 54 0 := rfl
    have e92 : KK = xr KK 92 0 := rfl
    rw [e54] at r10
    rw [e92] at r9
    clear e54 e92
    obtain ⟨w8, rfl⟩ : ∃ w8 : World, w8 = w7 := ⟨_, rfl⟩
    go_loopw [27] (fun i wr => ∃ k : Nat, k ≤ 64 ∧ i = .int .i64 k ∧ Row wr wk.heap.size 76 ((xr KK 54 k).map bv) ∧ Row wr (wk.heap.size + 1) 76 ((xr KK 92 k).map bv) ∧ Chg (fun _ => False) w wr) (fun i _ => 64 - (intOf i).toNat)
    case atStart => exact ⟨0, by omega, rfl, r10, r9, cE⟩
    case round =>
      clear r9 r10 cE
      obtain ⟨k, hk, rfl, r9, r10, cE⟩ := hrel
      by_cases hlt : k < 64
      · have d1 := (r9.cell k).trans (xr_get KK 54 k (by omega))
        have d2 := (r10.cell k).trans (xr_get KK 92 k (by omega))
        have f1 := r9.frozen k
        have f2 := r10.frozen k
        have P1 := Lib.hid (xr_set KK 54 k (by omega))
        have P2 := Lib.hid (xr_set KK 92 k (by omega))
        generalize KK.getD k 0 = x at d1 d2 P1 P2
        have x1 : bits .xor .u8 (x.toNat : Int) 54 = ((x ^^^ 54).toNat : Int) := xor8 x 54
        have x2 : bits .xor .u8 (x.toNat : Int) 92 = ((x ^^^ 92).toNat : Int) := xor8 x 92
        generalize x ^^^ 54 = x54 at x1 P1
        generalize x ^^^ 92 = x92 at x2 P2
        rw [bv_def] at d1 d2
        have hk64 : (k : Int) < 64 := by omega
        go_wp2
        go_roundw
        case rel =>
          refine ⟨k + 1, by omega, by go_num, ?_, ?_, (cE.setCell _ _ (by simp; omega)).setCell _ _ (by simp; omega)⟩
          · rw [← P1.out]; exact (r9.set k _).set_other _ (by simp)
          · rw [← P2.out]; exact (r10.set_other _ (by simp)).set k _
        case measure => simp [intOf]; omega
      · have ek : k = 64 := by omega
        rw [ek, xr_all _ _ hKl] at r9 r10
        clear ek
        have l36 : (KK.map (· ^^^ (54 : UInt8))).length = 64 := by simpa using hKl
        have l5c : (KK.map (· ^^^ (92 : UInt8))).length = 64 := by simpa using hKl
        have M36 : Hid (KK.map (· ^^^ (54 : UInt8)) = (keyed (bs key)).map (· ^^^ 0x36)) := by show _ = _; rw [HKK.out]
        have M5c : Hid (KK.map (· ^^^ (92 : UInt8)) = (keyed (bs key)).map (· ^^^ 0x5c)) := by show _ = _; rw [HKK.out]
        generalize KK.map (· ^^^ (54 : UInt8)) = A36 at *
        generalize KK.map (· ^^^ (92 : UInt8)) = A5c at *
        clear hKl
        go_wp2_with (first
          | (refine wpList_bytesA rfl 9 38 (.tmp 42) rfl text rfl 5 Tryz.underlying9 Tryz.underlying38 Tryz.underlying5 ?_; intro w9 c9 s9 b9 ct; (have hin := (SlB.all (ok := (· < wr.heap.size)) r9 r9.lt l36).chg ct (fun _ _ => id)); (have r11 := r10.chg ct id); (have cF := cE.trans ct); clear r9 r10 cE))
        have cG := cF.alloc (.cells #[.slice (some ⟨wk.heap.size, 0, none⟩) 64 64, .slice (some ⟨wr.heap.size, 0, none⟩) text.size c9] 38)
        have r12 := r11.alloc (.cells #[.slice (some ⟨wk.heap.size, 0, none⟩) 64 64, .slice (some ⟨wr.heap.size, 0, none⟩) text.size c9] 38)
        refine (of2_any (wr.heap.size + 1) 38 _ _ A36 (bs text) w9 s9.symm (hin.mono (fun g h => by omega)) (b9.mono (fun g h => by omega)) (Tab.chg HK.out cF id) (by have := cF.size; omega) (by have := HTS.out; rw [bs_length, l36]; omega)).mono ?_
        rintro e w10 ⟨rfl, c10⟩
        have r13 := r12.chg c10 id
        have cH := cG.trans c10
        have hl1 : ((Sha.hash (A36 ++ bs text)).map bv).length = 32 := by simp [hash_length]
        clear r11 r12 hin b9 cF cG c10 ct
        replace s9 := Lib.hid s9
        go_wp2_with (first
          | (refine wpList_allocA rfl 74 rfl _ (zeros 32) z32 rfl ?_; intro w11 s11 r14 c11)
          | (refine wpList_store_rowA rfl 74 (.tmp 10) (.tmp 45) rfl _ _ rfl rfl 74 _ r14 (by rw [hl1]; kernel_rfl) (by rw [hl1]; rfl) (bvs_one _) ?_; intro w12 r15 c12 s12; (have r16 := (r13.chg c11 id).chg c12 (by have := r13.lt; omega)); (have cI : Chg (fun _ => False) w w12 := (cH.trans c11).then c12 (fun i hi h => by have := cH.size; omega)); clear r13 r14 c11 c12 cH))
        have cJ := cI.drew
        have r17 := r15.drew
        have r18 := r16.drew
        have hl2 : (Sha.hash (A36 ++ bs text)).length = 32 := hash_length _
        clear s11 s12 cI r15 r16
        try simp only [Act.put]
        refine wp_region_any (by kernel_rfl) ?_
        change wpAny _ _ _ _ _ _ _ w12.drew
        generalize w12.drew = w13 at *
        have hin1 := SlB.all (ok := (· < w13.heap.size)) r18 r18.lt l5c
        have hin2 := SlB.all (ok := (· < w13.heap.size)) r17 r17.lt hl2
        have hl3 : ((Sha.hash (A5c ++ Sha.hash (A36 ++ bs text))).map bv).length = 32 := by simp [hash_length]
        have hl4 : (Sha.hash (A5c ++ Sha.hash (A36 ++ bs text))).length = 32 := hash_length _
        have HT : Hid (Sha.hash (A5c ++ Sha.hash (A36 ++ bs text)) = hmac (bs key) (bs text)) := by show _ = _; rw [M5c.out, M36.out]; rfl
        refine wpAny_take (i := 0) (v := .slice (some ⟨wk.heap.size + 1, 0, none⟩) 64 64) rfl (by kernel_rfl) (by kernel_rfl) (by kernel_rfl) (fun _ _ _ h => h) (Or.inl ⟨by rfl, ?h0⟩) ?_
        case h0 => intro w; go_simp
        refine wpAny_take (i := 1) (v := .slice (some ⟨w10.heap.size, 0, none⟩) 32 32) rfl (by kernel_rfl) (by kernel_rfl) (by kernel_rfl) (fun _ _ _ h => h) (Or.inl ⟨by rfl, ?h1⟩) ?_
        case h1 => intro w; go_simp
        try simp only [List.getElem_toArray, List.getElem_cons_succ, List.getElem_cons_zero]
        refine wpAny_ready (rs := [2, 4]) (by kernel_rfl) (by simp) ?_
        refine AllReady.cons rfl (fun K hK => ?_) (AllReady.cons rfl (fun K hK => ?_) AllReady.nil)
        · try simp only [List.getElem_toArray, List.getElem_cons_succ, List.getElem_cons_zero]
          try simp only [Act.put]
          go_simp
          refine hK _ _ ?_
          clear hK K
          have cb : Chg (fun _ => False) w13 (w13.alloc (.cells #[.slice (some ⟨wk.heap.size + 1, 0, none⟩) 64 64, .slice (some ⟨w10.heap.size, 0, none⟩) 32 32] 38)) := (Chg.refl _ _).alloc _
          have q0 : (w13.alloc (.cells #[.slice (some ⟨wk.heap.size + 1, 0, none⟩) 64 64, .slice (some ⟨w10.heap.size, 0, none⟩) 32 32] 38)).cell? ⟨w13.heap.size, 0, none⟩ = some (.slice (some ⟨wk.heap.size + 1, 0, none⟩) 64 64) := by simp
          have q1 : (w13.alloc (.cells #[.slice (some ⟨wk.heap.size + 1, 0, none⟩) 64 64, .slice (some ⟨w10.heap.size, 0, none⟩) 32 32] 38)).cell? ⟨w13.heap.size, 1, none⟩ = some (.slice (some ⟨w10.heap.size, 0, none⟩) 32 32) := by simp
          generalize w13.alloc (.cells #[.slice (some ⟨wk.heap.size + 1, 0, none⟩) 64 64, .slice (some ⟨w10.heap.size, 0, none⟩) 32 32] 38) = wb at *
          refine wpAny_ready (rs := [3, 4]) (by kernel_rfl) (by simp) ?_
          refine AllReady.cons rfl (fun K hK => ?_) (AllReady.cons rfl (fun K hK => ?_) AllReady.nil)
          · try simp only [List.getElem_toArray, List.getElem_cons_succ, List.getElem_cons_zero]
            try simp only [Act.put]
            go_simp
            have k13 := cb
            have C := Lib.hid (of2g w13.heap.size _ _ A5c (Sha.hash (A36 ++ bs text)) wb (q0) (q1) ((hin1.chg k13 (fun _ _ => id)).mono (fun g h => by have := k13.size; omega)) ((hin2.chg k13 (fun _ _ => id)).mono (fun g h => by have := k13.size; omega)) (Tab.chg HK.out (cJ.trans k13) id) (by have := (cJ.trans k13).size; omega) (by rw [hl2, l5c]; decide))
            with_reducible refine C.out.mono ?_
            rintro e wc ⟨rfl, cc⟩
            dsimp only
            refine hK _ _ ?_
            clear hK K
            try simp only [List.getElem_toArray, List.getElem_cons_succ, List.getElem_cons_zero]
            try simp only [Act.put, List.setIfInBounds_toArray, List.set_cons_succ, List.set_cons_zero]
            refine wpAny_ready (rs := [4]) (by kernel_rfl) (by simp) ?_
            refine AllReady.cons rfl (fun K hK => ?_) AllReady.nil
            try simp only [List.getElem_toArray, List.getElem_cons_succ, List.getElem_cons_zero]
            rw [if_pos (by rfl)]
            refine wp_allocA 74 rfl _ (zeros 32) z32 rfl ?_
            intro wd sd rd cd
            refine hK _ _ ?_
            clear hK K
            try simp only [List.getElem_toArray, List.getElem_cons_succ, List.getElem_cons_zero]
            try simp only [Act.put, List.setIfInBounds_toArray, List.set_cons_succ, List.set_cons_zero]
            refine wpAny_ready (rs := [5]) (by kernel_rfl) (by simp) ?_
            refine AllReady.cons rfl (fun K hK => ?_) AllReady.nil
            have cm := (cb.trans cc).trans cd
            try simp only [List.getElem_toArray, List.getElem_cons_succ, List.getElem_cons_zero]
            rw [if_pos (by rfl)]
            refine wp_store_rowA 74 (.tmp 11) (.tmp 49) rfl wc.heap.size _ rfl rfl 74 _ rd (by rw [hl3]; kernel_rfl) (by rw [hl3]; rfl) (bvs_one _) ?_
            intro wf rf cf sf
            refine hK _ _ ?_
            clear hK K
            have cM : Chg (fun _ => False) w wf := (cJ.trans (cm)).then cf (fun i hi h => by have := cJ.size; have := cm.size; have := cc.size; have := cb.size; omega)
            have hfin := SlB.all (ok := fun _ => True) rf trivial hl4
            refine wpAny_done (by kernel_rfl) ?_ _
            try simp only [List.getElem_toArray, List.getElem_cons_succ, List.getElem_cons_zero]
            try simp only [Act.put, List.setIfInBounds_toArray, List.set_cons_succ, List.set_cons_zero]
            go_wp2_with (refine wpList_stringA rfl 38 9 (.tmp 50) rfl _ rfl 5 Tryz.underlying38 Tryz.underlying5 Tryz.underlying9 (fun _ => True) _ hfin ?_)
            go_ret
            exact ⟨by rw [HT.out]; rfl, cM⟩
          · try simp only [List.getElem_toArray, List.getElem_cons_succ, List.getElem_cons_zero]
            rw [if_pos (by rfl)]
            refine wp_allocA 74 rfl _ (zeros 32) z32 rfl ?_
            intro wd sd rd cd
            refine hK _ _ ?_
            clear hK K
            try simp only [List.getElem_toArray, List.getElem_cons_succ, List.getElem_cons_zero]
            try simp only [Act.put, List.setIfInBounds_toArray, List.set_cons_succ, List.set_cons_zero]
            refine wpAny_ready (rs := [3]) (by kernel_rfl) (by simp) ?_
            refine AllReady.cons rfl (fun K hK => ?_) AllReady.nil
            try simp only [List.getElem_toArray, List.getElem_cons_succ, List.getElem_cons_zero]
            try simp only [Act.put]
            go_simp
            have k13 := cb.trans cd
            have C := Lib.hid (of2g w13.heap.size _ _ A5c (Sha.hash (A36 ++ bs text)) wd (cd.cell_some q0 id) (cd.cell_some q1 id) ((hin1.chg k13 (fun _ _ => id)).mono (fun g h => by have := k13.size; omega)) ((hin2.chg k13 (fun _ _ => id)).mono (fun g h => by have := k13.size; omega)) (Tab.chg HK.out (cJ.trans k13) id) (by have := (cJ.trans k13).size; omega) (by rw [hl2, l5c]; decide))
            with_reducible refine C.out.mono ?_
            rintro e wc ⟨rfl, cc⟩
            dsimp only
            refine hK _ _ ?_
            clear hK K
            try simp only [List.getElem_toArray, List.getElem_cons_succ, List.getElem_cons_zero]
            try simp only [Act.put, List.setIfInBounds_toArray, List.set_cons_succ, List.set_cons_zero]
            refine wpAny_ready (rs := [5]) (by kernel_rfl) (by simp) ?_
            refine AllReady.cons rfl (fun K hK => ?_) AllReady.nil
            have cm := (cb.trans cd).trans cc
            try simp only [List.getElem_toArray, List.getElem_cons_succ, List.getElem_cons_zero]
            rw [if_pos (by rfl)]
            refine wp_store_rowA 74 (.tmp 11) (.tmp 49) rfl wb.heap.size _ rfl rfl 74 _ (rd.chg cc id) (by rw [hl3]; kernel_rfl) (by rw [hl3]; rfl) (bvs_one _) ?_
            intro wf rf cf sf
            refine hK _ _ ?_
            clear hK K
            have cM : Chg (fun _ => False) w wf := (cJ.trans (cm)).then cf (fun i hi h => by have := cJ.size; have := cm.size; have := cc.size; have := cb.size; omega)
            have hfin := SlB.all (ok := fun _ => True) rf trivial hl4
            refine wpAny_done (by kernel_rfl) ?_ _
            try simp only [List.getElem_toArray, List.getElem_cons_succ, List.getElem_cons_zero]
            try simp only [Act.put, List.setIfInBounds_toArray, List.set_cons_succ, List.set_cons_zero]
            go_wp2_with (refine wpList_stringA rfl 38 9 (.tmp 50) rfl _ rfl 5 Tryz.underlying38 Tryz.underlying5 Tryz.underlying9 (fun _ => True) _ hfin ?_)
            go_ret
            exact ⟨by rw [HT.out]; rfl, cM⟩
        · try simp only [List.getElem_toArray, List.getElem_cons_succ, List.getElem_cons_zero]
          rw [if_pos (by rfl)]
          refine wp_allocA 74 rfl _ (zeros 32) z32 rfl ?_
          intro wd sd rd cd
          clear sd
          refine hK _ _ ?_
          clear hK K
          try simp only [List.getElem_toArray, List.getElem_cons_succ, List.getElem_cons_zero]
          try simp only [Act.put, List.setIfInBounds_toArray, List.set_cons_succ, List.set_cons_zero]
          refine wpAny_ready (rs := [2]) (by kernel_rfl) (by simp) ?_
          refine AllReady.cons rfl (fun K hK => ?_) AllReady.nil
          try simp only [List.getElem_toArray, List.getElem_cons_succ, List.getElem_cons_zero]
          try simp only [Act.put]
          go_simp
          refine hK _ _ ?_
          clear hK K
          have cb : Chg (fun _ => False) wd (wd.alloc (.cells #[.slice (some ⟨wk.heap.size + 1, 0, none⟩) 64 64, .slice (some ⟨w10.heap.size, 0, none⟩) 32 32] 38)) := (Chg.refl _ _).alloc _
          have q0 : (wd.alloc (.cells #[.slice (some ⟨wk.heap.size + 1, 0, none⟩) 64 64, .slice (some ⟨w10.heap.size, 0, none⟩) 32 32] 38)).cell? ⟨wd.heap.size, 0, none⟩ = some (.slice (some ⟨wk.heap.size + 1, 0, none⟩) 64 64) := by simp
          have q1 : (wd.alloc (.cells #[.slice (some ⟨wk.heap.size + 1, 0, none⟩) 64 64, .slice (some ⟨w10.heap.size, 0, none⟩) 32 32] 38)).cell? ⟨wd.heap.size, 1, none⟩ = some (.slice (some ⟨w10.heap.size, 0, none⟩) 32 32) := by simp
          generalize wd.alloc (.cells #[.slice (some ⟨wk.heap.size + 1, 0, none⟩) 64 64, .slice (some ⟨w10.heap.size, 0, none⟩) 32 32] 38) = wb at *
          refine wpAny_ready (rs := [3]) (by kernel_rfl) (by simp) ?_
          refine AllReady.cons rfl (fun K hK => ?_) AllReady.nil
          try simp only [List.getElem_toArray, List.getElem_cons_succ, List.getElem_cons_zero]
          try simp only [Act.put]
          go_simp
          have k13 := cd.trans cb
          have C := Lib.hid (of2g wd.heap.size _ _ A5c (Sha.hash (A36 ++ bs text)) wb (q0) (q1) ((hin1.chg k13 (fun _ _ => id)).mono (fun g h => by have := k13.size; omega)) ((hin2.chg k13 (fun _ _ => id)).mono (fun g h => by have := k13.size; omega)) (Tab.chg HK.out (cJ.trans k13) id) (by have := (cJ.trans k13).size; omega) (by rw [hl2, l5c]; decide))
          with_reducible refine C.out.mono ?_
          rintro e wc ⟨rfl, cc⟩
          dsimp only
          refine hK _ _ ?_
          clear hK K
          try simp only [List.getElem_toArray, List.getElem_cons_succ, List.getElem_cons_zero]
          try simp only [Act.put, List.setIfInBounds_toArray, List.set_cons_succ, List.set_cons_zero]
          refine wpAny_ready (rs := [5]) (by kernel_rfl) (by simp) ?_
          refine AllReady.cons rfl (fun K hK => ?_) AllReady.nil
          have cm := (cd.trans cb).trans cc
          try simp only [List.getElem_toArray, List.getElem_cons_succ, List.getElem_cons_zero]
          rw [if_pos (by rfl)]
          refine wp_store_rowA 74 (.tmp 11) (.tmp 49) rfl w13.heap.size _ rfl rfl 74 _ ((rd.chg cb id).chg cc id) (by rw [hl3]; kernel_rfl) (by rw [hl3]; rfl) (bvs_one _) ?_
          intro wf rf cf sf
          refine hK _ _ ?_
          clear hK K
          have cM : Chg (fun _ => False) w wf := (cJ.trans (cm)).then cf (fun i hi h => by have := cJ.size; have := cm.size; have := cc.size; have := cb.size; omega)
          have hfin := SlB.all (ok := fun _ => True) rf trivial hl4
          refine wpAny_done (by kernel_rfl) ?_ _
          try simp only [List.getElem_toArray, List.getElem_cons_succ, List.getElem_cons_zero]
          try simp only [Act.put, List.setIfInBounds_toArray, List.set_cons_succ, List.set_cons_zero]
          go_wp2_with (refine wpList_stringA rfl 38 9 (.tmp 50) rfl _ rfl 5 Tryz.underlying38 Tryz.underlying5 Tryz.underlying9 (fun _ => True) _ hfin ?_)
          go_ret
          exact ⟨by rw [HT.out]; rfl, cM⟩
end Go.Proofs.YtejlffeiebfboaaGreatDoor.Mac
