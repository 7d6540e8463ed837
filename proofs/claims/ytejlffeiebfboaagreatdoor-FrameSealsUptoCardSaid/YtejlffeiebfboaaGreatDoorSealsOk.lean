/- FrameSeals' walk, where Seal gives no error. -/
import Derived.Test.YtejlffeiebfboaaGreatDoorSealsWalk
import Derived.Test.YtejlffeiebfboaaGreatDoorSealsLaw
import Derived.Test.YtejlffeiebfboaaGreatDoorSealsLaw2
import Derived.Test.YtejlffeiebfboaaGreatDoorBRow
import Derived.StillTailTactics
set_option linter.unusedVariables false
set_option linter.unusedSimpArgs false
namespace Go.Proofs.YtejlffeiebfboaaGreatDoor.Law
open Go Go.RowKit Go.Proofs.YtejlffeiebfboaaGreatDoor.Mem Go.Proofs.YtejlffeiebfboaaGreatDoor.PackW Go.Proofs.YtejlffeiebfboaaGreatDoor.Put Go.Proofs.YtejlffeiebfboaaGreatDoor.Get

set_option maxRecDepth 100000 in
set_option maxHeartbeats 16000000 in
/-- Where Seal gives no error. -/
theorem seals_ok (d : DG) (key other : ByteArray) (hd : d.Ok) (hzz : 4 + sizeF { d with tag := zeros32 } (flds d.kind) ≤ 140737488355328) (hk : key.size ≤ 1048576) (ho : other.size ≤ 1048576)
    (he : (sealF d key).2 = 0) (w : World) (hT : Tbl w) :
    Calls Tryz.prog 6 #[.agg d.cells.toArray, .string key, .string other] w fun e w' => e = .returned (.bool true) ∧ Chg (fun _ => False) w w' := by
  have S0 : Stt w w [] := ⟨Chg.refl _ _, hT, fun x hx => absurd hx (by simp)⟩
  have S00 := S0.box d
  obtain ⟨h37, hok, hl, hs⟩ := seal_form d hd key he
  have hp := preB_min d hok
  obtain ⟨B, hB⟩ : ∃ B : ByteArray, Hid ((⟨(preB d).toArray⟩ : ByteArray) = B) := ⟨_, rfl⟩
  have hbB : bs B = preB d := by rw [← hB.out, bs_mk]
  have CS := seal_any d key hd hzz (by omega)
  have CD0 := seal_back d hd key he
  obtain ⟨T, hTT⟩ : ∃ T : ByteArray, Hid (Mac.tagB key B = T) := ⟨_, rfl⟩
  rw [hB.out, hTT.out] at hs CD0
  obtain ⟨s, hss⟩ : ∃ s : ByteArray, Hid ((sealF d key).1 = s) := ⟨_, rfl⟩
  have hsBT : s = B ++ T := by rw [← hss.out]; exact hs
  have hTz : T.size = 32 := by rw [← hTT.out]; exact tagB_size key B
  have hbs : bs s = preB d ++ bs T := by rw [hsBT, ba_append, hbB]
  have hzB : B.size = (preB d).length := size_of hbB
  have hz : s.size = B.size + 32 := by rw [hsBT, ByteArray.size_append, hTz]
  rw [hss.out] at CD0
  rw [hss.out, he] at CS
  have CD := decode_any s (by omega)
  obtain ⟨dT, hdT⟩ : ∃ dT : DG, Hid ({ d with tag := T } = dT) := ⟨_, rfl⟩
  rw [hdT.out] at CD0
  obtain ⟨o, hoo⟩ : ∃ o, Hid (onlyD dT = o) := ⟨_, rfl⟩
  rw [hoo.out] at CD0
  rw [CD0] at CD
  have hdk : dT.kind = d.kind := by rw [← hdT.out]
  have CO := only_lit dT o (by omega) (by omega) hoo.out
  have CB : ∀ w, Calls Tryz.prog 15 #[.string s] w fun e w' => e = .returned (.string B) ∧ w = w' := by
    intro w
    have := body_any s (by omega) w
    rw [body_tag d h37.1 h37.2 hTz hbs, hB.out] at this
    exact this
  have CT : ∀ w, Tbl w → Calls Tryz.prog 18 #[.string key, .string B] w fun e w' => e = .returned (.string T) ∧ Chg (fun _ => False) w w' := by
    intro w hT
    have := tagT_any key B w hT (by omega) (by omega)
    rw [hTT.out] at this
    exact this
  have CSe : ∀ w, Tbl w → Calls Tryz.prog 19 #[.string s, .string key] w fun e w' => e = .returned (.bool true) ∧ Chg (fun _ => False) w w' := by
    intro w hT
    have := sealed_any s key (by omega) (by omega) w hT
    rw [sealed_split d h37.1 h37.2 hp key s (bs T) hbs (by rw [bs_length]; exact hTz), hB.out, hTT.out, decide_eq_true rfl] at this
    exact this
  have hflip : ∀ i, i < 32 → ∀ c : UInt8, c ≠ (bs s).getD (s.size - 1 - i) 0 → ∀ w, Tbl w → Calls Tryz.prog 19 #[.string ⟨((bs s).set (s.size - 1 - i) c).toArray⟩, .string key] w fun e w' => e = .returned (.bool false) ∧ Chg (fun _ => False) w w' := by
    intro i hi c hc w hT
    have h := sealed_any ⟨((bs s).set (s.size - 1 - i) c).toArray⟩ key (by rw [ba_mk_size, List.length_set, bs_length]; omega) (by omega) w hT
    have hbs2 : bs s = preB d ++ bs (Mac.tagB key ⟨(preB d).toArray⟩) := by rw [hB.out, hTT.out]; exact hbs
    rw [sealed_flip d h37.1 h37.2 hp key s hbs2 i hi c hc] at h
    exact h
  have HS := Lib.hid CS
  have HD := Lib.hid CD
  have HO := Lib.hid CO
  have HB := Lib.hid CB
  have HT := Lib.hid CT
  have HSe := Lib.hid CSe
  have HF := Lib.hid hflip
  have HZ := Lib.hid hz
  have HZB := Lib.hid (show 20 ≤ B.size ∧ B.size ≤ 1168 by omega)
  have HBT := Lib.hid hsBT
  have HS00 := Lib.hid S00
  have HTL := Lib.hid hT.lt
  have hsI1 : (52 : Int) ≤ (s.size : Int) := by omega
  have hsI2 : (s.size : Int) ≤ 1200 := by omega
  have hBI1 : (20 : Int) ≤ (B.size : Int) := by omega
  have hBI2 : (B.size : Int) ≤ 1168 := by omega
  have hb1 : ((B.size : Int) != (s.size : Int) - 32) = false := by rw [hz]; simp
  clear CS CD CO CB CT CSe hflip hz hzB hbs hTz hsBT hbB hp hl hs hok he S0 S00 hT hd hzz CD0
  go_enter Tryz.func6, Tryz.ntmps6
  go_wp2_with (fail)
  have S1 := HS00.out
  clear HS00
  generalize w.alloc (.cells d.cells.toArray 26) = w1 at *
  have HWB : Hid (∀ w', Chg (fun k => k = w.heap.size) w w' → Chg (fun _ => False) w w') := fun w' h => h.mono (fun k hk hk2 => by omega)
  have HNB : Hid (0 ≠ w.heap.size) := by show _ ≠ _; have := HTL.out; omega
  clear HTL
  generalize w.heap.size = b3 at *
  go_upto_region 3 with (go_at_call 8; with_reducible refine (alive_any _ S1.tbl).mono ?_; rintro e w2 ⟨rfl, hc2⟩)
  have S2 := S1.next hc2
  clear S1 hc2 w1
  have r2 := S2.hd
  go_upto_region 4 with (first
    | (refine wpList_load_rowA rfl 26 (.tmp 3) rfl b3 rfl 26 d.cells _ r2 Tryz.underlying26 rfl size26 ?_)
    | (go_at_call 11; with_reducible refine (HS.out _ S2.tbl).mono ?_; rintro e w3 ⟨rfl, hc3⟩))
  have S3 := S2.next hc3
  clear S2 hc3 w2 r2 HS
  go_upto_region 13 with (first
    | (go_at_call 15; with_reducible refine (HB.out _).mono ?_; rintro e w' ⟨rfl, rfl⟩)
    | (go_at_call 18; with_reducible refine (HT.out _ S3.tbl).mono ?_; rintro e w4 ⟨rfl, hc4⟩))
  have S4 := S3.next hc4
  clear S3 hc4 w3
  go_upto_region 14 with (first
    | (go_at_call 13; with_reducible refine (HD.out _).mono ?_; rintro e w5 ⟨rfl, hc5⟩)
    | (refine wpList_allocA rfl 26 rfl (.agg d0.cells.toArray) d0.cells zero26 rfl ?_; intro w6 hz6 hr6 hc6; clear hz6)
    | (refine wpList_store_rowA rfl 26 (.tmp 15) (.tmp 96) rfl _ o.cells rfl rfl 26 d0.cells hr6 size26 rfl (cells_one _) ?_; intro w7 hr7 hc7 hz7; clear hz7))
  have S7 := (S4.next hc5).put hc6 hc7 hr7
  have hb15 : w5.heap.size ≠ b3 := by have := ((S4.next hc5).hd).lt; omega
  clear S4 hc5 hc6 hc7 hr6 hr7 w4 w6
  generalize w5.heap.size = b15 at *
  clear w5
  have S7s : Stt w w7 [(b3, d), (b15, o)] := ⟨S7.chg, S7.tbl, fun x hx => by
    rcases List.mem_cons.1 hx with rfl | hx
    · exact S7.tl.hd
    · rw [List.mem_singleton.1 hx]; exact S7.hd⟩
  have f14 := S7s.hd.frozen 14
  have c14 := row_c14 S7s.hd
  go_upto_region 15 with (fail)
  have S8 := S7s.set HWB.out HNB.out (fun x hx => by rw [List.mem_singleton.1 hx]; exact hb15) T
  rw [hdT.out] at S8
  clear S7 S7s f14 c14
  generalize w7.setCell ⟨b3, 14, none⟩ (.string T) = w8 at *
  clear w7
  have S9 : Stt w w8 [(b15, o), (b3, dT)] := ⟨S8.chg, S8.tbl, fun x hx => by
    rcases List.mem_cons.1 hx with rfl | hx
    · exact S8.tl.hd
    · rw [List.mem_singleton.1 hx]; exact S8.hd⟩
  clear S8
  have hTs : T.size = 32 := by rw [← hTT.out]; exact tagB_size key B
  have HTS := Lib.hid hTs
  have hsum : ¬ 9223372036854775807 < B.size + T.size := by have := HZB.out; omega
  clear hTs hdk
  go_cut [120] (fun v wx => v = .bool false ∧ Stt w wx [])
  case first =>
    as_aux_lemma =>
    have hST : s.toList = (B ++ T).toList := by rw [HBT.out]
    go_region_held3 (fun w' => Tbl w' ∧ w'.cell? ⟨b15, 0, none⟩ = some (.int .i64 o.kind) ∧ w'.cell? ⟨b15, 1, none⟩ = some (.string o.nonce) ∧ w'.cell? ⟨b15, 2, none⟩ = some (.int .u64 o.epoch) ∧ w'.cell? ⟨b15, 3, none⟩ = some (.string o.cookie) ∧ w'.cell? ⟨b15, 4, none⟩ = some (.string o.name) ∧ w'.cell? ⟨b15, 5, none⟩ = some (.int .u64 o.session) ∧ w'.cell? ⟨b15, 6, none⟩ = some (.int .i64 o.player) ∧ w'.cell? ⟨b15, 7, none⟩ = some (.string o.salt) ∧ w'.cell? ⟨b15, 8, none⟩ = some (.int .u64 o.seq) ∧ w'.cell? ⟨b15, 9, none⟩ = some (.int .i64 o.throttle) ∧ w'.cell? ⟨b15, 10, none⟩ = some (.int .i64 o.turn) ∧ w'.cell? ⟨b15, 11, none⟩ = some (.bool o.fire) ∧ w'.cell? ⟨b15, 12, none⟩ = some (.bool o.boost) ∧ w'.cell? ⟨b15, 13, none⟩ = some (.string o.data) ∧ w'.cell? ⟨b15, 14, none⟩ = some (.string o.tag) ∧ w'.cell? ⟨b3, 0, none⟩ = some (.int .i64 dT.kind) ∧ w'.cell? ⟨b3, 1, none⟩ = some (.string dT.nonce) ∧ w'.cell? ⟨b3, 2, none⟩ = some (.int .u64 dT.epoch) ∧ w'.cell? ⟨b3, 3, none⟩ = some (.string dT.cookie) ∧ w'.cell? ⟨b3, 4, none⟩ = some (.string dT.name) ∧ w'.cell? ⟨b3, 5, none⟩ = some (.int .u64 dT.session) ∧ w'.cell? ⟨b3, 6, none⟩ = some (.int .i64 dT.player) ∧ w'.cell? ⟨b3, 7, none⟩ = some (.string dT.salt) ∧ w'.cell? ⟨b3, 8, none⟩ = some (.int .u64 dT.seq) ∧ w'.cell? ⟨b3, 9, none⟩ = some (.int .i64 dT.throttle) ∧ w'.cell? ⟨b3, 10, none⟩ = some (.int .i64 dT.turn) ∧ w'.cell? ⟨b3, 11, none⟩ = some (.bool dT.fire) ∧ w'.cell? ⟨b3, 12, none⟩ = some (.bool dT.boost) ∧ w'.cell? ⟨b3, 13, none⟩ = some (.string dT.data) ∧ w'.cell? ⟨b3, 14, none⟩ = some (.string dT.tag))
      (first
        | exact ⟨S9.tbl.drew, dg_cells2 S9.hd.drew S9.tl.hd.drew⟩
        | exact ⟨S9.tbl.drew.chg hc10, dg_cells2 (S9.hd.drew.chg hc10 id) (S9.tl.hd.drew.chg hc10 id)⟩
        | exact ⟨(S9.tbl.drew.chg hc10).chg hc11, dg_cells2 ((S9.hd.drew.chg hc10 id).chg hc11 id) ((S9.tl.hd.drew.chg hc10 id).chg hc11 id)⟩
        | assumption)
      (first
        | (go_at_call 14; with_reducible refine (HO.out _).mono ?_; rintro e w10 ⟨rfl, hc10⟩)
        | (go_at_call 19; with_reducible refine (HSe.out _ (And.left (by assumption))).mono ?_; rintro e w11 ⟨rfl, hc11⟩))
    all_goals (go_wp2_with fail; go_meet; exact ⟨rfl, (S9.tl.tl.next (Chg.refl _ _).drew).next (hc10.trans hc11)⟩)
  case rest =>
    obtain ⟨rfl, S10⟩ := hcut
    clear S9 HO HD HB HT hb1 hb15 HWB HNB hoo hdT w8 hsum
    go_upto_region 18 with (fail)
    go_loopw [17] (fun i wr => ∃ k : Nat, k ≤ 32 ∧ i = .int .i64 k ∧ Stt w wr []) (fun i _ => 32 - (intOf i).toNat)
    case atStart => exact ⟨0, by omega, rfl, S10⟩
    case round =>
      obtain ⟨k, hk32, rfl, S11⟩ := hrel
      clear S10
      by_cases hlt : k < 32
      · as_aux_lemma =>
        have hltI : (k : Int) < 32 := by omega
        have hk0 : (0 : Int) ≤ (k : Int) := by omega
        go_upto_region 21 with (refine wpList_bytesR rfl 9 38 (.tmp 125) rfl s rfl 5 Tryz.underlying9 Tryz.underlying38 Tryz.underlying5 ?_; intro w12 cap hcap hr12 hc12)
        obtain ⟨j, hj⟩ : ∃ j : Nat, (s.size : Int) - 1 - (k : Int) = (j : Int) := ⟨s.size - 1 - k, by omega⟩
        have hjs : (j : Int) < (s.size : Int) := by omega
        have hj0 : (0 : Int) ≤ (j : Int) := by omega
        have hjl : j < (bs s).length := by rw [bs_length]; omega
        have c0 := hr12.cell j hjl
        have f0 := hr12.frozen j hjl
        obtain ⟨v, hv⟩ : ∃ v : UInt8, Hid ((bs s).getD j 0 = v) := ⟨_, rfl⟩
        rw [hv.out] at c0
        have HR12 := Lib.hid hr12
        have HC12 := Lib.hid hc12
        have HJL := Lib.hid hjl
        have HS11 := Lib.hid S11
        clear hr12 hc12 hjl S11
        have HWR : Hid (∀ x, Chg (fun _ => False) wr (w12.setCell ⟨wr.heap.size, j, none⟩ x).drew) := fun x => (HC12.out.setCell _ _ (fun h => absurd h (Nat.lt_irrefl _))).drew
        generalize wr.heap.size = bb at *
        obtain ⟨r, hr⟩ : ∃ r : Nat, (k : Int).tmod 8 = (r : Int) := ⟨k % 8, by rw [Int.tmod_eq_emod_of_nonneg hk0]; omega⟩
        have hr8 : r < 8 := by rw [Int.tmod_eq_emod_of_nonneg hk0] at hr; omega
        have hw2 : IntKind.wrap .i64 ((s.size : Int) - 1 - (k : Int)) = (j : Int) := by rw [IntWalk.i64_in _ (by omega)]; exact hj
        have hw1 : IntKind.wrap .i64 ((s.size : Int) - 1) = (s.size : Int) - 1 := IntWalk.i64_in _ (by omega)
        have hw3 : IntKind.wrap .i64 (r : Int) = (r : Int) := IntWalk.i64_in _ (by omega)
        have hr0 : (0 : Int) ≤ (r : Int) := by omega
        have hHJ := Lib.hid hj
        clear hj
        go_still_tail 19, (by kernel_rfl)
        obtain ⟨c, hcv, hce⟩ := xor_ne v r hr8
        rw [hce]
        have hjk : s.size - 1 - k = j := by have := hHJ.out; omega
        have HR13 := Lib.hid ((HR12.out.drew).set j HJL.out c)
        have f1 : w12.drew.frozen? ⟨bb, j, none⟩ = false := f0
        have c1 : w12.drew.cell? ⟨bb, j, none⟩ = some (.int .u8 (v.toNat : Int)) := c0
        have HFk := HF.out k hlt c (by rw [hjk, hv.out]; exact hcv)
        rw [hjk] at HFk
        have HF2 := Lib.hid HFk
        have HSL := Lib.hid (HR13.out.slB (c := cap) (by rw [List.length_set, bs_length]; exact hcap))
        rw [List.length_set, bs_length] at HSL
        have S13 := HS11.out.next (HWR.out (.int .u8 (c.toNat : Int)))
        have HS13 := Lib.hid S13
        clear HFk S13 f0 c0 hcv hce hw1 hw2 hw3 hr hr8 hjk HR12 HWR HC12
        change wpList _ _ _ _ _ w12.drew
        go_wp2_with (first
          | (refine wpList_stringA rfl 38 9 (.tmp 146) rfl _ rfl 5 Tryz.underlying38 Tryz.underlying5 Tryz.underlying9 _ _ HSL.out ?_)
          | (go_at_call 19; with_reducible refine (HF2.out _ HS13.out.tbl).mono ?_; rintro e w14 ⟨rfl, hc14⟩))
        go_roundw
        case rel => exact ⟨k + 1, by omega, by go_num, HS13.out.next hc14⟩
        case measure => simp [intOf]; omega
      · as_aux_lemma =>
        have hltI : ¬ (k : Int) < 32 := by omega
        go_upto_region 25 with (refine wpList_bytesR rfl 9 38 (.tmp 150) rfl s rfl 5 Tryz.underlying9 Tryz.underlying38 Tryz.underlying5 ?_; intro w12 cap hcap hr12 hc12)
        obtain ⟨j, hj⟩ : ∃ j : Nat, (B.size : Int) - 1 = (j : Int) := ⟨B.size - 1, by omega⟩
        have hj0 : (0 : Int) ≤ (j : Int) := by omega
        have hjs : (j : Int) < (s.size : Int) := by have := HZ.out; omega
        have hjl : j < (bs s).length := by rw [bs_length]; omega
        have c0 := hr12.cell j hjl
        have f0 := hr12.frozen j hjl
        obtain ⟨v, hv⟩ : ∃ v : UInt8, Hid ((bs s).getD j 0 = v) := ⟨_, rfl⟩
        rw [hv.out] at c0
        obtain ⟨c, hcv, hce⟩ := xor_any v 1 (by decide)
        have HR12 := Lib.hid hr12
        have HJL := Lib.hid hjl
        have HWR : Hid (∀ x, Chg (fun _ => False) wr (w12.setCell ⟨wr.heap.size, j, none⟩ x)) := fun x => hc12.setCell _ _ (fun h => absurd h (Nat.lt_irrefl _))
        have HS11 := Lib.hid S11
        clear hr12 hjl S11 hc12
        generalize wr.heap.size = bb at *
        have hw2 : IntKind.wrap .i64 ((B.size : Int) - 1) = (j : Int) := by rw [IntWalk.i64_in _ (by omega)]; exact hj
        have hHJ := Lib.hid hj
        clear hj
        go_upto_region 26 with fail
        have HR13 := Lib.hid (HR12.out.set j HJL.out c)
        have HSL := Lib.hid (HR13.out.slB (c := cap) (by rw [List.length_set, bs_length]; exact hcap))
        rw [List.length_set, bs_length] at HSL
        have HS13 := Lib.hid (HS11.out.next (HWR.out (.int .u8 (c.toNat : Int))))
        clear f0 c0 hcv hce hw2 HR12 HWR HS11 HR13
        go_upto_region 27 with (refine wpList_stringA rfl 38 9 (.tmp 164) rfl _ rfl 5 Tryz.underlying38 Tryz.underlying5 Tryz.underlying9 _ _ HSL.out ?_)
        clear HSL
        generalize w12.setCell ⟨bb, j, none⟩ (.int .u8 (c.toNat : Int)) = w13 at *
        have hjB : j = (preB d).length - 1 := by have h1 := hHJ.out; have h2 := size_of (s := B) (l := preB d) (by rw [← hB.out, bs_mk]); omega
        have hbs : bs s = preB d ++ bs T := by rw [HBT.out, ba_append, ← hB.out, bs_mk]
        have hp := (show 20 ≤ (preB d).length by have h2 := size_of (s := B) (l := preB d) (by rw [← hB.out, bs_mk]); omega)
        have e1 := sealed_split d h37.1 h37.2 hp other s (bs T) hbs (by rw [bs_length]; exact HTS.out)
        have e1' : sealedF s other = decide (T = Mac.tagB other B) := by
          rw [e1, hB.out, decide_eq_decide]
          exact ⟨bs_inj, fun h => by rw [h]⟩
        have e2 := sealed_turned d h37.1 h37.2 hp key s T hbs HTS.out c
        have e3 := sealed_cut d h37.1 h37.2 hp (key ++ ⟨#[1]⟩) s T hbs HTS.out
        rw [← hjB] at e2
        have hzs : s.size = B.size + 32 := HZ.out
        obtain ⟨m, hm⟩ : ∃ m : Nat, s.size - 1 = m := ⟨_, rfl⟩
        rw [hm] at e3
        have hmI : (s.size : Int) - 1 = (m : Int) := by omega
        have hwm : IntKind.wrap .i64 ((s.size : Int) - 1) = (m : Int) := by rw [IntWalk.i64_in _ (by omega)]; exact hmI
        have hm0 : (0 : Int) ≤ (m : Int) := by omega
        have hms : (m : Int) ≤ (s.size : Int) := by omega
        have hzc : (s.extract 0 m).size = m := by simp; omega
        have hkk : (key ++ (⟨#[1]⟩ : ByteArray)).size = key.size + 1 := by simp [ByteArray.size_append]; rfl
        have hks : ¬ 9223372036854775807 < key.size + (⟨#[1]⟩ : ByteArray).size := by show ¬ 9223372036854775807 < key.size + 1; omega
        have hks1 : ¬ 9223372036854775807 < key.size + 1 := by omega
        obtain ⟨u, hu⟩ : ∃ u : ByteArray, Hid ((⟨((bs s).set j c).toArray⟩ : ByteArray) = u) := ⟨_, rfl⟩
        have huz : u.size = s.size := by rw [← hu.out, ba_mk_size, List.length_set, bs_length]
        rw [hu.out] at e2 ⊢
        have hb2 := bodyOf_size u
        have hb3 := bodyOf_size (s.extract 0 m)
        have CA1 := Lib.hid (sealed_any s other (by omega) (by omega))
        have CA2 := Lib.hid (fun w hT => tagT_any other B w hT (by omega) (by omega))
        have CB1 := Lib.hid (sealed_any u key (by omega) (by omega))
        have CB2 := Lib.hid (body_any u (by omega))
        have CB3 := Lib.hid (fun w hT => tagT_any key (bodyOf u) w hT (by omega) (by omega))
        have CC1 := Lib.hid (sealed_any (s.extract 0 m) (key ++ ⟨#[1]⟩) (by omega) (by omega))
        have CC2 := Lib.hid (body_any (s.extract 0 m) (by omega))
        have CC3 := Lib.hid (fun w hT => tagT_any (key ++ ⟨#[1]⟩) (bodyOf (s.extract 0 m)) w hT (by omega) (by omega))
        have CC4 := Lib.hid (last_any (s.extract 0 m) (by omega))
        have t1 := two_beq e1'
        have t2 := two_beq e2
        have t3 := two_beq e3
        clear e1 e1' e2 e3
        generalize sealedF s other = q1 at *
        generalize sealedF u key = q2 at *
        generalize sealedF (s.extract 0 m) (key ++ ⟨#[1]⟩) = q3 at *
        generalize Mac.tagB other B = T1 at *
        generalize bodyOf u = B2 at *
        generalize bodyOf (s.extract 0 m) = B3 at *
        generalize Mac.tagB key B2 = T2 at *
        generalize Mac.tagB (key ++ ⟨#[1]⟩) B3 = T3 at *
        generalize lastB (s.extract 0 m) = L3 at *
        clear hB hTT hss HSe HF HZ HZB HBT hk32 hlt hltI hcap hj0 hjs hv HJL hHJ hjB hbs hp hzs hu huz hb2 hb3 hzc hkk h37 hBI1 hBI2 HTS hm hmI hk ho
        have hfin : ∀ {w' : World}, Stt w w' [] → Chg (fun _ => False) w w' := fun h => h.chg
        subst t1
        subst t2
        subst t3
        · as_aux_lemma =>
          go_region_held3 (fun w' => Stt w w' [])
            (first
              | exact HS13.out.next (Chg.refl _ _).drew
              | exact Stt.next (by assumption) hca1
              | exact Stt.next (by assumption) hca2
              | exact Stt.next (by assumption) hcb1
              | exact Stt.next (by assumption) hcb3
              | exact Stt.next (by assumption) hcc1
              | exact Stt.next (by assumption) hcc3
              | assumption)
            (first
              | (go_at_call 19; with_reducible refine (CA1.out _ (Stt.tbl (by assumption))).mono ?_; rintro e wa1 ⟨rfl, hca1⟩)
              | (go_at_call 18; with_reducible refine (CA2.out _ (Stt.tbl (by assumption))).mono ?_; rintro e wa2 ⟨rfl, hca2⟩)
              | (go_at_call 19; with_reducible refine (CB1.out _ (Stt.tbl (by assumption))).mono ?_; rintro e wb1 ⟨rfl, hcb1⟩)
              | (go_at_call 15; with_reducible refine (CB2.out _).mono ?_; rintro e wb2 ⟨rfl, rfl⟩)
              | (go_at_call 18; with_reducible refine (CB3.out _ (Stt.tbl (by assumption))).mono ?_; rintro e wb3 ⟨rfl, hcb3⟩)
              | (go_at_call 19; with_reducible refine (CC1.out _ (Stt.tbl (by assumption))).mono ?_; rintro e wc1 ⟨rfl, hcc1⟩)
              | (go_at_call 15; with_reducible refine (CC2.out _).mono ?_; rintro e wc2 ⟨rfl, rfl⟩)
              | (go_at_call 18; with_reducible refine (CC3.out _ (Stt.tbl (by assumption))).mono ?_; rintro e wc3 ⟨rfl, hcc3⟩)
              | (go_at_call 20; with_reducible refine (CC4.out _).mono ?_; rintro e wc4 ⟨rfl, rfl⟩))
          go_wp2_with fail
          go_ret
          exact ⟨rfl, hfin (by assumption)⟩
end Go.Proofs.YtejlffeiebfboaaGreatDoor.Law
