/- FrameBack's walk: there and back, both ways. -/
import Derived.Test.YtejlffeiebfboaaGreatDoorOnly
import Derived.Test.YtejlffeiebfboaaGreatDoorBack3
import Derived.Deep.RegionHeld3
set_option linter.unusedVariables false
set_option linter.unusedSimpArgs false
namespace Go.Proofs.YtejlffeiebfboaaGreatDoor.Law
open Go Go.RowKit Go.Proofs.YtejlffeiebfboaaGreatDoor.Mem Go.Proofs.YtejlffeiebfboaaGreatDoor.PackW Go.Proofs.YtejlffeiebfboaaGreatDoor.Put Go.Proofs.YtejlffeiebfboaaGreatDoor.Get

theorem fld_size (x : DG) (f : Fld) : Fld.size x f ≤ (fb x f).length + 300 := by
  cases f <;> simp only [Fld.size, fb, bs_length] <;> omega
theorem fld_sizes (x : DG) : ∀ l : List Fld, sizeF x l ≤ (l.flatMap (fb x)).length + 300 * l.length
  | [] => by simp [sizeF]
  | f :: t => by
    have h1 := fld_size x f
    have h2 := fld_sizes x t
    simp only [sizeF, List.map_cons, List.sum_cons, List.flatMap_cons, List.length_append, List.length_cons] at *
    omega
theorem wire_size (x : DG) {s : ByteArray} (hs : bs s = wire x) (hz : s.size ≤ 1200) : 4 + sizeF x (flds x.kind) ≤ 140737488355328 := by
  have h1 := fld_sizes x (flds x.kind)
  have h2 := (flds_len x.kind).2
  have h3 := size_of hs
  unfold wire at h3
  rw [List.length_append, List.length_cons] at h3
  omega
theorem dg_cells2 {w : World} {b c : Nat} {T U : TypeId} {d o : DG} (h : Row w b T d.cells) (k : Row w c U o.cells) : w.cell? ⟨b, 0, none⟩ = some (.int .i64 d.kind) ∧ w.cell? ⟨b, 1, none⟩ = some (.string d.nonce) ∧ w.cell? ⟨b, 2, none⟩ = some (.int .u64 d.epoch) ∧ w.cell? ⟨b, 3, none⟩ = some (.string d.cookie) ∧ w.cell? ⟨b, 4, none⟩ = some (.string d.name) ∧ w.cell? ⟨b, 5, none⟩ = some (.int .u64 d.session) ∧ w.cell? ⟨b, 6, none⟩ = some (.int .i64 d.player) ∧ w.cell? ⟨b, 7, none⟩ = some (.string d.salt) ∧ w.cell? ⟨b, 8, none⟩ = some (.int .u64 d.seq) ∧ w.cell? ⟨b, 9, none⟩ = some (.int .i64 d.throttle) ∧ w.cell? ⟨b, 10, none⟩ = some (.int .i64 d.turn) ∧ w.cell? ⟨b, 11, none⟩ = some (.bool d.fire) ∧ w.cell? ⟨b, 12, none⟩ = some (.bool d.boost) ∧ w.cell? ⟨b, 13, none⟩ = some (.string d.data) ∧ w.cell? ⟨b, 14, none⟩ = some (.string d.tag) ∧ w.cell? ⟨c, 0, none⟩ = some (.int .i64 o.kind) ∧ w.cell? ⟨c, 1, none⟩ = some (.string o.nonce) ∧ w.cell? ⟨c, 2, none⟩ = some (.int .u64 o.epoch) ∧ w.cell? ⟨c, 3, none⟩ = some (.string o.cookie) ∧ w.cell? ⟨c, 4, none⟩ = some (.string o.name) ∧ w.cell? ⟨c, 5, none⟩ = some (.int .u64 o.session) ∧ w.cell? ⟨c, 6, none⟩ = some (.int .i64 o.player) ∧ w.cell? ⟨c, 7, none⟩ = some (.string o.salt) ∧ w.cell? ⟨c, 8, none⟩ = some (.int .u64 o.seq) ∧ w.cell? ⟨c, 9, none⟩ = some (.int .i64 o.throttle) ∧ w.cell? ⟨c, 10, none⟩ = some (.int .i64 o.turn) ∧ w.cell? ⟨c, 11, none⟩ = some (.bool o.fire) ∧ w.cell? ⟨c, 12, none⟩ = some (.bool o.boost) ∧ w.cell? ⟨c, 13, none⟩ = some (.string o.data) ∧ w.cell? ⟨c, 14, none⟩ = some (.string o.tag) :=
  ⟨h.cell 0, h.cell 1, h.cell 2, h.cell 3, h.cell 4, h.cell 5, h.cell 6, h.cell 7, h.cell 8, h.cell 9, h.cell 10, h.cell 11, h.cell 12, h.cell 13, h.cell 14, k.cell 0, k.cell 1, k.cell 2, k.cell 3, k.cell 4, k.cell 5, k.cell 6, k.cell 7, k.cell 8, k.cell 9, k.cell 10, k.cell 11, k.cell 12, k.cell 13, k.cell 14⟩
theorem d0_cells {w : World} {b : Nat} {T : TypeId} (h : Row w b T d0.cells) : w.cell? ⟨b, 0, none⟩ = some (.int .i64 0) ∧ w.cell? ⟨b, 1, none⟩ = some (.string ⟨#[]⟩) ∧ w.cell? ⟨b, 2, none⟩ = some (.int .u64 0) ∧ w.cell? ⟨b, 3, none⟩ = some (.string ⟨#[]⟩) ∧ w.cell? ⟨b, 4, none⟩ = some (.string ⟨#[]⟩) ∧ w.cell? ⟨b, 5, none⟩ = some (.int .u64 0) ∧ w.cell? ⟨b, 6, none⟩ = some (.int .i64 0) ∧ w.cell? ⟨b, 7, none⟩ = some (.string ⟨#[]⟩) ∧ w.cell? ⟨b, 8, none⟩ = some (.int .u64 0) ∧ w.cell? ⟨b, 9, none⟩ = some (.int .i64 0) ∧ w.cell? ⟨b, 10, none⟩ = some (.int .i64 0) ∧ w.cell? ⟨b, 11, none⟩ = some (.bool false) ∧ w.cell? ⟨b, 12, none⟩ = some (.bool false) ∧ w.cell? ⟨b, 13, none⟩ = some (.string ⟨#[]⟩) ∧ w.cell? ⟨b, 14, none⟩ = some (.string ⟨#[]⟩) :=
  dg_cells h
theorem only_lit (d o : DG) (h1 : 1 ≤ d.kind) (h7 : d.kind ≤ 7) (ho : onlyD d = o) (w : World) :
    Calls Tryz.prog 14 #[.agg #[.int .i64 d.kind, .string d.nonce, .int .u64 d.epoch, .string d.cookie, .string d.name, .int .u64 d.session, .int .i64 d.player, .string d.salt, .int .u64 d.seq, .int .i64 d.throttle, .int .i64 d.turn, .bool d.fire, .bool d.boost, .string d.data, .string d.tag]] w fun e w' => e = .returned (.agg #[.int .i64 o.kind, .string o.nonce, .int .u64 o.epoch, .string o.cookie, .string o.name, .int .u64 o.session, .int .i64 o.player, .string o.salt, .int .u64 o.seq, .int .i64 o.throttle, .int .i64 o.turn, .bool o.fire, .bool o.boost, .string o.data, .string o.tag]) ∧ Chg (fun _ => False) w w' := by
  subst ho; exact only_any d h1 h7 w

set_option maxRecDepth 100000 in
set_option maxHeartbeats 16000000 in
theorem back_any (d : DG) (data : ByteArray) (hd : d.Ok) (hz : 4 + sizeF d (flds d.kind) ≤ 140737488355328) (hm : data.size ≤ 9223372036854775807) (w : World) (hT : Tbl w) :
    Calls Tryz.prog 4 #[.agg d.cells.toArray, .string data] w fun e w' => e = .returned (.bool true) ∧ Chg (fun _ => False) w w' := by
  have S0 : Stt w w [] := ⟨Chg.refl _ _, hT, fun x hx => absurd hx (by simp)⟩
  have S00 := S0.box d
  have CE := encode_any d hd hz
  have CD := decode_any data hm
  have hA : ((encode d).2 = 0 ∧ (1 ≤ d.kind ∧ d.kind ≤ 7) ∧ Get.decode (encode d).1 = (onlyD d, 0)) ∨ ((encode d).2 ≠ 0 ∧ (encode d).1 = ⟨#[]⟩ ∧ 71 ≤ (encode d).2 ∧ (encode d).2 ≤ 73) := by
    by_cases h : (encode d).2 = 0
    · exact .inl ⟨h, (encode_zero d hd h).1, back d hd h⟩
    · exact .inr ⟨h, encode_err d h⟩
  have hB : ((Get.decode data).2 = 0 ∧ ((Get.decode data).1.Ok ∧ (1 ≤ (Get.decode data).1.kind ∧ (Get.decode data).1.kind ≤ 7) ∧ encode (Get.decode data).1 = (data, 0) ∧ onlyD (Get.decode data).1 = (Get.decode data).1 ∧ 4 + sizeF (Get.decode data).1 (flds (Get.decode data).1.kind) ≤ 140737488355328 ∧ ((bodyOf data).size = 0 ↔ (Get.decode data).1.kind ≤ 2))) ∨ ((Get.decode data).2 ≠ 0 ∧ (Get.decode data).1 = d0 ∧ 70 ≤ (Get.decode data).2 ∧ (Get.decode data).2 ≤ 73) := by
    by_cases h : (Get.decode data).2 = 0
    · obtain ⟨h1, h2, h3, h4, h5, h6⟩ := dec_enc data h
      refine .inl ⟨h, h1, h2, enc_again data h, h6.symm, ?_, body_wire _ data h2.1 h2.2 h3 h4⟩
      exact wire_size _ h4 h5
    · exact .inr ⟨h, decode_err data h⟩
  have hsm : (encode d).1.size ≤ 9223372036854775807 := by have := encode_size d; omega
  obtain ⟨s, e, hs⟩ : ∃ s e, Hid (encode d = (s, e)) := ⟨_, _, rfl⟩
  obtain ⟨x, g, hx⟩ : ∃ x g, Hid (Get.decode data = (x, g)) := ⟨_, _, rfl⟩
  rw [hs.out] at CE hA hsm
  rw [hx.out] at CD hB
  have CDs := decode_any s hsm
  have HE := Lib.hid CE
  have HD := Lib.hid CD
  have HDs := Lib.hid CDs
  have HA := Lib.hid hA
  have HB := Lib.hid hB
  have HBody := Lib.hid (body_any data hm)
  have HS00 := Lib.hid S00
  clear CE CD CDs hA hB S0 S00 hT hd hz hm hsm
  go_enter Tryz.func4, Tryz.ntmps4
  go_wp2_with (fail)
  have S1 := HS00.out
  clear HS00
  generalize w.alloc (.cells d.cells.toArray 26) = w1 at *
  generalize w.heap.size = b2 at *
  go_upto_region 3 with (go_at_call 8; with_reducible refine (alive_any _ S1.tbl).mono ?_; rintro e w2 ⟨rfl, hc2⟩)
  have S2 := S1.next hc2
  clear S1 hc2 w1
  have r1 := S2.hd
  go_upto_region 4 with (first
    | (refine wpList_load_rowA rfl 26 (.tmp 2) rfl b2 rfl 26 d.cells _ r1 Tryz.underlying26 rfl size26 ?_)
    | (go_at_call 9; with_reducible refine (HE.out _).mono ?_; rintro e w3 ⟨rfl, hc3⟩))
  have S3 := S2.next hc3
  clear S2 hc3 w2 r1
  rcases HA.out with ⟨he, hk, hdec⟩ | ⟨he, hse, he1, he2⟩
  case' inl =>
    obtain ⟨o, ho⟩ : ∃ o, Hid (onlyD d = o) := ⟨_, rfl⟩
    rw [hdec, ho.out] at HDs
    have HO := Lib.hid (only_lit d o hk.1 hk.2 ho.out)
    clear hk hdec
    subst he
    go_upto_region 6 with (first
      | (go_at_call 13; with_reducible refine (HDs.out _).mono ?_; rintro e w4 ⟨rfl, hc4⟩)
      | (refine wpList_allocA rfl 26 rfl (.agg d0.cells.toArray) d0.cells zero26 rfl ?_; intro w5 hz5 hr5 hc5; clear hz5)
      | (refine wpList_store_rowA rfl 26 (.tmp 7) (.tmp 25) rfl _ o.cells rfl rfl 26 d0.cells hr5 size26 rfl (cells_one _) ?_; intro w6 hr6 hc6 hz6; clear hz6))
    have S6 := (S3.next hc4).put hc5 hc6 hr6
    clear S3 hc4 hc5 hc6 hr5 hr6
    generalize w4.heap.size = b7 at *
    clear w3 w4 w5
    go_cut [34] (fun v wx => v = .bool false ∧ Chg (fun _ => False) w6 wx)
    case first =>
     as_aux_lemma =>
     go_region_held3 (fun w' => w'.cell? ⟨b7, 0, none⟩ = some (.int .i64 o.kind) ∧ w'.cell? ⟨b7, 1, none⟩ = some (.string o.nonce) ∧ w'.cell? ⟨b7, 2, none⟩ = some (.int .u64 o.epoch) ∧ w'.cell? ⟨b7, 3, none⟩ = some (.string o.cookie) ∧ w'.cell? ⟨b7, 4, none⟩ = some (.string o.name) ∧ w'.cell? ⟨b7, 5, none⟩ = some (.int .u64 o.session) ∧ w'.cell? ⟨b7, 6, none⟩ = some (.int .i64 o.player) ∧ w'.cell? ⟨b7, 7, none⟩ = some (.string o.salt) ∧ w'.cell? ⟨b7, 8, none⟩ = some (.int .u64 o.seq) ∧ w'.cell? ⟨b7, 9, none⟩ = some (.int .i64 o.throttle) ∧ w'.cell? ⟨b7, 10, none⟩ = some (.int .i64 o.turn) ∧ w'.cell? ⟨b7, 11, none⟩ = some (.bool o.fire) ∧ w'.cell? ⟨b7, 12, none⟩ = some (.bool o.boost) ∧ w'.cell? ⟨b7, 13, none⟩ = some (.string o.data) ∧ w'.cell? ⟨b7, 14, none⟩ = some (.string o.tag) ∧ w'.cell? ⟨b2, 0, none⟩ = some (.int .i64 d.kind) ∧ w'.cell? ⟨b2, 1, none⟩ = some (.string d.nonce) ∧ w'.cell? ⟨b2, 2, none⟩ = some (.int .u64 d.epoch) ∧ w'.cell? ⟨b2, 3, none⟩ = some (.string d.cookie) ∧ w'.cell? ⟨b2, 4, none⟩ = some (.string d.name) ∧ w'.cell? ⟨b2, 5, none⟩ = some (.int .u64 d.session) ∧ w'.cell? ⟨b2, 6, none⟩ = some (.int .i64 d.player) ∧ w'.cell? ⟨b2, 7, none⟩ = some (.string d.salt) ∧ w'.cell? ⟨b2, 8, none⟩ = some (.int .u64 d.seq) ∧ w'.cell? ⟨b2, 9, none⟩ = some (.int .i64 d.throttle) ∧ w'.cell? ⟨b2, 10, none⟩ = some (.int .i64 d.turn) ∧ w'.cell? ⟨b2, 11, none⟩ = some (.bool d.fire) ∧ w'.cell? ⟨b2, 12, none⟩ = some (.bool d.boost) ∧ w'.cell? ⟨b2, 13, none⟩ = some (.string d.data) ∧ w'.cell? ⟨b2, 14, none⟩ = some (.string d.tag))
      (first
        | exact dg_cells2 S6.hd.drew S6.tl.hd.drew
        | exact dg_cells2 (S6.hd.drew.chg hc7 id) (S6.tl.hd.drew.chg hc7 id)
        | assumption)
      ((go_at_call 14; with_reducible refine (HO.out _).mono ?_; rintro e w7 ⟨rfl, hc7⟩))
     all_goals (go_wp2_with fail; go_meet; exact ⟨rfl, (Chg.refl _ _).drew.trans hc7⟩)
    case rest =>
     obtain ⟨rfl, hcc⟩ := hcut
     go_upto_region 10 with (fail)
     have S10 := (S6.next hcc).tl
     clear S6 hcc HO ho HDs HE hs HA w6
     rename_i wA
     go_upto_region 11 with (first
       | (go_at_call 13; with_reducible refine (HD.out _).mono ?_; rintro e w14 ⟨rfl, hc4⟩)
       | (refine wpList_allocA rfl 26 rfl (.agg d0.cells.toArray) d0.cells zero26 rfl ?_; intro w15 hz5 hr5 hc5; clear hz5)
       | (refine wpList_store_rowA rfl 26 (.tmp 9) (.tmp 48) rfl _ x.cells rfl rfl 26 d0.cells hr5 size26 rfl (cells_one _) ?_; intro w16 hr6 hc6 hz6; clear hz6))
     have S16 := (S10.next hc4).put hc5 hc6 hr6
     clear S10 hc4 hc5 hc6 hr5 hr6
     generalize w14.heap.size = b9 at *
     clear w14 w15
     rcases HB.out with ⟨hg, hxo, hxk, hxe, hxy, hxz, hxb⟩ | ⟨hg, hxd, hg1, hg2⟩
     · have hg0 : (g != 0) = false := by simp [hg]
       have hg00 : g = 0 := hg
       subst hg00
       have CX := encode_any x hxo hxz
       rw [hxe] at CX
       have HX := Lib.hid CX
       have HO2 := Lib.hid (only_lit x x hxk.1 hxk.2 hxy)
       have hbE : ((bodyOf data).toList.isEmpty = true ∧ x.kind ≤ 2) ∨ ((bodyOf data).toList.isEmpty = false ∧ ¬ x.kind ≤ 2) := by
         rw [isEmpty_of]
         by_cases h : x.kind ≤ 2
         · exact .inl ⟨decide_eq_true (hxb.2 h), h⟩
         · exact .inr ⟨decide_eq_false (fun e => h (hxb.1 e)), h⟩
       clear CX hxo hxk hxe hxy hxz hxb hg HB HD hx
       have r16 := S16.hd
       go_upto_region 14 with (first
         | (refine wpList_load_rowA rfl 26 (.tmp 9) rfl b9 rfl 26 x.cells _ r16 Tryz.underlying26 rfl size26 ?_)
         | (go_at_call 9; with_reducible refine (HX.out _).mono ?_; rintro e w17 ⟨rfl, hc17⟩))
       have S17 := S16.next hc17
       clear S16 hc17 r16 hg0
       generalize bodyOf data = bd at *
       rcases hbE with ⟨hb1, hb2⟩ | ⟨hb1, hb2⟩
       all_goals
         as_aux_lemma =>
         go_region_held3 (fun w' => w'.cell? ⟨b9, 0, none⟩ = some (.int .i64 x.kind) ∧ w'.cell? ⟨b9, 1, none⟩ = some (.string x.nonce) ∧ w'.cell? ⟨b9, 2, none⟩ = some (.int .u64 x.epoch) ∧ w'.cell? ⟨b9, 3, none⟩ = some (.string x.cookie) ∧ w'.cell? ⟨b9, 4, none⟩ = some (.string x.name) ∧ w'.cell? ⟨b9, 5, none⟩ = some (.int .u64 x.session) ∧ w'.cell? ⟨b9, 6, none⟩ = some (.int .i64 x.player) ∧ w'.cell? ⟨b9, 7, none⟩ = some (.string x.salt) ∧ w'.cell? ⟨b9, 8, none⟩ = some (.int .u64 x.seq) ∧ w'.cell? ⟨b9, 9, none⟩ = some (.int .i64 x.throttle) ∧ w'.cell? ⟨b9, 10, none⟩ = some (.int .i64 x.turn) ∧ w'.cell? ⟨b9, 11, none⟩ = some (.bool x.fire) ∧ w'.cell? ⟨b9, 12, none⟩ = some (.bool x.boost) ∧ w'.cell? ⟨b9, 13, none⟩ = some (.string x.data) ∧ w'.cell? ⟨b9, 14, none⟩ = some (.string x.tag))
           (first
             | exact dg_cells S17.hd.drew
             | assumption
             | exact dg_cells (S17.hd.drew.chg hc18 id))
           (first
             | (go_at_call 14; with_reducible refine (HO2.out _).mono ?_; rintro e w18 ⟨rfl, hc18⟩)
             | (go_at_call 15; with_reducible refine (HBody.out _).mono ?_; rintro e w19 ⟨rfl, rfl⟩))
         all_goals
           go_wp2_with fail
           go_ret
           first
             | exact ⟨rfl, S17.chg.trans ((Chg.refl _ _).drew.trans hc18)⟩
             | exact ⟨ret_eq (congrArg Value.bool (by simp; omega)), S17.chg.trans ((Chg.refl _ _).drew.trans hc18)⟩
     · as_aux_lemma =>
       subst hxd
       have h1 : (g != 0) = true := by simp [hg]
       have h2 : 70 ≤ g := hg1
       have h3 : g ≤ 73 := hg2
       clear hg hg1 hg2 HB HD hx
       obtain ⟨p0, p1, p2, p3, p4, p5, p6, p7, p8, p9, p10, p11, p12, p13, p14⟩ := d0_cells S16.hd
       go_wp2
       go_ret
       exact ⟨rfl, S16.chg⟩
  case' inr =>
     subst hse
     have e1 : (e == 0) = false := by simp [he]
     have e2 : ¬ e < 71 := by omega
     have e3 : ¬ 73 < e := by omega
     clear he he1 he2
     go_upto_region 10 with (fail)
     have S10 := S3
     clear S3 e1 e2 e3 HDs HE hs HA
     go_upto_region 11 with (first
       | (go_at_call 13; with_reducible refine (HD.out _).mono ?_; rintro e w14 ⟨rfl, hc4⟩)
       | (refine wpList_allocA rfl 26 rfl (.agg d0.cells.toArray) d0.cells zero26 rfl ?_; intro w15 hz5 hr5 hc5; clear hz5)
       | (refine wpList_store_rowA rfl 26 (.tmp 9) (.tmp 48) rfl _ x.cells rfl rfl 26 d0.cells hr5 size26 rfl (cells_one _) ?_; intro w16 hr6 hc6 hz6; clear hz6))
     have S16 := (S10.next hc4).put hc5 hc6 hr6
     clear S10 hc4 hc5 hc6 hr5 hr6
     generalize w14.heap.size = b9 at *
     clear w14 w15
     rcases HB.out with ⟨hg, hxo, hxk, hxe, hxy, hxz, hxb⟩ | ⟨hg, hxd, hg1, hg2⟩
     · have hg0 : (g != 0) = false := by simp [hg]
       have hg00 : g = 0 := hg
       subst hg00
       have CX := encode_any x hxo hxz
       rw [hxe] at CX
       have HX := Lib.hid CX
       have HO2 := Lib.hid (only_lit x x hxk.1 hxk.2 hxy)
       have hbE : ((bodyOf data).toList.isEmpty = true ∧ x.kind ≤ 2) ∨ ((bodyOf data).toList.isEmpty = false ∧ ¬ x.kind ≤ 2) := by
         rw [isEmpty_of]
         by_cases h : x.kind ≤ 2
         · exact .inl ⟨decide_eq_true (hxb.2 h), h⟩
         · exact .inr ⟨decide_eq_false (fun e => h (hxb.1 e)), h⟩
       clear CX hxo hxk hxe hxy hxz hxb hg HB HD hx
       have r16 := S16.hd
       go_upto_region 14 with (first
         | (refine wpList_load_rowA rfl 26 (.tmp 9) rfl b9 rfl 26 x.cells _ r16 Tryz.underlying26 rfl size26 ?_)
         | (go_at_call 9; with_reducible refine (HX.out _).mono ?_; rintro e w17 ⟨rfl, hc17⟩))
       have S17 := S16.next hc17
       clear S16 hc17 r16 hg0
       generalize bodyOf data = bd at *
       rcases hbE with ⟨hb1, hb2⟩ | ⟨hb1, hb2⟩
       all_goals
         as_aux_lemma =>
         go_region_held3 (fun w' => w'.cell? ⟨b9, 0, none⟩ = some (.int .i64 x.kind) ∧ w'.cell? ⟨b9, 1, none⟩ = some (.string x.nonce) ∧ w'.cell? ⟨b9, 2, none⟩ = some (.int .u64 x.epoch) ∧ w'.cell? ⟨b9, 3, none⟩ = some (.string x.cookie) ∧ w'.cell? ⟨b9, 4, none⟩ = some (.string x.name) ∧ w'.cell? ⟨b9, 5, none⟩ = some (.int .u64 x.session) ∧ w'.cell? ⟨b9, 6, none⟩ = some (.int .i64 x.player) ∧ w'.cell? ⟨b9, 7, none⟩ = some (.string x.salt) ∧ w'.cell? ⟨b9, 8, none⟩ = some (.int .u64 x.seq) ∧ w'.cell? ⟨b9, 9, none⟩ = some (.int .i64 x.throttle) ∧ w'.cell? ⟨b9, 10, none⟩ = some (.int .i64 x.turn) ∧ w'.cell? ⟨b9, 11, none⟩ = some (.bool x.fire) ∧ w'.cell? ⟨b9, 12, none⟩ = some (.bool x.boost) ∧ w'.cell? ⟨b9, 13, none⟩ = some (.string x.data) ∧ w'.cell? ⟨b9, 14, none⟩ = some (.string x.tag))
           (first
             | exact dg_cells S17.hd.drew
             | assumption
             | exact dg_cells (S17.hd.drew.chg hc18 id))
           (first
             | (go_at_call 14; with_reducible refine (HO2.out _).mono ?_; rintro e w18 ⟨rfl, hc18⟩)
             | (go_at_call 15; with_reducible refine (HBody.out _).mono ?_; rintro e w19 ⟨rfl, rfl⟩))
         all_goals
           go_wp2_with fail
           go_ret
           first
             | exact ⟨rfl, S17.chg.trans ((Chg.refl _ _).drew.trans hc18)⟩
             | exact ⟨ret_eq (congrArg Value.bool (by simp; omega)), S17.chg.trans ((Chg.refl _ _).drew.trans hc18)⟩
     · as_aux_lemma =>
       subst hxd
       have h1 : (g != 0) = true := by simp [hg]
       have h2 : 70 ≤ g := hg1
       have h3 : g ≤ 73 := hg2
       clear hg hg1 hg2 HB HD hx
       obtain ⟨p0, p1, p2, p3, p4, p5, p6, p7, p8, p9, p10, p11, p12, p13, p14⟩ := d0_cells S16.hd
       go_wp2
       go_ret
       exact ⟨rfl, S16.chg⟩
end Go.Proofs.YtejlffeiebfboaaGreatDoor.Law
