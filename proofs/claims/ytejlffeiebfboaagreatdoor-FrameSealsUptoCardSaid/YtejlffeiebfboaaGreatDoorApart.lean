/- FrameApart: what was answered for one datagram is the same behind others (the statement's second form: what comes in is of bulk at most 1048576). -/
import Derived.Test.YtejlffeiebfboaaGreatDoorLaid
import Derived.Test.YtejlffeiebfboaaGreatDoorOpen
import Derived.Test.YtejlffeiebfboaaGreatDoorAlive
import Derived.Test.YtejlffeiebfboaaGreatDoorCards
import Derived.Test.YtejlffeiebfboaaGreatDoorTie
set_option linter.unusedVariables false
set_option linter.unusedSimpArgs false
namespace Go.Proofs.YtejlffeiebfboaaGreatDoor.Law
open Go Go.RowKit Go.WideShapes Go.ChangeShapes Go.ChangeAt Go.Proofs.YtejlffeiebfboaaGreatDoor.Mem Go.Proofs.YtejlffeiebfboaaGreatDoor.PackW Go.Proofs.YtejlffeiebfboaaGreatDoor.Put Go.Proofs.YtejlffeiebfboaaGreatDoor.Get

/-- What a law's walk carries: from w on nothing that was there has turned; the tables; some blocks that hold datagrams. -/
structure Stt (w wi : World) (L : List (Nat × DG)) : Prop where
  chg : Chg (fun _ => False) w wi
  tbl : Tbl wi
  rows : ∀ x ∈ L, Row wi x.1 26 x.2.cells
theorem Stt.next {w wi wj : World} {L : List (Nat × DG)} (h : Stt w wi L) (hc : Chg (fun _ => False) wi wj) : Stt w wj L := ⟨h.chg.trans hc, h.tbl.chg hc, fun x hx => (h.rows x hx).chg hc id⟩
theorem Stt.put {w wi wj wk : World} {L : List (Nat × DG)} {d : DG} (h : Stt w wi L) (hc : Chg (fun _ => False) wi wj) (k : Chg (· = wi.heap.size) wj wk) (hr : Row wk wi.heap.size 26 d.cells) : Stt w wk ((wi.heap.size, d) :: L) := by
  have hc2 : Chg (fun _ => False) wi wk := hc.then k (fun i hi e => by subst e; exact absurd hi (Nat.lt_irrefl _))
  refine ⟨h.chg.trans hc2, h.tbl.chg hc2, fun x hx => ?_⟩
  rcases List.mem_cons.1 hx with rfl | hx
  · exact hr
  · exact (h.rows x hx).chg hc2 id
theorem Stt.box {w wi : World} {L : List (Nat × DG)} (h : Stt w wi L) (d : DG) : Stt w (wi.alloc (.cells d.cells.toArray 26)) ((wi.heap.size, d) :: L) := by
  have hc2 : Chg (fun _ => False) wi (wi.alloc (.cells d.cells.toArray 26)) := (Chg.refl _ _).alloc _
  refine ⟨h.chg.trans hc2, h.tbl.chg hc2, fun x hx => ?_⟩
  rcases List.mem_cons.1 hx with rfl | hx
  · exact Row.alloc_new _ _ _
  · exact (h.rows x hx).chg hc2 id
theorem Stt.hd {w wi : World} {L : List (Nat × DG)} {b : Nat} {d : DG} (h : Stt w wi ((b, d) :: L)) : Row wi b 26 d.cells := h.rows (b, d) (by simp)
theorem Stt.tl {w wi : World} {L : List (Nat × DG)} {x : Nat × DG} (h : Stt w wi (x :: L)) : Stt w wi L := ⟨h.chg, h.tbl, fun y hy => h.rows y (by simp [hy])⟩

theorem dg_cells {w : World} {b : Nat} {T : TypeId} {d : DG} (h : Row w b T d.cells) : w.cell? ⟨b, 0, none⟩ = some (.int .i64 d.kind) ∧ w.cell? ⟨b, 1, none⟩ = some (.string d.nonce) ∧ w.cell? ⟨b, 2, none⟩ = some (.int .u64 d.epoch) ∧ w.cell? ⟨b, 3, none⟩ = some (.string d.cookie) ∧ w.cell? ⟨b, 4, none⟩ = some (.string d.name) ∧ w.cell? ⟨b, 5, none⟩ = some (.int .u64 d.session) ∧ w.cell? ⟨b, 6, none⟩ = some (.int .i64 d.player) ∧ w.cell? ⟨b, 7, none⟩ = some (.string d.salt) ∧ w.cell? ⟨b, 8, none⟩ = some (.int .u64 d.seq) ∧ w.cell? ⟨b, 9, none⟩ = some (.int .i64 d.throttle) ∧ w.cell? ⟨b, 10, none⟩ = some (.int .i64 d.turn) ∧ w.cell? ⟨b, 11, none⟩ = some (.bool d.fire) ∧ w.cell? ⟨b, 12, none⟩ = some (.bool d.boost) ∧ w.cell? ⟨b, 13, none⟩ = some (.string d.data) ∧ w.cell? ⟨b, 14, none⟩ = some (.string d.tag) :=
  ⟨h.cell 0, h.cell 1, h.cell 2, h.cell 3, h.cell 4, h.cell 5, h.cell 6, h.cell 7, h.cell 8, h.cell 9, h.cell 10, h.cell 11, h.cell 12, h.cell 13, h.cell 14⟩

set_option maxRecDepth 100000 in
set_option maxHeartbeats 8000000 in
theorem apart_any (a b : DG) (key : ByteArray) (ha : a.Ok) (hb : b.Ok) (hza : 4 + sizeF { a with tag := zeros32 } (flds a.kind) ≤ 140737488355328) (hzb : 4 + sizeF { b with tag := zeros32 } (flds b.kind) ≤ 140737488355328) (hk : key.size < 300000000000000000)
    (hlaw : (sealF b key).2 = 0 → (Get.decode (sealF b key).1).2 = 0 ∧ (Get.decode (sealF b key).1).1.kind = b.kind) (w : World) (hT : Tbl w) :
    Calls Tryz.prog 7 #[.agg a.cells.toArray, .agg b.cells.toArray, .string key] w fun e w' => e = .returned (.bool true) ∧ Chg (fun _ => False) w w' := by
  have S0 : Stt w w [] := ⟨Chg.refl _ _, hT, fun x hx => absurd hx (by simp)⟩
  have S00 := (S0.box a).box b
  have hsz : (w.alloc (.cells a.cells.toArray 26)).heap.size = w.heap.size + 1 := by simp
  rw [hsz] at S00
  have CA := seal_any a key ha hza hk
  have CB := seal_any b key hb hzb hk
  have hsa : ∃ s e, Hid (sealF a key = (s, e)) ∧ s.size ≤ 9223372036854775807 := ⟨(sealF a key).1, (sealF a key).2, rfl, by have := sealF_size a key; omega⟩
  have hsb : ∃ s e, Hid (sealF b key = (s, e)) ∧ s.size ≤ 9223372036854775807 := ⟨(sealF b key).1, (sealF b key).2, rfl, by have := sealF_size b key; omega⟩
  obtain ⟨s, e, hs, hsm⟩ := hsa
  obtain ⟨t, g, ht, htm⟩ := hsb
  rw [hs.out] at CA
  rw [ht.out] at CB hlaw
  have CDs := decode_any s hsm
  have CDt := decode_any t htm
  obtain ⟨d, f, hd⟩ : ∃ d f, Hid (Get.decode s = (d, f)) := ⟨_, _, rfl⟩
  obtain ⟨x, h, hx⟩ : ∃ x h, Hid (Get.decode t = (x, h)) := ⟨_, _, rfl⟩
  rw [hd.out] at CDs
  rw [hx.out] at CDt hlaw
  have HA := Lib.hid CA
  have HB := Lib.hid CB
  have HDs := Lib.hid CDs
  have HDt := Lib.hid CDt
  have HS00 := Lib.hid S00
  have HL := Lib.hid hlaw
  clear CA CB CDs CDt S0 S00 hsz hT ha hb hza hzb hk hsm htm hlaw
  go_enter Tryz.func7, Tryz.ntmps7
  go_wp2_with (fail)
  have S1 := HS00.out
  clear HS00
  generalize (w.alloc (.cells a.cells.toArray 26)).alloc (.cells b.cells.toArray 26) = w1 at *
  generalize w.heap.size + 1 = bb at *
  generalize w.heap.size = ba at *
  go_upto_region 3 with (go_at_call 8; with_reducible refine (alive_any _ S1.tbl).mono ?_; rintro e w2 ⟨rfl, hc2⟩)
  have S2 := S1.next hc2
  clear S1 hc2 w1
  have r1 := S2.tl.hd
  go_upto_region 4 with (first
    | (refine wpList_load_rowA rfl 26 (.tmp 3) rfl ba rfl 26 a.cells _ r1 Tryz.underlying26 rfl size26 ?_)
    | (go_at_call 11; with_reducible refine (HA.out _ S2.tbl).mono ?_; rintro e w3 ⟨rfl, hc3⟩))
  have S3 := S2.next hc3
  clear S2 hc3 w2 r1
  go_upto_region 5 with (first
    | (go_at_call 13; with_reducible refine (HDs.out _).mono ?_; rintro e w4 ⟨rfl, hc4⟩)
    | (refine wpList_allocA rfl 26 rfl (.agg d0.cells.toArray) d0.cells zero26 rfl ?_; intro w5 hz5 hr5 hc5; clear hz5)
    | (refine wpList_store_rowA rfl 26 (.tmp 9) (.tmp 32) rfl _ d.cells rfl rfl 26 d0.cells hr5 size26 rfl (cells_one d) ?_; intro w6 hr6 hc6 hz6; clear hz6))
  have S6 := (S3.next hc4).put hc5 hc6 hr6
  clear S3 hc4 hc5 hc6 hr5 hr6
  generalize w4.heap.size = b9 at *
  clear w3 w4 w5
  have r6 := S6.tl.hd
  go_upto_region 6 with (first
    | (refine wpList_load_rowA rfl 26 (.tmp 4) rfl bb rfl 26 b.cells _ r6 Tryz.underlying26 rfl size26 ?_)
    | (go_at_call 11; with_reducible refine (HB.out _ S6.tbl).mono ?_; rintro e w6a ⟨rfl, hc6⟩))
  have S6a := S6.next hc6
  clear S6 hc6 r6
  clear w6
  go_upto_region 7 with (first
    | (go_at_call 13; with_reducible refine (HDt.out _).mono ?_; rintro e w7b ⟨rfl, hd7⟩)
    | (refine wpList_allocA rfl 26 rfl (.agg d0.cells.toArray) d0.cells zero26 rfl ?_; intro w7c hz5 hr5 he7; clear hz5)
    | (refine wpList_store_rowA rfl 26 (.tmp 13) (.tmp 43) rfl _ x.cells rfl rfl 26 d0.cells hr5 size26 rfl (cells_one x) ?_; intro w7d hr6 hf7 hz6; clear hz6))
  have S7b := (S6a.next hd7).put he7 hf7 hr6
  clear S6a hd7 he7 hf7 hr5 hr6
  generalize w7b.heap.size = b13 at *
  clear w7b w7c
  clear w6a
  have r8 := S7b.tl.tl.tl.hd
  go_upto_region 8 with (first
    | (refine wpList_load_rowA rfl 26 (.tmp 3) rfl ba rfl 26 a.cells _ r8 Tryz.underlying26 rfl size26 ?_)
    | (go_at_call 11; with_reducible refine (HA.out _ S7b.tbl).mono ?_; rintro e w8a ⟨rfl, hc8⟩))
  have S8a := S7b.next hc8
  clear S7b hc8 r8
  clear w7d
  go_upto_region 9 with (first
    | (go_at_call 13; with_reducible refine (HDs.out _).mono ?_; rintro e w9b ⟨rfl, hd9⟩)
    | (refine wpList_allocA rfl 26 rfl (.agg d0.cells.toArray) d0.cells zero26 rfl ?_; intro w9c hz5 hr5 he9; clear hz5)
    | (refine wpList_store_rowA rfl 26 (.tmp 17) (.tmp 54) rfl _ d.cells rfl rfl 26 d0.cells hr5 size26 rfl (cells_one d) ?_; intro w9d hr6 hf9 hz6; clear hz6))
  have S9b := (S8a.next hd9).put he9 hf9 hr6
  clear S8a hd9 he9 hf9 hr5 hr6
  generalize w9b.heap.size = b17 at *
  clear w9b w9c
  clear w8a
  have r10 := S9b.tl.tl.tl.hd
  go_upto_region 10 with (first
    | (refine wpList_load_rowA rfl 26 (.tmp 4) rfl bb rfl 26 b.cells _ r10 Tryz.underlying26 rfl size26 ?_)
    | (go_at_call 11; with_reducible refine (HB.out _ S9b.tbl).mono ?_; rintro e w10a ⟨rfl, hc10⟩))
  have S10a := S9b.next hc10
  clear S9b hc10 r10
  clear w9d
  obtain ⟨p0, p1, p2, p3, p4, p5, p6, p7, p8, p9, p10, p11, p12, p13, p14⟩ := dg_cells S10a.tl.tl.hd
  obtain ⟨q0, q1, q2, q3, q4, q5, q6, q7, q8, q9, q10, q11, q12, q13, q14⟩ := dg_cells S10a.hd
  have x0 := cell_hd S10a.tl.hd
  have y0 := cell_hd S10a.tl.tl.tl.hd
  have SC := Lib.hid S10a.chg
  clear S10a
  by_cases hg : g = 0
  · obtain ⟨hh, hkk⟩ := HL.out hg
    have h1 : (g != 0) = false := by simp [hg]
    have h2 : (h == 0) = true := by simp [hh]
    have h3 : (x.kind == b.kind) = true := by simp [hkk]
    clear hg hh hkk
    go_wp2
    go_ret
    exact ⟨rfl, SC.out⟩
  · have h1 : (g != 0) = true := by simp [hg]
    clear hg
    go_wp2
    go_ret
    exact ⟨rfl, SC.out⟩
end Go.Proofs.YtejlffeiebfboaaGreatDoor.Law
