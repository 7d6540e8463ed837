/- The program's frame: Body, Seal, Sealed. -/
import Derived.Test.YtejlffeiebfboaaGreatDoorDec
import Derived.Test.YtejlffeiebfboaaGreatDoorSame
import Derived.Deep.RegionHeld3
set_option linter.unusedVariables false
set_option linter.unusedSimpArgs false
namespace Go.Proofs.YtejlffeiebfboaaGreatDoor.Get
open Go Go.RowKit Go.Proofs.YtejlffeiebfboaaGreatDoor.Mem Go.Proofs.YtejlffeiebfboaaGreatDoor.PackW Go.Proofs.YtejlffeiebfboaaGreatDoor.PackR Go.Proofs.YtejlffeiebfboaaGreatDoor.Put

/-- The kind that stands behind the magic. -/
def kind3 (s : ByteArray) : Int := ((bs s).getD 3 0).toNat
/-- frame.Body. -/
def bodyOf (s : ByteArray) : ByteArray :=
  if hasMagic s = false ∨ s.size < 36 ∨ ¬ (3 ≤ kind3 s ∧ kind3 s ≤ 7) then ⟨#[]⟩ else s.extract 0 (s.size - 32)
theorem kind3_get (t : ByteArray) (h : 3 < t.size) : wrap64 (((t[3]'h).toNat : Nat) : Int) = kind3 t := by
  have e : (bs t).getD 3 0 = t[3]'h := by
    have hl : 3 < (bs t).length := by rw [bs_length]; exact h
    rw [List.getD, List.getElem?_eq_getElem hl]; rfl
  unfold kind3
  rw [e]
  have := (t[3]'h).toNat_lt
  unfold wrap64
  omega
theorem hasPrefix_any (s : ByteArray) (w : World) : Calls Tryz.prog 37 #[.string s, .string ⟨#[74, 48, 49]⟩] w fun e w' => e = .returned (.bool (hasMagic s)) ∧ w = w' :=
  (Tryz.strings_HasPrefix s ⟨#[74, 48, 49]⟩ w).mono fun _ _ ⟨a, b⟩ => ⟨a, b.symm⟩

set_option maxRecDepth 100000 in
set_option maxHeartbeats 4000000 in
theorem body_any (s : ByteArray) (hs : s.size ≤ 9223372036854775807) (w : World) :
    Calls Tryz.prog 15 #[.string s] w fun e w' => e = .returned (.string (bodyOf s)) ∧ w = w' := by
  obtain ⟨R, hR⟩ : ∃ R, Hid (bodyOf s = R) := ⟨_, rfl⟩
  rw [hR.out]
  have key : (hasMagic s = false) ∨ (hasMagic s = true ∧ s.size < 36) ∨ (hasMagic s = true ∧ 36 ≤ s.size ∧ Hid (decide (3 ≤ kind3 s ∧ kind3 s ≤ 7) = false)) ∨ (hasMagic s = true ∧ 36 ≤ s.size ∧ Hid (decide (3 ≤ kind3 s ∧ kind3 s ≤ 7) = true)) := by
    cases hasMagic s
    · exact .inl rfl
    · right
      by_cases h : s.size < 36
      · exact .inl ⟨rfl, h⟩
      · right
        cases hd : decide (3 ≤ kind3 s ∧ kind3 s ≤ 7)
        · exact .inl ⟨rfl, by omega, rfl⟩
        · exact .inr ⟨rfl, by omega, rfl⟩
  have CP := Lib.hid (hasPrefix_any s)
  rcases key with h | ⟨h, hl⟩ | ⟨h, hl, hk⟩ | ⟨h, hl, hk⟩
  · have hRe : Hid (R = ⟨#[]⟩) := by show _ = _; rw [← hR.out]; unfold bodyOf; rw [if_pos (.inl h)]
    rw [h] at CP
    clear h
    go_enter Tryz.func15, Tryz.ntmps15
    go_wp2_with (go_at_call 37; with_reducible refine (CP.out _).mono ?_; rintro e w' ⟨rfl, rfl⟩)
    go_ret
    exact ⟨by rw [hRe.out]; rfl, rfl⟩
  · have hRe : Hid (R = ⟨#[]⟩) := by show _ = _; rw [← hR.out]; unfold bodyOf; rw [if_pos (.inr (.inl hl))]
    have hlI : (s.size : Int) < 36 := by omega
    rw [h] at CP
    clear h
    go_enter Tryz.func15, Tryz.ntmps15
    go_wp2_with (go_at_call 37; with_reducible refine (CP.out _).mono ?_; rintro e w' ⟨rfl, rfl⟩)
    go_ret
    exact ⟨by rw [hRe.out]; rfl, rfl⟩
  · have hRe : Hid (R = ⟨#[]⟩) := by show _ = _; rw [← hR.out]; unfold bodyOf; rw [if_pos (.inr (.inr (of_decide_eq_false hk.out)))]
    have hlI : ¬ (s.size : Int) < 36 := by omega
    have h3 : 3 < s.size := by omega
    have CK : Hid (∀ w, Calls Tryz.prog 29 #[.int .i64 (wrap64 (((s[3]'h3).toNat : Nat) : Int))] w fun e w' => e = .returned (.bool false) ∧ w = w') := by
      intro w; rw [kind3_get s h3, ← hk.out]; exact tagged_any (kind3 s) w
    rw [h] at CP
    clear h
    go_enter Tryz.func15, Tryz.ntmps15
    go_wp2_with (first
      | (go_at_call 37; with_reducible refine (CP.out _).mono ?_; rintro e w' ⟨rfl, rfl⟩)
      | (go_at_call 29; with_reducible refine (CK.out _).mono ?_; rintro e w' ⟨rfl, rfl⟩))
    go_ret
    exact ⟨by rw [hRe.out]; rfl, rfl⟩
  · have hRe : Hid (R = s.extract 0 (s.size - 32)) := by
      show _ = _; rw [← hR.out]; unfold bodyOf
      have := of_decide_eq_true hk.out
      rw [if_neg (by rw [h]; simp; omega)]
    have hlI : ¬ (s.size : Int) < 36 := by omega
    have h3 : 3 < s.size := by omega
    have CK : Hid (∀ w, Calls Tryz.prog 29 #[.int .i64 (wrap64 (((s[3]'h3).toNat : Nat) : Int))] w fun e w' => e = .returned (.bool true) ∧ w = w') := by
      intro w; rw [kind3_get s h3, ← hk.out]; exact tagged_any (kind3 s) w
    rw [h] at CP
    clear h
    go_enter Tryz.func15, Tryz.ntmps15
    go_wp2_with (first
      | (go_at_call 37; with_reducible refine (CP.out _).mono ?_; rintro e w' ⟨rfl, rfl⟩)
      | (go_at_call 29; with_reducible refine (CK.out _).mono ?_; rintro e w' ⟨rfl, rfl⟩))
    go_ret
    exact ⟨by rw [hRe.out]; rfl, rfl⟩

/-- SHA-256's table lies where the program's text lays it. -/
structure Tbl (w : World) : Prop where
  tab : Mix.Tab w
  lt : 0 < w.heap.size
theorem Tbl.chg {w w' : World} (h : Tbl w) (hc : Chg (fun _ => False) w w') : Tbl w' := ⟨ShaWalk.Tab.chg h.tab hc id, Nat.lt_of_lt_of_le h.lt hc.size⟩
theorem Tbl.drew {w : World} (h : Tbl w) : Tbl w.drew := h.chg (Chg.refl _ _).drew
theorem tagT_any (key text : ByteArray) (w : World) (hT : Tbl w) (hk : key.size < 300000000000000000) (ht : text.size < 300000000000000000) :
    Calls Tryz.prog 18 #[.string key, .string text] w fun e w' => e = .returned (.string (Mac.tagB key text)) ∧ Chg (fun _ => False) w w' :=
  Mac.tag_any key text w hT.tab hT.lt hk ht

theorem tagB_size (key t : ByteArray) : (Mac.tagB key t).size = 32 := rfl
/-- Thirty-two zeros. -/
def zeros32 : ByteArray := ⟨(Lib.repeatL [0] 32).toArray⟩
/-- frame.Seal. -/
def sealF (d : DG) (key : ByteArray) : ByteArray × Int :=
  if ¬ (3 ≤ d.kind ∧ d.kind ≤ 7) then (⟨#[]⟩, 71)
  else if (encode { d with tag := zeros32 }).2 ≠ 0 then (⟨#[]⟩, (encode { d with tag := zeros32 }).2)
  else (bodyOf (encode { d with tag := zeros32 }).1 ++ Mac.tagB key (bodyOf (encode { d with tag := zeros32 }).1), 0)
theorem row_tag {w : World} {b : Nat} {T : TypeId} {d : DG} (h : Row w b T d.cells) (z : ByteArray) : Row (w.setCell ⟨b, 14, none⟩ (.string z)) b T { d with tag := z }.cells := h.set 14 _
theorem row_c14 {w : World} {b : Nat} {T : TypeId} {d : DG} (h : Row w b T d.cells) : w.cell? ⟨b, 14, none⟩ = some (.string d.tag) := h.cell 14
theorem none_size : (⟨#[]⟩ : ByteArray).size ≤ 1200 := by decide
theorem encode_size (d : DG) : (encode d).1.size ≤ 1200 := by
  unfold encode
  split
  · unfold encR
    split
    · exact none_size
    · split
      · exact none_size
      · split
        · exact none_size
        · show (doneS _).1.size ≤ 1200; omega
  · exact none_size
theorem bodyOf_size (s : ByteArray) : (bodyOf s).size ≤ s.size := by
  unfold bodyOf; split
  · exact Nat.zero_le _
  · simp

set_option maxRecDepth 100000 in
set_option maxHeartbeats 4000000 in
theorem seal_any (d : DG) (key : ByteArray) (hd : d.Ok) (hz : 4 + sizeF { d with tag := zeros32 } (flds d.kind) ≤ 140737488355328) (hk : key.size < 300000000000000000) (w : World) (hT : Tbl w) :
    Calls Tryz.prog 11 #[.agg d.cells.toArray, .string key] w fun e w' => e = .returned (.tuple #[.string (sealF d key).1, .int .i64 (sealF d key).2]) ∧ Chg (fun _ => False) w w' := by
  obtain ⟨R, hR⟩ : ∃ R, Hid (sealF d key = R) := ⟨_, rfl⟩
  rw [hR.out]
  have hcl : d.cells.toArray = #[.int .i64 d.kind, .string d.nonce, .int .u64 d.epoch, .string d.cookie, .string d.name, .int .u64 d.session, .int .i64 d.player, .string d.salt, .int .u64 d.seq, .int .i64 d.throttle, .int .i64 d.turn, .bool d.fire, .bool d.boost, .string d.data, .string d.tag] := rfl
  cases hb : decide (3 ≤ d.kind ∧ d.kind ≤ 7) with
  | false =>
    have hRe : Hid (R = (⟨#[]⟩, 71)) := by show _ = _; rw [← hR.out]; unfold sealF; rw [if_pos (of_decide_eq_false hb)]
    have C : Hid (∀ w, Calls Tryz.prog 29 #[.int .i64 d.kind] w fun e w' => e = .returned (.bool false) ∧ w = w') := by
      intro w; rw [← hb]; exact tagged_any d.kind w
    rw [hcl]
    clear hb hcl
    go_enter Tryz.func11, Tryz.ntmps11
    go_wp2_with (go_at_call 29; with_reducible refine (C.out _).mono ?_; rintro e w1 ⟨rfl, rfl⟩)
    go_ret2
    exact ⟨by rw [hRe.out]; rfl, (Chg.refl _ _).alloc _⟩
  | true =>
    have C : Hid (∀ w, Calls Tryz.prog 29 #[.int .i64 d.kind] w fun e w' => e = .returned (.bool true) ∧ w = w') := by
      intro w; rw [← hb]; exact tagged_any d.kind w
    have CR : Hid (∀ w : World, Calls Tryz.prog 30 #[.string ⟨#[0]⟩, .int .i64 32] w fun e w' => e = .returned (.string zeros32) ∧ Chg (fun _ => False) w w') := by
      intro w
      exact (Tryz.strings_Repeat ⟨#[0]⟩ 32 w (by decide) (by decide)).mono fun _ _ ⟨a, b⟩ => ⟨a, Chg.of_below b⟩
    obtain ⟨d3, hd3⟩ : ∃ d3 : DG, Hid ({ d with tag := zeros32 } = d3) := ⟨_, rfl⟩
    have hE := encode_any { d with tag := zeros32 } ⟨hd.epoch, hd.session, hd.seq, hd.kind, hd.player, hd.throttle, hd.turn⟩ hz
    have hzs : (encode { d with tag := zeros32 }).1.size ≤ 1200 := encode_size _
    obtain ⟨s, hs⟩ : ∃ s, Hid ((encode { d with tag := zeros32 }).1 = s) := ⟨_, rfl⟩
    obtain ⟨x, hx⟩ : ∃ x, Hid ((encode { d with tag := zeros32 }).2 = x) := ⟨_, rfl⟩
    rw [hs.out] at hzs
    rw [hs.out, hx.out, hd3.out] at hE
    have HE := Lib.hid hE
    have HD := Lib.hid (of_decide_eq_true hb)
    have hbz := bodyOf_size s
    have hsI : s.size ≤ 9223372036854775807 := by omega
    have CB := Lib.hid (body_any s hsI)
    obtain ⟨t, ht⟩ : ∃ t, Hid (bodyOf s = t) := ⟨_, rfl⟩
    rw [ht.out] at CB hbz
    have hts : t.size + (Mac.tagB key t).size ≤ 9223372036854775807 := by rw [tagB_size]; omega
    have hRR : Hid (R = if x ≠ 0 then (⟨#[]⟩, x) else (t ++ Mac.tagB key t, 0)) := by
      show _ = _
      rw [← hR.out, ← ht.out, ← hs.out, ← hx.out]; unfold sealF; rw [if_neg (by have := HD.out; omega)]
    have HTT := Lib.hid (show t.size < 300000000000000000 by omega)
    have HK := Lib.hid hk
    have HT0 := Lib.hid hT
    rw [hcl]
    clear hb hcl hE hzs hbz hsI hk hT hd hz
    go_enter Tryz.func11, Tryz.ntmps11
    go_wp2_with (go_at_call 29; with_reducible refine (C.out _).mono ?_; rintro e w1 ⟨rfl, rfl⟩)
    have hr := Row.alloc_new w 26 d.cells
    have hc0 : Chg (fun _ => False) w (w.alloc (.cells d.cells.toArray 26)) := (Chg.refl _ _).alloc _
    have hcl : d.cells.toArray = #[.int .i64 d.kind, .string d.nonce, .int .u64 d.epoch, .string d.cookie, .string d.name, .int .u64 d.session, .int .i64 d.player, .string d.salt, .int .u64 d.seq, .int .i64 d.throttle, .int .i64 d.turn, .bool d.fire, .bool d.boost, .string d.data, .string d.tag] := rfl
    rw [hcl] at hr hc0
    clear hcl
    generalize w.alloc (.cells #[.int .i64 d.kind, .string d.nonce, .int .u64 d.epoch, .string d.cookie, .string d.name, .int .u64 d.session, .int .i64 d.player, .string d.salt, .int .u64 d.seq, .int .i64 d.throttle, .int .i64 d.turn, .bool d.fire, .bool d.boost, .string d.data, .string d.tag] 26) = w0 at *
    have HWB : Hid (∀ w', Chg (fun k => k = w.heap.size) w w' → Chg (fun _ => False) w w') := fun w' h => h.mono (fun k hk hk2 => by omega)
    have HT1 := Lib.hid (HT0.out.chg hc0)
    have HNB : Hid (0 ≠ w.heap.size) := by show _ ≠ _; have := HT0.out.lt; omega
    have HC0 := Lib.hid hc0
    clear HT0 hc0
    generalize w.heap.size = b at *
    have hkey : (x != 0) = true ∨ (x != 0) = false := by cases (x != 0) <;> simp
    with_reducible refine (CR.out _).mono ?_
    rintro e w2 ⟨rfl, hc2⟩
    have hr2 := hr.chg hc2 id
    have f14 := hr2.frozen 14
    have c14 := row_c14 hr2
    have hr3 := row_tag hr2 zeros32
    rw [hd3.out] at hr3
    have HT2 := Lib.hid (HT1.out.chg hc2)
    have HC2 := Lib.hid ((HC0.out.trans hc2).mono (G := fun k => k = b) (fun _ _ h => h.elim))
    have HS2 := Lib.hid (Chg.setCell (F := fun k => k = b) (Chg.refl _ w2) ⟨b, 14, none⟩ (.string zeros32) (fun _ => rfl))
    have hbr := HNB.out
    have HT3 : Hid (Tbl (w2.setCell ⟨b, 14, none⟩ (.string zeros32))) := ⟨ShaWalk.Tab.chg HT2.out.tab HS2.out hbr, Nat.lt_of_lt_of_le HT2.out.lt HS2.out.size⟩
    clear hbr hr hr2 hc2 HT1 HC0 HT2
    rcases hkey with hb1 | hb1
    · have hRe : R = (⟨#[]⟩, x) := by rw [hRR.out]; have hb3 : x ≠ 0 := by simpa using hb1
                                      rw [if_pos hb3]
      have HRe := Lib.hid hRe
      clear hRe
      go_wp2_with (first
        | (refine wpList_load_rowA rfl 26 (.tmp 2) rfl b rfl 26 d3.cells _ hr3 Tryz.underlying26 rfl size26 ?_)
        | (go_at_call 9; with_reducible refine (HE.out _).mono ?_; rintro e w3 ⟨rfl, hc3⟩))
      go_ret2
      exact ⟨ret2_eq HRe.out, HWB.out _ ((HC2.out.trans HS2.out).trans (hc3.mono (fun _ _ h => h.elim)))⟩
    · have hRe : R = (t ++ Mac.tagB key t, 0) := by rw [hRR.out]; have hb3 : x = 0 := by simpa using hb1
                                                    rw [if_neg (by simp [hb3])]
      have HRe := Lib.hid hRe
      clear hRe
      go_wp2_with (first
        | (refine wpList_load_rowA rfl 26 (.tmp 2) rfl b rfl 26 d3.cells _ hr3 Tryz.underlying26 rfl size26 ?_)
        | (go_at_call 9; with_reducible refine (HE.out _).mono ?_; rintro e w3 ⟨rfl, hc3⟩)
        | (go_at_call 15; with_reducible refine (CB.out _).mono ?_; rintro e w4 ⟨rfl, rfl⟩)
        | (go_at_call 18; with_reducible refine (tagT_any key t _ (Tbl.chg HT3.out hc3) HK.out HTT.out).mono ?_; rintro e w5 ⟨rfl, hc5⟩))
      go_ret2
      exact ⟨ret2_eq HRe.out, HWB.out _ ((HC2.out.trans HS2.out).trans ((hc3.trans hc5).mono (fun _ _ h => h.elim)))⟩

theorem sealF_size (d : DG) (key : ByteArray) : (sealF d key).1.size ≤ 1232 := by
  unfold sealF
  split
  · exact Nat.le_trans none_size (by decide)
  · split
    · exact Nat.le_trans none_size (by decide)
    · have h1 := encode_size { d with tag := zeros32 }
      have h2 := bodyOf_size (encode { d with tag := zeros32 }).1
      show (_ ++ _ : ByteArray).size ≤ 1232
      rw [ByteArray.size_append, tagB_size]; omega
/-- frame.Sealed. -/
def sealedF (s key : ByteArray) : Bool :=
  if (bodyOf s).size = 0 then false else decide (s.extract (bodyOf s).size s.size = Mac.tagB key (bodyOf s))

set_option maxRecDepth 100000 in
set_option maxHeartbeats 4000000 in
theorem sealed_any (s key : ByteArray) (hs : s.size < 300000000000000000) (hk : key.size < 300000000000000000) (w : World) (hT : Tbl w) :
    Calls Tryz.prog 19 #[.string s, .string key] w fun e w' => e = .returned (.bool (sealedF s key)) ∧ Chg (fun _ => False) w w' := by
  have CB := Lib.hid (body_any s (by omega))
  have hbz := bodyOf_size s
  obtain ⟨R, hR⟩ : ∃ R, Hid (sealedF s key = R) := ⟨_, rfl⟩
  rw [hR.out]
  unfold sealedF at hR
  generalize bodyOf s = t at *
  by_cases h0 : t.size = 0
  · have he : t.toList.isEmpty = true := by rw [isEmpty_of]; simp [h0]
    rw [if_pos h0] at hR
    clear h0 hT
    go_enter Tryz.func19, Tryz.ntmps19
    go_wp2_with (go_at_call 15; with_reducible refine (CB.out _).mono ?_; rintro e w4 ⟨rfl, rfl⟩)
    go_quiet (fail)
    go_wp2
    go_ret
    exact ⟨ret_eq (by rw [← hR.out]; rfl), (Chg.refl _ _).drewN _⟩
  · have he : t.toList.isEmpty = false := by rw [isEmpty_of]; exact decide_eq_false h0
    rw [if_neg h0] at hR
    have HT := Lib.hid hT
    have HTS := Lib.hid (show t.size < 300000000000000000 by omega)
    have HK := Lib.hid hk
    have hxz : (s.extract t.size s.size).size < 300000000000000000 := by simp; omega
    have hbI : (t.size : Int) ≤ (s.size : Int) := by omega
    have h0I : (0 : Int) ≤ (t.size : Int) := by omega
    have HXZ := Lib.hid hxz
    have HY := Lib.hid (show (Mac.tagB key t).size < 300000000000000000 by rw [tagB_size]; omega)
    clear h0 hT hk hxz
    go_enter Tryz.func19, Tryz.ntmps19
    go_wp2_with (go_at_call 15; with_reducible refine (CB.out _).mono ?_; rintro e w4 ⟨rfl, rfl⟩)
    go_region_held3 (fun w' => True) (trivial) (first
      | (go_at_call 18; with_reducible refine (tagT_any key t _ (Tbl.drew HT.out) HK.out HTS.out).mono ?_; rintro e w5 ⟨rfl, hc5⟩)
      | (go_at_call 39; with_reducible refine (Mac.same_any _ _ _ HXZ.out HY.out).mono ?_; rintro e w6 ⟨rfl, hc6⟩))
    all_goals
      go_wp2_with fail
      go_ret
      exact ⟨ret_eq (by rw [← hR.out]; rfl), (Chg.refl _ _).drew.trans (hc5.trans hc6)⟩
end Go.Proofs.YtejlffeiebfboaaGreatDoor.Get
