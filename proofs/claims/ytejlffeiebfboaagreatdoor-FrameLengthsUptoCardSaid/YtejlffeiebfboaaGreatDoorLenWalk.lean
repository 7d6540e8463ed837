/- FrameLengths' walk. -/
import Derived.Test.YtejlffeiebfboaaGreatDoorApart
import Derived.Test.YtejlffeiebfboaaGreatDoorLenLaw
import Derived.Deep.RegionHeld3
set_option linter.unusedVariables false
set_option linter.unusedSimpArgs false
namespace Go.Proofs.YtejlffeiebfboaaGreatDoor.Law
open Go Go.RowKit Go.Proofs.YtejlffeiebfboaaGreatDoor.Mem Go.Proofs.YtejlffeiebfboaaGreatDoor.PackW Go.Proofs.YtejlffeiebfboaaGreatDoor.Put Go.Proofs.YtejlffeiebfboaaGreatDoor.Get

theorem conv_at (b v : Nat) (hv : v < 256) (w : World) (h : w.cell? ⟨b, 0, none⟩ = some (.int .u8 (v : Int))) : (convert 38 9 (.slice (some ⟨b, 0, none⟩) 1 1)).run Tryz.prog w = .ok (.string ⟨#[UInt8.ofNat v]⟩) w := by
  have hS : SlB w (fun _ => True) (.slice (some ⟨b, 0, none⟩) 1 1) [UInt8.ofNat v] := by
    refine ⟨_, 1, rfl, by simp, fun _ => ⟨b, 0, rfl, trivial, fun j hj => ?_⟩⟩
    have hj0 : j = 0 := by simpa using hj
    subst hj0
    rw [Nat.zero_add, h]
    simp; omega
  exact run_string_of 38 9 5 Tryz.underlying38 Tryz.underlying5 Tryz.underlying9 (fun _ => True) _ _ hS

theorem least_any (k : Int) (h1 : 1 ≤ k) (h7 : k ≤ 7) (w : World) : Calls Tryz.prog 17 #[.int .i64 k] w fun e w' => e = .returned (.int .i64 (leastK k : Nat)) ∧ Chg (fun _ => False) w w' := by
  have hk : k = 1 ∨ k = 2 ∨ k = 3 ∨ k = 4 ∨ k = 5 ∨ k = 6 ∨ k = 7 := by omega
  rcases hk with rfl | rfl | rfl | rfl | rfl | rfl | rfl
  all_goals
    go_enter Tryz.func17, Tryz.ntmps17
    go_wp2
    go_ret
    exact ⟨rfl, (Chg.refl _ _).alloc _⟩
/-- Behind 's := "J01" + ..'. -/
def LenStart (w : World) (K N : Nat) (C : UInt8) (v : Value) (wx : World) : Prop := ∃ s : ByteArray, v = .string s ∧ bs s = likeL (UInt8.ofNat K) N C ∧ Stt w wx []
theorem lenStart_mk {w w2 w3 : World} (K N : Nat) (C : UInt8) (S : Stt w w2 []) (hc : Chg (fun _ => False) w2 w3) : LenStart w K N C (.string ((⟨#[74, 48, 49]⟩ ++ ⟨#[UInt8.ofNat K]⟩) ++ timesB C N)) w3 :=
  ⟨_, rfl, by rw [ba_append, ba_append, bs_timesB]; rfl, S.next hc⟩

set_option maxRecDepth 100000 in
set_option maxHeartbeats 16000000 in
theorem lengths_any (k n c : Int) (hk : (Lit.int .i64 k).wf = true) (hn : (Lit.int .i64 n).wf = true) (hc : (Lit.int .u8 c).wf = true) (w : World) (hT : Tbl w) :
    Calls Tryz.prog 5 #[.int .i64 k, .int .i64 n, .int .u8 c] w fun e w' => e = .returned (.bool true) ∧ Chg (fun _ => False) w w' := by
  have S0 : Stt w w [] := ⟨Chg.refl _ _, hT, fun x hx => absurd hx (by simp)⟩
  go_enter Tryz.func5, Tryz.ntmps5
  go_upto_region 5 with (go_at_call 8; with_reducible refine (alive_any _ S0.tbl).mono ?_; rintro e w2 ⟨rfl, hc2⟩)
  have S2 := S0.next hc2
  clear S0 hc2 hT
  have hK : ∃ K : Nat, wrap64 ((IntKind.wrap .u64 k).tmod 9) = (K : Int) ∧ K ≤ 8 := by
    have h1 : IntKind.wrap .u64 k = k % 18446744073709551616 := by simp [IntKind.wrap, IntKind.bits, IntKind.signed]
    have h2 : 0 ≤ IntKind.wrap .u64 k := by rw [h1]; omega
    have h3 : (IntKind.wrap .u64 k).tmod 9 = IntKind.wrap .u64 k % 9 := Int.tmod_eq_emod_of_nonneg h2
    refine ⟨(IntKind.wrap .u64 k % 9).toNat, ?_, by omega⟩
    rw [h3]; unfold wrap64; omega
  have hN : ∃ N : Nat, wrap64 ((IntKind.wrap .u64 n).tmod 1300) = (N : Int) ∧ N ≤ 1299 := by
    have h1 : IntKind.wrap .u64 n = n % 18446744073709551616 := by simp [IntKind.wrap, IntKind.bits, IntKind.signed]
    have h2 : 0 ≤ IntKind.wrap .u64 n := by rw [h1]; omega
    have h3 : (IntKind.wrap .u64 n).tmod 1300 = IntKind.wrap .u64 n % 1300 := Int.tmod_eq_emod_of_nonneg h2
    refine ⟨(IntKind.wrap .u64 n % 1300).toNat, ?_, by omega⟩
    rw [h3]; unfold wrap64; omega
  have hC : ∃ C : UInt8, c = (C.toNat : Int) := by
    simp only [Lit.wf, Bool.and_eq_true, decide_eq_true_eq] at hc
    simp [IntKind.min, IntKind.max, IntKind.signed, IntKind.bits] at hc
    exact ⟨UInt8.ofNat c.toNat, by rw [UInt8.toNat_ofNat']; omega⟩
  obtain ⟨K, hK, hK8⟩ := hK
  obtain ⟨N, hN, hN9⟩ := hN
  obtain ⟨C, rfl⟩ := hC
  rw [hK, hN]
  clear hK hN hk hn hc
  generalize IntKind.wrap .u64 k = kk at *
  generalize IntKind.wrap .u64 n = nn at *
  have hKI : (0 : Int) ≤ (K : Int) := by omega
  have hKI2 : (K : Int) ≤ 8 := by omega
  have hw8 : IntKind.wrap .u8 (K : Int) = (K : Int) := by simp [IntKind.wrap, IntKind.bits, IntKind.signed]; omega
  have cv1 : ∀ W : World, (convert 38 9 (.slice (some ⟨W.heap.size, 0, none⟩) 1 1)).run Tryz.prog (W.alloc (.cells #[.int .u8 (K : Int)] 5)) = .ok (.string ⟨#[UInt8.ofNat K]⟩) (W.alloc (.cells #[.int .u8 (K : Int)] 5)) :=
    fun W => conv_at _ K (by omega) _ ((Row.alloc_new W 5 [.int .u8 (K : Int)]).cell 0)
  have cv2 : ∀ W : World, (convert 38 9 (.slice (some ⟨W.heap.size, 0, none⟩) 1 1)).run Tryz.prog (W.alloc (.cells #[.int .u8 (K : Int)] 5)).drew = .ok (.string ⟨#[UInt8.ofNat K]⟩) (W.alloc (.cells #[.int .u8 (K : Int)] 5)).drew :=
    fun W => conv_at _ K (by omega) _ ((Row.alloc_new W 5 [.int .u8 (K : Int)]).drew.cell 0)
  have R2 := Lib.hid (Row.alloc_new w2 5 [.int .u8 (K : Int)]).drew
  have hz1 : (timesB C N).size = N := timesB_size _ _
  have hz2 : (⟨#[UInt8.ofNat K]⟩ : ByteArray).size = 1 := rfl
  go_cut [7] (fun v wx => LenStart w K N C v wx)
  case first =>
    as_aux_lemma =>
    go_region_with (go_at_call 16; with_reducible refine (times_any C _ rfl N _ rfl (by omega) _).mono ?_; rintro e w3 ⟨rfl, hc3⟩; (try have cv3 := conv_at w2.heap.size K (by omega) w3 (cell_hd (R2.out.chg hc3 id))))
    all_goals
      go_wp2_with fail
      go_meet
      first
        | exact lenStart_mk K N C S2 (((Chg.refl _ _).alloc _).drew.trans hc3)
        | exact lenStart_mk K N C S2 (((Chg.refl _ _).drew.trans hc3).alloc _)
  case rest =>
    obtain ⟨s, rfl, hs, S3⟩ := hcut
    clear hw8 cv1 cv2 R2 hz1 hz2 S2 kk nn
    have hz : s.size = 4 + N := by rw [size_of hs]; simp [likeL]; omega
    have hb0 : bs s = [74] ++ (48 :: 49 :: UInt8.ofNat K :: List.replicate N C) := hs
    have hs3 : bs (s.extract 0 3) = [74, 48, 49] := by rw [bs_ext, hs]; rfl
    have hs2 : bs (s.extract 0 2) = [74, 48] := by rw [bs_ext, hs]; rfl
    have hs1 : bs (s.extract 1 s.size) = 48 :: 49 :: UInt8.ofNat K :: List.replicate N C := ext_tail hb0 rfl
    have hsj : bs (⟨#[106]⟩ ++ s.extract 1 s.size) = 106 :: (48 :: 49 :: UInt8.ofNat K :: List.replicate N C) := by rw [ba_append, hs1]; rfl
    have hzj : (⟨#[106]⟩ ++ s.extract 1 s.size : ByteArray).size = 4 + N := by rw [size_of hsj]; simp; omega
    have hz1 : (s.extract 1 s.size).size = 3 + N := by rw [size_of hs1]; simp; omega
    have hKb : ((UInt8.ofNat K).toNat : Int) = (K : Int) := by rw [UInt8.toNat_ofNat']; omega
    have W1 := decode_like s _ N C hs
    have W3 := decode_head3 _ hs3
    have W2 := decode_head2 _ hs2
    have WJ := decode_j _ _ hsj
    rw [hzj] at WJ
    rw [hKb] at W1
    have C1 := decode_any s (by omega)
    have C3 := decode_any (s.extract 0 3) (by rw [size_of hs3]; decide)
    have C2 := decode_any (s.extract 0 2) (by rw [size_of hs2]; decide)
    have CJ := decode_any (⟨#[106]⟩ ++ s.extract 1 s.size) (by omega)
    rw [W1] at C1
    rw [W3] at C3
    rw [W2] at C2
    rw [WJ] at CJ
    generalize (Get.decode s).1 = x1 at *
    generalize (Get.decode (s.extract 0 3)).1 = x3 at *
    generalize (Get.decode (s.extract 0 2)).1 = x2 at *
    generalize (Get.decode (⟨#[106]⟩ ++ s.extract 1 s.size)).1 = xj at *
    have HC1 := Lib.hid C1
    have HC3 := Lib.hid C3
    have HC2 := Lib.hid C2
    have HCJ := Lib.hid CJ
    have HZ := Lib.hid hz
    have hszI : (4 : Int) ≤ (s.size : Int) := by omega
    have hszI2 : (s.size : Int) ≤ 1400 := by omega
    have hz1I : (s.extract 1 s.size).size ≤ 1400 := by omega
    clear C1 C3 C2 CJ W1 W3 W2 WJ hz hb0 hs3 hs2 hs1 hsj hzj hKb hs hz1
    obtain ⟨want, hwant⟩ : ∃ x, Hid (wantN (K : Int) N C = x) := ⟨_, rfl⟩
    rw [hwant.out] at HC1
    obtain ⟨ej, hej⟩ : ∃ x, Hid ((if 1200 < 4 + N then (72 : Int) else 70) = x) := ⟨_, rfl⟩
    rw [hej.out] at HCJ
    go_upto_region 7 with (first
      | (go_at_call 13; with_reducible refine (HC1.out _).mono ?_; rintro e w7a ⟨rfl, hc4⟩)
      | (refine wpList_allocA rfl 26 rfl (.agg d0.cells.toArray) d0.cells zero26 rfl ?_; intro w7b hz5 hr5 hc5; clear hz5)
      | (refine wpList_store_rowA rfl 26 (.tmp 8) (.tmp 39) rfl _ x1.cells rfl rfl 26 d0.cells hr5 size26 rfl (cells_one _) ?_; intro w7c hr6 hc6 hz6; clear hz6))
    have S7 := ((S3.next hc4).put hc5 hc6 hr6).tl
    clear S3 hc4 hc5 hc6 hr5 hr6
    generalize w7a.heap.size = b8 at *
    clear w7a w7b
    go_upto_region 8 with (first
      | (go_at_call 13; with_reducible refine (HC3.out _).mono ?_; rintro e w8a ⟨rfl, hc4⟩)
      | (refine wpList_allocA rfl 26 rfl (.agg d0.cells.toArray) d0.cells zero26 rfl ?_; intro w8b hz5 hr5 hc5; clear hz5)
      | (refine wpList_store_rowA rfl 26 (.tmp 10) (.tmp 45) rfl _ x3.cells rfl rfl 26 d0.cells hr5 size26 rfl (cells_one _) ?_; intro w8c hr6 hc6 hz6; clear hz6))
    have S8 := ((S7.next hc4).put hc5 hc6 hr6).tl
    clear S7 hc4 hc5 hc6 hr5 hr6
    generalize w8a.heap.size = b10 at *
    clear w8a w8b
    go_upto_region 9 with (first
      | (go_at_call 13; with_reducible refine (HC2.out _).mono ?_; rintro e w9a ⟨rfl, hc4⟩)
      | (refine wpList_allocA rfl 26 rfl (.agg d0.cells.toArray) d0.cells zero26 rfl ?_; intro w9b hz5 hr5 hc5; clear hz5)
      | (refine wpList_store_rowA rfl 26 (.tmp 12) (.tmp 51) rfl _ x2.cells rfl rfl 26 d0.cells hr5 size26 rfl (cells_one _) ?_; intro w9c hr6 hc6 hz6; clear hz6))
    have S9 := ((S8.next hc4).put hc5 hc6 hr6).tl
    clear S8 hc4 hc5 hc6 hr5 hr6
    generalize w9a.heap.size = b12 at *
    clear w9a w9b
    go_upto_region 10 with (first
      | (go_at_call 13; with_reducible refine (HCJ.out _).mono ?_; rintro e w10a ⟨rfl, hc4⟩)
      | (refine wpList_allocA rfl 26 rfl (.agg d0.cells.toArray) d0.cells zero26 rfl ?_; intro w10b hz5 hr5 hc5; clear hz5)
      | (refine wpList_store_rowA rfl 26 (.tmp 14) (.tmp 58) rfl _ xj.cells rfl rfl 26 d0.cells hr5 size26 rfl (cells_one _) ?_; intro w10c hr6 hc6 hz6; clear hz6))
    have S10 := ((S9.next hc4).put hc5 hc6 hr6).tl
    clear S9 hc4 hc5 hc6 hr5 hr6
    generalize w10a.heap.size = b14 at *
    clear w10a w10b
    have SC := Lib.hid S10.chg
    clear S10 HC1 HC2 HC3 HCJ
    have hKc : K = 0 ∨ K = 1 ∨ K = 2 ∨ K = 3 ∨ K = 4 ∨ K = 5 ∨ K = 6 ∨ K = 7 ∨ K = 8 := by omega
    have hCb := C.toNat_lt
    have hCI : (0 : Int) ≤ (C.toNat : Int) := by omega
    have hCI2 : (C.toNat : Int) ≤ 255 := by omega
    have HKC := Lib.hid hKc
    clear hKc hK8 hKI hKI2 hN9
    by_cases hbig : 1200 < 4 + N
    · as_aux_lemma =>
      have e1 : ej = 72 := by rw [← hej.out, if_pos hbig]
      have e2 : want = 72 := by rw [← hwant.out]; unfold wantN; rw [if_pos hbig]
      subst e1 e2
      have hs1 : (1200 : Int) < (s.size : Int) := by have := HZ.out; omega
      clear hbig
      go_wp2
      go_ret
      exact ⟨rfl, SC.out⟩
    · have e1 : ej = 70 := by rw [← hej.out, if_neg hbig]
      subst e1
      have hs1 : ¬ (1200 : Int) < (s.size : Int) := by have := HZ.out; omega
      have HBG := Lib.hid hbig
      clear hbig
      rcases HKC.out with rfl | rfl | rfl | rfl | rfl | rfl | rfl | rfl | rfl
      · as_aux_lemma =>
        have e2 : want = 71 := by rw [← hwant.out]; unfold wantN; rw [if_neg HBG.out, if_pos (by omega)]
        subst e2
        go_wp2
        go_ret
        exact ⟨rfl, SC.out⟩
      · have HL1 : Hid (∀ w, Calls Tryz.prog 17 #[.int .i64 1] w fun e w' => e = .returned (.int .i64 96) ∧ Chg (fun _ => False) w w') := least_any 1 (by decide) (by decide)
        have hlk : leastK 1 = 96 := rfl
        have hz := HZ.out
        by_cases hcase : 4 + N = 96
        · by_cases hcc : C = 0
          · as_aux_lemma =>
            have e2 : want = 0 := by rw [← hwant.out]; unfold wantN; rw [if_neg HBG.out, if_neg (by omega)]; simp [hcase, hlk, hcc]
            subst e2
            clear hlk hz
            have hb : ((s.size : Int) != 96) = false := by have hz := HZ.out; rw [hz]; simp; omega
            have hc0 : ((C.toNat : Int) != 0) = false := by rw [hcc]; decide
            clear hcc
            clear hcase
            go_wp2_with (go_at_call 17; with_reducible refine (HL1.out _).mono ?_; rintro e wl ⟨rfl, hcl⟩)
            go_ret
            exact ⟨rfl, SC.out.trans hcl⟩
          · as_aux_lemma =>
            have e2 : want = 73 := by rw [← hwant.out]; unfold wantN; rw [if_neg HBG.out, if_neg (by omega)]; simp [hcase, hlk, hcc]
            subst e2
            clear hlk hz
            have hb : ((s.size : Int) != 96) = false := by have hz := HZ.out; rw [hz]; simp; omega
            have hc0 : ((C.toNat : Int) != 0) = true := by simp; intro e; exact hcc (UInt8.toNat_inj.1 (by simpa using e))
            clear hcc
            clear hcase
            go_wp2_with (go_at_call 17; with_reducible refine (HL1.out _).mono ?_; rintro e wl ⟨rfl, hcl⟩)
            go_ret
            exact ⟨rfl, SC.out.trans hcl⟩
        · as_aux_lemma =>
          have e2 : want = 72 := by rw [← hwant.out]; unfold wantN; rw [if_neg HBG.out, if_neg (by omega)]; simp [hcase, hlk]
          subst e2
          clear hlk hz
          have hb : ((s.size : Int) != 96) = true := by have hz := HZ.out; rw [hz]; simp; omega
          clear hcase
          go_wp2_with (go_at_call 17; with_reducible refine (HL1.out _).mono ?_; rintro e wl ⟨rfl, hcl⟩)
          go_ret
          exact ⟨rfl, SC.out.trans hcl⟩
      · have HL2 : Hid (∀ w, Calls Tryz.prog 17 #[.int .i64 2] w fun e w' => e = .returned (.int .i64 60) ∧ Chg (fun _ => False) w w') := least_any 2 (by decide) (by decide)
        have hlk : leastK 2 = 60 := rfl
        have hz := HZ.out
        by_cases hcase : 4 + N = 60
        · as_aux_lemma =>
          have e2 : want = 0 := by rw [← hwant.out]; unfold wantN; rw [if_neg HBG.out, if_neg (by omega)]; simp [hcase, hlk]
          subst e2
          clear hlk hz
          have hb : ((s.size : Int) != 60) = false := by have hz := HZ.out; rw [hz]; simp; omega
          clear hcase
          go_wp2_with (go_at_call 17; with_reducible refine (HL2.out _).mono ?_; rintro e wl ⟨rfl, hcl⟩)
          go_ret
          exact ⟨rfl, SC.out.trans hcl⟩
        · as_aux_lemma =>
          have e2 : want = 72 := by rw [← hwant.out]; unfold wantN; rw [if_neg HBG.out, if_neg (by omega)]; simp [hcase, hlk]
          subst e2
          clear hlk hz
          have hb : ((s.size : Int) != 60) = true := by have hz := HZ.out; rw [hz]; simp; omega
          clear hcase
          go_wp2_with (go_at_call 17; with_reducible refine (HL2.out _).mono ?_; rintro e wl ⟨rfl, hcl⟩)
          go_ret
          exact ⟨rfl, SC.out.trans hcl⟩
      · by_cases h93 : 4 + N < 93
        · as_aux_lemma =>
          have e2 : want = 72 := by rw [← hwant.out]; unfold wantN; rw [if_neg HBG.out, if_neg (by omega)]; simp [h93]
          subst e2
          have hb : (s.size : Int) < 93 := by have := HZ.out; omega
          clear h93
          go_wp2
          go_ret
          exact ⟨rfl, SC.out⟩
        · by_cases hcase : 4 + N = 93 + C.toNat
          · as_aux_lemma =>
            have e2 : want = 0 := by rw [← hwant.out]; unfold wantN; rw [if_neg HBG.out, if_neg (by omega)]; simp [h93, hcase]
            subst e2
            have hb : ¬ (s.size : Int) < 93 := by have := HZ.out; omega
            have hb2 : ((s.size : Int) != 93 + (C.toNat : Int)) = false := by have hz := HZ.out; rw [hz]; simp; omega
            clear h93
            clear hcase
            go_wp2
            go_ret
            exact ⟨rfl, SC.out⟩
          · as_aux_lemma =>
            have e2 : want = 72 := by rw [← hwant.out]; unfold wantN; rw [if_neg HBG.out, if_neg (by omega)]; simp [hcase]
            subst e2
            have hb : ¬ (s.size : Int) < 93 := by have := HZ.out; omega
            have hb2 : ((s.size : Int) != 93 + (C.toNat : Int)) = true := by have hz := HZ.out; rw [hz]; simp; omega
            clear h93
            clear hcase
            go_wp2
            go_ret
            exact ⟨rfl, SC.out⟩
      · have HL4 : Hid (∀ w, Calls Tryz.prog 17 #[.int .i64 4] w fun e w' => e = .returned (.int .i64 77) ∧ Chg (fun _ => False) w w') := least_any 4 (by decide) (by decide)
        have hlk : leastK 4 = 77 := rfl
        have hz := HZ.out
        by_cases hcase : 4 + N = 77
        · as_aux_lemma =>
          have e2 : want = 0 := by rw [← hwant.out]; unfold wantN; rw [if_neg HBG.out, if_neg (by omega)]; simp [hcase, hlk]
          subst e2
          clear hlk hz
          have hb : ((s.size : Int) != 77) = false := by have hz := HZ.out; rw [hz]; simp; omega
          clear hcase
          go_wp2_with (go_at_call 17; with_reducible refine (HL4.out _).mono ?_; rintro e wl ⟨rfl, hcl⟩)
          go_ret
          exact ⟨rfl, SC.out.trans hcl⟩
        · as_aux_lemma =>
          have e2 : want = 72 := by rw [← hwant.out]; unfold wantN; rw [if_neg HBG.out, if_neg (by omega)]; simp [hcase, hlk]
          subst e2
          clear hlk hz
          have hb : ((s.size : Int) != 77) = true := by have hz := HZ.out; rw [hz]; simp; omega
          clear hcase
          go_wp2_with (go_at_call 17; with_reducible refine (HL4.out _).mono ?_; rintro e wl ⟨rfl, hcl⟩)
          go_ret
          exact ⟨rfl, SC.out.trans hcl⟩
      · have HL5 : Hid (∀ w, Calls Tryz.prog 17 #[.int .i64 5] w fun e w' => e = .returned (.int .i64 55) ∧ Chg (fun _ => False) w w') := least_any 5 (by decide) (by decide)
        have hlk : leastK 5 = 55 := rfl
        have hz := HZ.out
        by_cases hcase : 4 + N = 55
        · by_cases hcc : 3 < C.toNat
          · as_aux_lemma =>
            have e2 : want = 73 := by rw [← hwant.out]; unfold wantN; rw [if_neg HBG.out, if_neg (by omega)]; simp [hcase, hlk, hcc]
            subst e2
            clear hlk hz
            have hb : ((s.size : Int) != 55) = false := by have hz := HZ.out; rw [hz]; simp; omega
            have hc0 : (3 : Int) < (C.toNat : Int) := by omega
            clear hcc
            clear hcase
            go_wp2_with (go_at_call 17; with_reducible refine (HL5.out _).mono ?_; rintro e wl ⟨rfl, hcl⟩)
            go_ret
            exact ⟨rfl, SC.out.trans hcl⟩
          · as_aux_lemma =>
            have e2 : want = 0 := by rw [← hwant.out]; unfold wantN; rw [if_neg HBG.out, if_neg (by omega)]; simp [hcase, hlk, hcc]
            subst e2
            clear hlk hz
            have hb : ((s.size : Int) != 55) = false := by have hz := HZ.out; rw [hz]; simp; omega
            have hc0 : ¬ (3 : Int) < (C.toNat : Int) := by omega
            clear hcc
            clear hcase
            go_wp2_with (go_at_call 17; with_reducible refine (HL5.out _).mono ?_; rintro e wl ⟨rfl, hcl⟩)
            go_ret
            exact ⟨rfl, SC.out.trans hcl⟩
        · as_aux_lemma =>
          have e2 : want = 72 := by rw [← hwant.out]; unfold wantN; rw [if_neg HBG.out, if_neg (by omega)]; simp [hcase, hlk]
          subst e2
          clear hlk hz
          have hb : ((s.size : Int) != 55) = true := by have hz := HZ.out; rw [hz]; simp; omega
          clear hcase
          go_wp2_with (go_at_call 17; with_reducible refine (HL5.out _).mono ?_; rintro e wl ⟨rfl, hcl⟩)
          go_ret
          exact ⟨rfl, SC.out.trans hcl⟩
      · by_cases h52 : 4 + N < 52
        · as_aux_lemma =>
          have e2 : want = 72 := by rw [← hwant.out]; unfold wantN; rw [if_neg HBG.out, if_neg (by omega)]; simp [h52]
          subst e2
          have hb : (s.size : Int) < 52 := by have := HZ.out; omega
          clear h52
          go_wp2
          go_ret
          exact ⟨rfl, SC.out⟩
        · as_aux_lemma =>
          have e2 : want = 0 := by rw [← hwant.out]; unfold wantN; rw [if_neg HBG.out, if_neg (by omega)]; simp [h52]
          subst e2
          have hb : ¬ (s.size : Int) < 52 := by have := HZ.out; omega
          clear h52
          go_wp2
          go_ret
          exact ⟨rfl, SC.out⟩
      · have HL7 : Hid (∀ w, Calls Tryz.prog 17 #[.int .i64 7] w fun e w' => e = .returned (.int .i64 52) ∧ Chg (fun _ => False) w w') := least_any 7 (by decide) (by decide)
        have hlk : leastK 7 = 52 := rfl
        have hz := HZ.out
        by_cases hcase : 4 + N = 52
        · as_aux_lemma =>
          have e2 : want = 0 := by rw [← hwant.out]; unfold wantN; rw [if_neg HBG.out, if_neg (by omega)]; simp [hcase, hlk]
          subst e2
          clear hlk hz
          have hb : ((s.size : Int) != 52) = false := by have hz := HZ.out; rw [hz]; simp; omega
          clear hcase
          go_wp2_with (go_at_call 17; with_reducible refine (HL7.out _).mono ?_; rintro e wl ⟨rfl, hcl⟩)
          go_ret
          exact ⟨rfl, SC.out.trans hcl⟩
        · as_aux_lemma =>
          have e2 : want = 72 := by rw [← hwant.out]; unfold wantN; rw [if_neg HBG.out, if_neg (by omega)]; simp [hcase, hlk]
          subst e2
          clear hlk hz
          have hb : ((s.size : Int) != 52) = true := by have hz := HZ.out; rw [hz]; simp; omega
          clear hcase
          go_wp2_with (go_at_call 17; with_reducible refine (HL7.out _).mono ?_; rintro e wl ⟨rfl, hcl⟩)
          go_ret
          exact ⟨rfl, SC.out.trans hcl⟩
      · as_aux_lemma =>
        have e2 : want = 71 := by rw [← hwant.out]; unfold wantN; rw [if_neg HBG.out, if_pos (by omega)]
        subst e2
        go_wp2
        go_ret
        exact ⟨rfl, SC.out⟩
end Go.Proofs.YtejlffeiebfboaaGreatDoor.Law
