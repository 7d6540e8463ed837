/- FrameSeals' walk. -/
import Derived.Test.YtejlffeiebfboaaGreatDoorBackWalk
import Derived.Test.YtejlffeiebfboaaGreatDoorSizes
set_option linter.unusedVariables false
set_option linter.unusedSimpArgs false
namespace Go.Proofs.YtejlffeiebfboaaGreatDoor.Law
open Go Go.RowKit Go.Proofs.YtejlffeiebfboaaGreatDoor.Mem Go.Proofs.YtejlffeiebfboaaGreatDoor.PackW Go.Proofs.YtejlffeiebfboaaGreatDoor.Put Go.Proofs.YtejlffeiebfboaaGreatDoor.Get

theorem Stt.set {w wi : World} {L : List (Nat × DG)} {b : Nat} {d : DG} (h : Stt w wi ((b, d) :: L)) (hW : ∀ w', Chg (fun k => k = b) w w' → Chg (fun _ => False) w w') (hg : 0 ≠ b) (hL : ∀ x ∈ L, x.1 ≠ b) (z : ByteArray) :
    Stt w (wi.setCell ⟨b, 14, none⟩ (.string z)) ((b, { d with tag := z }) :: L) := by
  have hc : Chg (fun k => k = b) wi (wi.setCell ⟨b, 14, none⟩ (.string z)) := (Chg.refl _ _).setCell _ _ (fun _ => rfl)
  refine ⟨hW _ ((h.chg.mono (fun _ _ e => e.elim)).trans hc), ⟨ShaWalk.Tab.chg h.tbl.tab hc hg, Nat.lt_of_lt_of_le h.tbl.lt hc.size⟩, fun x hx => ?_⟩
  rcases List.mem_cons.1 hx with rfl | hx
  · exact row_tag h.hd z
  · exact (h.tl.rows x hx).chg hc (hL x hx)
theorem times_zero (w : World) : Calls Tryz.prog 16 #[.int .u8 0, .int .i64 32] w fun e w' => e = .returned (.string zeros32) ∧ Chg (fun _ => False) w w' := by
  have h : timesB 0 32 = zeros32 := by decide +kernel
  rw [← h]; exact times_any 0 0 rfl 32 32 rfl (by decide) w
/-- The statements' own last: the last thirty-two bytes. -/
def lastB (s : ByteArray) : ByteArray := if s.size < 36 then ⟨#[]⟩ else s.extract (s.size - 32) s.size
set_option maxRecDepth 100000 in
theorem last_any (s : ByteArray) (hm : s.size ≤ 9223372036854775807) (w : World) : Calls Tryz.prog 20 #[.string s] w fun e w' => e = .returned (.string (lastB s)) ∧ w = w' := by
  unfold lastB
  by_cases h : s.size < 36
  · rw [if_pos h]
    have hI : (s.size : Int) < 36 := by omega
    go_enter Tryz.func20, Tryz.ntmps20
    go_wp2
    go_ret
    exact ⟨rfl, rfl⟩
  · rw [if_neg h]
    have hI : ¬ (s.size : Int) < 36 := by omega
    go_enter Tryz.func20, Tryz.ntmps20
    go_wp2
    go_ret
    exact ⟨ret_eq (by simp), rfl⟩

set_option maxRecDepth 100000 in
set_option maxHeartbeats 16000000 in
/-- Where Seal gives an error. -/
theorem seals_fail (d : DG) (key other : ByteArray) (hd : d.Ok) (hz : 4 + sizeF d (flds d.kind) ≤ 140737488355328) (hzz : 4 + sizeF { d with tag := zeros32 } (flds d.kind) ≤ 140737488355328) (hk : key.size ≤ 1048576) (ho : other.size ≤ 1048576)
    (he : (sealF d key).2 ≠ 0) (w : World) (hT : Tbl w) :
    Calls Tryz.prog 6 #[.agg d.cells.toArray, .string key, .string other] w fun e w' => e = .returned (.bool true) ∧ Chg (fun _ => False) w w' := by
  have S0 : Stt w w [] := ⟨Chg.refl _ _, hT, fun x hx => absurd hx (by simp)⟩
  have S00 := S0.box d
  have CS := seal_any d key hd hzz (by omega)
  have CE := encode_any d hd hz
  have hz32 : timesB 0 32 = zeros32 := by decide +kernel
  have CZ := encode_any { d with tag := zeros32 } (Ok_tag d hd zeros32) hzz
  obtain ⟨hs1, hs2⟩ := seal_fail d key he
  -- what the answers are
  obtain ⟨dz, hdz⟩ : ∃ dz : DG, Hid ({ d with tag := zeros32 } = dz) := ⟨_, rfl⟩
  have hlaw : (3 ≤ d.kind ∧ d.kind ≤ 7 ∧ (sealF d key).2 = (encode { d with tag := zeros32 }).2 ∧ (encode { d with tag := zeros32 }).2 ≠ 0 ∧ (encode d).2 ≠ 0) ∨ ((d.kind < 3 ∨ 7 < d.kind) ∧ (sealF d key).2 = 71 ∧ ((encode d).2 ≠ 0 ∨ d.kind < 3)) := by
    rcases hs2 with ⟨h1, h2⟩ | ⟨h1, h2, h3⟩
    · right
      refine ⟨by omega, h2, ?_⟩
      by_cases h3 : d.kind < 3
      · exact .inr h3
      · left; intro h; have := (encode_zero d hd h).1; omega
    · left
      refine ⟨h1.1, h1.2, h3, h2, fun h => ?_⟩
      obtain ⟨k1, k2, k3, k4⟩ := encode_zero d hd h
      have ht : d.tag.size = 32 := k2 .tag (by rw [flds_tag d.kind h1.1]; simp)
      have hah : ∀ f ∈ ahead d.kind, okF d f := fun f hf => k2 f (by rw [flds_tag d.kind h1.1]; simp [hf])
      have hw : wire d = preB d ++ bs d.tag := wire_tag d h1.1 d.tag
      rw [hw, List.length_append, bs_length, ht] at k3
      have := (encode_tag d hd h1.1 h1.2 zeros32 zeros32_size).1 hah
      rw [this, if_neg (by omega)] at h2
      exact h2 rfl
  rw [hs1] at CS
  rw [hdz.out] at CZ hlaw
  obtain ⟨e, hee⟩ : ∃ e, Hid ((sealF d key).2 = e) := ⟨_, rfl⟩
  obtain ⟨s1, f, hf⟩ : ∃ s f, Hid (encode d = (s, f)) := ⟨_, _, rfl⟩
  obtain ⟨s2, g, hg⟩ : ∃ s g, Hid (encode dz = (s, g)) := ⟨_, _, rfl⟩
  rw [hee.out] at CS hlaw he
  rw [hf.out] at CE hlaw
  rw [hg.out] at CZ hlaw
  have HS := Lib.hid CS
  have HE := Lib.hid CE
  have HZ := Lib.hid CZ
  have HL := Lib.hid hlaw
  have HEE := Lib.hid he
  have HS00 := Lib.hid S00
  have HZ32 := Lib.hid hz32
  have HTL := Lib.hid hT.lt
  clear CS CE CZ hlaw hs1 hs2 he S0 S00 hT hz hzz hk ho hz32 hd
  go_enter Tryz.func6, Tryz.ntmps6
  go_wp2_with (fail)
  have S1 := HS00.out
  clear HS00
  generalize w.alloc (.cells d.cells.toArray 26) = w1 at *
  have HWB : Hid (∀ w', Chg (fun k => k = w.heap.size) w w' → Chg (fun _ => False) w w') := fun w' h => h.mono (fun k hk hk2 => by omega)
  have HNB : Hid (0 ≠ w.heap.size) := by show _ ≠ _; have := HTL.out; omega
  clear HTL
  generalize w.heap.size = b3 at *
  go_upto_region 3 with (go_at_call 8; with_reducible refine (alive_any _ S1.tbl).mono ?_; rintro e w2 ⟨rfl, hc2⟩)
  have S2 := S1.next hc2
  clear S1 hc2 w1
  have r2 := S2.hd
  go_upto_region 4 with (first
    | (refine wpList_load_rowA rfl 26 (.tmp 3) rfl b3 rfl 26 d.cells _ r2 Tryz.underlying26 rfl size26 ?_)
    | (go_at_call 11; with_reducible refine (HS.out _ S2.tbl).mono ?_; rintro e w3 ⟨rfl, hc3⟩))
  have S3 := S2.next hc3
  clear S2 hc3 w2 r2
  have e1 : (e != 0) = true := by have := HEE.out; simp [this]
  have r3 := S3.hd
  go_upto_region 6 with (first
    | (refine wpList_load_rowA rfl 26 (.tmp 3) rfl b3 rfl 26 d.cells _ r3 Tryz.underlying26 rfl size26 ?_)
    | (go_at_call 9; with_reducible refine (HE.out _).mono ?_; rintro e w4 ⟨rfl, hc4⟩))
  have S4 := S3.next hc4
  clear S3 hc4 w3 r3
  go_upto_region 7 with (go_at_call 16; with_reducible refine (times_zero _).mono ?_; rintro e w5 ⟨rfl, hc5⟩; (have S5 := Stt.next S4 hc5); (have f14 := Row.frozen (Stt.hd S5) 14); (have c14 := row_c14 (Stt.hd S5)))
  have S6 := S5.set HWB.out HNB.out (fun x hx => absurd hx (by simp)) zeros32
  rw [hdz.out] at S6
  have hkd : dz.kind = d.kind := by rw [← hdz.out]
  clear S4 S5 hc5 f14 c14 w4
  generalize w5.setCell ⟨b3, 14, none⟩ (.string zeros32) = w6 at *
  clear w5
  have r6 := S6.hd
  go_upto_region 8 with (first
    | (refine wpList_load_rowA rfl 26 (.tmp 3) rfl b3 rfl 26 dz.cells _ r6 Tryz.underlying26 rfl size26 ?_)
    | (go_at_call 9; with_reducible refine (HZ.out _).mono ?_; rintro e w7 ⟨rfl, hc7⟩))
  have S7 := S6.next hc7
  have c0 := cell_hd S7.hd
  rw [hkd] at c0
  clear S6 hc7 w6 r6 hkd HS HE HZ
  rcases HL.out with ⟨h3, h7, heg, hg0, hf0⟩ | ⟨hkk, he71, hff⟩
  · have g1 : (g != 0) = true := by simp [hg0]
    have f1 : (f != 0) = true := by simp [hf0]
    have hge : (e == g) = true := by simp [heg]
    clear heg hg0 hf0 e1
    go_wp2
    go_ret
    exact ⟨rfl, S7.chg⟩
  · have e2 : e = 71 := he71
    subst e2
    rcases hff with hf0 | hk3
    · have f1 : (f != 0) = true := by simp [hf0]
      clear hf0 he71
      rcases hkk with hk3 | hk7
      all_goals
        go_wp2
        all_goals
          go_ret
          exact ⟨rfl, S7.chg⟩
    · clear hkk he71
      go_wp2
      all_goals
        go_ret
        exact ⟨rfl, S7.chg⟩
end Go.Proofs.YtejlffeiebfboaaGreatDoor.Law
