/- The program's frame: the fields that are read, one by one. -/
import Derived.Test.YtejlffeiebfboaaGreatDoorGet
set_option linter.unusedVariables false
set_option linter.unusedSimpArgs false
namespace Go.Proofs.YtejlffeiebfboaaGreatDoor.Get
open Go Go.RowKit Go.Proofs.YtejlffeiebfboaaGreatDoor.Mem Go.Proofs.YtejlffeiebfboaaGreatDoor.PackW Go.Proofs.YtejlffeiebfboaaGreatDoor.PackR Go.Proofs.YtejlffeiebfboaaGreatDoor.Put

theorem IsG.fz {w : World} {rb br : Nat} {d : DG} {s : ByteArray} {bad : Bool} (h : IsG w rb br d s bad) (i : Nat) : w.frozen? ⟨rb, i, none⟩ = false := h.row.frozen i
theorem IsG.set {w : World} {rb br : Nat} {d d' : DG} {s : ByteArray} {bad bad' : Bool} (h : IsG w rb br d s bad) (i : Nat) (v : Value) (hd : (wcells br d bad).set i v = wcells br d' bad') : IsG (w.setCell ⟨rb, i, none⟩ v) rb br d' s bad' :=
  ⟨by rw [← hd]; exact h.row.set i v, h.ne, h.rd.chg (F := (· = rb)) ((Chg.refl _ _).setCell _ _ (fun _ => rfl)) (Ne.symm h.ne), h.small⟩
theorem chg_rb {w w1 : World} {rb br i : Nat} {v : Value} (h : Chg (· = br) w w1) : Chg (fun k => k = rb ∨ k = br) w (w1.setCell ⟨rb, i, none⟩ v) :=
  (h.mono (fun _ _ e => .inr e)).setCell _ _ (fun _ => .inl rfl)
theorem IsG.c_kind {w : World} {rb br : Nat} {d : DG} {s : ByteArray} {bad : Bool} (h : IsG w rb br d s bad) : w.cell? ⟨rb, 1, none⟩ = some (.int .i64 d.kind) := h.row.cell 1
theorem IsG.c_nonce {w : World} {rb br : Nat} {d : DG} {s : ByteArray} {bad : Bool} (h : IsG w rb br d s bad) : w.cell? ⟨rb, 2, none⟩ = some (.string d.nonce) := h.row.cell 2
theorem IsG.c_epoch {w : World} {rb br : Nat} {d : DG} {s : ByteArray} {bad : Bool} (h : IsG w rb br d s bad) : w.cell? ⟨rb, 3, none⟩ = some (.int .u64 d.epoch) := h.row.cell 3
theorem IsG.c_cookie {w : World} {rb br : Nat} {d : DG} {s : ByteArray} {bad : Bool} (h : IsG w rb br d s bad) : w.cell? ⟨rb, 4, none⟩ = some (.string d.cookie) := h.row.cell 4
theorem IsG.c_name {w : World} {rb br : Nat} {d : DG} {s : ByteArray} {bad : Bool} (h : IsG w rb br d s bad) : w.cell? ⟨rb, 5, none⟩ = some (.string d.name) := h.row.cell 5
theorem IsG.c_session {w : World} {rb br : Nat} {d : DG} {s : ByteArray} {bad : Bool} (h : IsG w rb br d s bad) : w.cell? ⟨rb, 6, none⟩ = some (.int .u64 d.session) := h.row.cell 6
theorem IsG.c_player {w : World} {rb br : Nat} {d : DG} {s : ByteArray} {bad : Bool} (h : IsG w rb br d s bad) : w.cell? ⟨rb, 7, none⟩ = some (.int .i64 d.player) := h.row.cell 7
theorem IsG.c_salt {w : World} {rb br : Nat} {d : DG} {s : ByteArray} {bad : Bool} (h : IsG w rb br d s bad) : w.cell? ⟨rb, 8, none⟩ = some (.string d.salt) := h.row.cell 8
theorem IsG.c_seq {w : World} {rb br : Nat} {d : DG} {s : ByteArray} {bad : Bool} (h : IsG w rb br d s bad) : w.cell? ⟨rb, 9, none⟩ = some (.int .u64 d.seq) := h.row.cell 9
theorem IsG.c_throttle {w : World} {rb br : Nat} {d : DG} {s : ByteArray} {bad : Bool} (h : IsG w rb br d s bad) : w.cell? ⟨rb, 10, none⟩ = some (.int .i64 d.throttle) := h.row.cell 10
theorem IsG.c_turn {w : World} {rb br : Nat} {d : DG} {s : ByteArray} {bad : Bool} (h : IsG w rb br d s bad) : w.cell? ⟨rb, 11, none⟩ = some (.int .i64 d.turn) := h.row.cell 11
theorem IsG.c_fire {w : World} {rb br : Nat} {d : DG} {s : ByteArray} {bad : Bool} (h : IsG w rb br d s bad) : w.cell? ⟨rb, 12, none⟩ = some (.bool d.fire) := h.row.cell 12
theorem IsG.c_boost {w : World} {rb br : Nat} {d : DG} {s : ByteArray} {bad : Bool} (h : IsG w rb br d s bad) : w.cell? ⟨rb, 13, none⟩ = some (.bool d.boost) := h.row.cell 13
theorem IsG.c_data {w : World} {rb br : Nat} {d : DG} {s : ByteArray} {bad : Bool} (h : IsG w rb br d s bad) : w.cell? ⟨rb, 14, none⟩ = some (.string d.data) := h.row.cell 14
theorem IsG.c_tag {w : World} {rb br : Nat} {d : DG} {s : ByteArray} {bad : Bool} (h : IsG w rb br d s bad) : w.cell? ⟨rb, 15, none⟩ = some (.string d.tag) := h.row.cell 15
theorem IsG.c_bad {w : World} {rb br : Nat} {d : DG} {s : ByteArray} {bad : Bool} (h : IsG w rb br d s bad) : w.cell? ⟨rb, 16, none⟩ = some (.bool bad) := h.row.cell 16

set_option maxRecDepth 100000 in
set_option maxHeartbeats 4000000 in
theorem getNonce_ok (rb br : Nat) (d : DG) (s : ByteArray) (bad : Bool) (hn : 16 ≤ s.size) (w : World) (h : IsG w rb br d s bad) :
    Calls Tryz.prog 43 #[.pointer (some ⟨rb, 0, none⟩)] w fun e w' => e = .returned (.tuple #[]) ∧ IsG w' rb br { d with nonce := s.extract 0 16 } (s.extract 16 s.size) bad ∧ Chg (fun k => k = rb ∨ k = br) w w' := by
  have CT : Hid (Calls Tryz.prog 81 #[.pointer (some ⟨rb, 0, none⟩), .int .i64 16] w fun e w' => e = .returned (.string (s.extract 0 16)) ∧ IsG w' rb br d (s.extract 16 s.size) bad ∧ Chg (· = br) w w') := text_ok rb br d s bad 16 hn w h
  clear h hn
  generalize s.extract 0 16 = t at *
  generalize s.extract 16 s.size = r at *
  go_enter Tryz.func43, Tryz.ntmps43
  go_wp2_with (go_at_call 81; with_reducible refine CT.out.mono ?_; rintro e w1 ⟨rfl, hG, hk⟩; (have cz := IsG.c_nonce hG); (have fz := IsG.fz hG 2))
  go_end0
  exact ⟨rfl, hG.set 2 _ rfl, chg_rb hk⟩
set_option maxRecDepth 100000 in
set_option maxHeartbeats 4000000 in
theorem getNonce_short (rb br : Nat) (d : DG) (s : ByteArray) (bad : Bool) (hn : s.size < 16) (w : World) (h : IsG w rb br d s bad) :
    Calls Tryz.prog 43 #[.pointer (some ⟨rb, 0, none⟩)] w fun e w' => e = short72 ∧ Chg (fun k => k = rb ∨ k = br) w w' := by
  have CT : Hid (Calls Tryz.prog 81 #[.pointer (some ⟨rb, 0, none⟩), .int .i64 16] w fun e w' => e = short72 ∧ w = w') := text_short rb br d s bad 16 (.inr (by omega)) w h
  clear h hn
  go_enter Tryz.func43, Tryz.ntmps43
  go_wp2_with (go_at_call 81; with_reducible refine CT.out.mono ?_; rintro e w1 ⟨rfl, rfl⟩)
  exact ⟨rfl, rfl, Chg.refl _ _⟩

set_option maxRecDepth 100000 in
set_option maxHeartbeats 4000000 in
theorem getCookie_ok (rb br : Nat) (d : DG) (s : ByteArray) (bad : Bool) (hn : 32 ≤ s.size) (w : World) (h : IsG w rb br d s bad) :
    Calls Tryz.prog 49 #[.pointer (some ⟨rb, 0, none⟩)] w fun e w' => e = .returned (.tuple #[]) ∧ IsG w' rb br { d with cookie := s.extract 0 32 } (s.extract 32 s.size) bad ∧ Chg (fun k => k = rb ∨ k = br) w w' := by
  have CT : Hid (Calls Tryz.prog 81 #[.pointer (some ⟨rb, 0, none⟩), .int .i64 32] w fun e w' => e = .returned (.string (s.extract 0 32)) ∧ IsG w' rb br d (s.extract 32 s.size) bad ∧ Chg (· = br) w w') := text_ok rb br d s bad 32 hn w h
  clear h hn
  generalize s.extract 0 32 = t at *
  generalize s.extract 32 s.size = r at *
  go_enter Tryz.func49, Tryz.ntmps49
  go_wp2_with (go_at_call 81; with_reducible refine CT.out.mono ?_; rintro e w1 ⟨rfl, hG, hk⟩; (have cz := IsG.c_cookie hG); (have fz := IsG.fz hG 4))
  go_end0
  exact ⟨rfl, hG.set 4 _ rfl, chg_rb hk⟩
set_option maxRecDepth 100000 in
set_option maxHeartbeats 4000000 in
theorem getCookie_short (rb br : Nat) (d : DG) (s : ByteArray) (bad : Bool) (hn : s.size < 32) (w : World) (h : IsG w rb br d s bad) :
    Calls Tryz.prog 49 #[.pointer (some ⟨rb, 0, none⟩)] w fun e w' => e = short72 ∧ Chg (fun k => k = rb ∨ k = br) w w' := by
  have CT : Hid (Calls Tryz.prog 81 #[.pointer (some ⟨rb, 0, none⟩), .int .i64 32] w fun e w' => e = short72 ∧ w = w') := text_short rb br d s bad 32 (.inr (by omega)) w h
  clear h hn
  go_enter Tryz.func49, Tryz.ntmps49
  go_wp2_with (go_at_call 81; with_reducible refine CT.out.mono ?_; rintro e w1 ⟨rfl, rfl⟩)
  exact ⟨rfl, rfl, Chg.refl _ _⟩

set_option maxRecDepth 100000 in
set_option maxHeartbeats 4000000 in
theorem getTag_ok (rb br : Nat) (d : DG) (s : ByteArray) (bad : Bool) (hn : 32 ≤ s.size) (w : World) (h : IsG w rb br d s bad) :
    Calls Tryz.prog 53 #[.pointer (some ⟨rb, 0, none⟩)] w fun e w' => e = .returned (.tuple #[]) ∧ IsG w' rb br { d with tag := s.extract 0 32 } (s.extract 32 s.size) bad ∧ Chg (fun k => k = rb ∨ k = br) w w' := by
  have CT : Hid (Calls Tryz.prog 81 #[.pointer (some ⟨rb, 0, none⟩), .int .i64 32] w fun e w' => e = .returned (.string (s.extract 0 32)) ∧ IsG w' rb br d (s.extract 32 s.size) bad ∧ Chg (· = br) w w') := text_ok rb br d s bad 32 hn w h
  clear h hn
  generalize s.extract 0 32 = t at *
  generalize s.extract 32 s.size = r at *
  go_enter Tryz.func53, Tryz.ntmps53
  go_wp2_with (go_at_call 81; with_reducible refine CT.out.mono ?_; rintro e w1 ⟨rfl, hG, hk⟩; (have cz := IsG.c_tag hG); (have fz := IsG.fz hG 15))
  go_end0
  exact ⟨rfl, hG.set 15 _ rfl, chg_rb hk⟩
set_option maxRecDepth 100000 in
set_option maxHeartbeats 4000000 in
theorem getTag_short (rb br : Nat) (d : DG) (s : ByteArray) (bad : Bool) (hn : s.size < 32) (w : World) (h : IsG w rb br d s bad) :
    Calls Tryz.prog 53 #[.pointer (some ⟨rb, 0, none⟩)] w fun e w' => e = short72 ∧ Chg (fun k => k = rb ∨ k = br) w w' := by
  have CT : Hid (Calls Tryz.prog 81 #[.pointer (some ⟨rb, 0, none⟩), .int .i64 32] w fun e w' => e = short72 ∧ w = w') := text_short rb br d s bad 32 (.inr (by omega)) w h
  clear h hn
  go_enter Tryz.func53, Tryz.ntmps53
  go_wp2_with (go_at_call 81; with_reducible refine CT.out.mono ?_; rintro e w1 ⟨rfl, rfl⟩)
  exact ⟨rfl, rfl, Chg.refl _ _⟩

set_option maxRecDepth 100000 in
set_option maxHeartbeats 4000000 in
theorem getSalt_ok (rb br : Nat) (d : DG) (s : ByteArray) (bad : Bool) (hn : 16 ≤ s.size) (w : World) (h : IsG w rb br d s bad) :
    Calls Tryz.prog 59 #[.pointer (some ⟨rb, 0, none⟩)] w fun e w' => e = .returned (.tuple #[]) ∧ IsG w' rb br { d with salt := s.extract 0 16 } (s.extract 16 s.size) bad ∧ Chg (fun k => k = rb ∨ k = br) w w' := by
  have CT : Hid (Calls Tryz.prog 81 #[.pointer (some ⟨rb, 0, none⟩), .int .i64 16] w fun e w' => e = .returned (.string (s.extract 0 16)) ∧ IsG w' rb br d (s.extract 16 s.size) bad ∧ Chg (· = br) w w') := text_ok rb br d s bad 16 hn w h
  clear h hn
  generalize s.extract 0 16 = t at *
  generalize s.extract 16 s.size = r at *
  go_enter Tryz.func59, Tryz.ntmps59
  go_wp2_with (go_at_call 81; with_reducible refine CT.out.mono ?_; rintro e w1 ⟨rfl, hG, hk⟩; (have cz := IsG.c_salt hG); (have fz := IsG.fz hG 8))
  go_end0
  exact ⟨rfl, hG.set 8 _ rfl, chg_rb hk⟩
set_option maxRecDepth 100000 in
set_option maxHeartbeats 4000000 in
theorem getSalt_short (rb br : Nat) (d : DG) (s : ByteArray) (bad : Bool) (hn : s.size < 16) (w : World) (h : IsG w rb br d s bad) :
    Calls Tryz.prog 59 #[.pointer (some ⟨rb, 0, none⟩)] w fun e w' => e = short72 ∧ Chg (fun k => k = rb ∨ k = br) w w' := by
  have CT : Hid (Calls Tryz.prog 81 #[.pointer (some ⟨rb, 0, none⟩), .int .i64 16] w fun e w' => e = short72 ∧ w = w') := text_short rb br d s bad 16 (.inr (by omega)) w h
  clear h hn
  go_enter Tryz.func59, Tryz.ntmps59
  go_wp2_with (go_at_call 81; with_reducible refine CT.out.mono ?_; rintro e w1 ⟨rfl, rfl⟩)
  exact ⟨rfl, rfl, Chg.refl _ _⟩

set_option maxRecDepth 100000 in
set_option maxHeartbeats 4000000 in
theorem getEpoch_ok (rb br : Nat) (d : DG) (s : ByteArray) (bad : Bool) (hn : 8 ≤ s.size) (w : World) (h : IsG w rb br d s bad) :
    Calls Tryz.prog 47 #[.pointer (some ⟨rb, 0, none⟩)] w fun e w' => e = .returned (.tuple #[]) ∧ IsG w' rb br { d with epoch := num ((bs s).take 8) } (s.extract 8 s.size) bad ∧ Chg (fun k => k = rb ∨ k = br) w w' := by
  have CT : Hid (Calls Tryz.prog 84 #[.pointer (some ⟨rb, 0, none⟩), .int .i64 8] w fun e w' => e = .returned (.int .u64 (num ((bs s).take 8) : Nat)) ∧ IsG w' rb br d (s.extract 8 s.size) bad ∧ Chg (· = br) w w') := number_ok rb br d s bad 8 (by omega) hn w h
  clear h hn
  generalize num ((bs s).take 8) = t at *
  generalize s.extract 8 s.size = r at *
  go_enter Tryz.func47, Tryz.ntmps47
  go_wp2_with (go_at_call 84; with_reducible refine CT.out.mono ?_; rintro e w1 ⟨rfl, hG, hk⟩; (have cz := IsG.c_epoch hG); (have fz := IsG.fz hG 3))
  go_end0
  exact ⟨rfl, hG.set 3 _ rfl, chg_rb hk⟩
set_option maxRecDepth 100000 in
set_option maxHeartbeats 4000000 in
theorem getEpoch_short (rb br : Nat) (d : DG) (s : ByteArray) (bad : Bool) (hn : s.size < 8) (w : World) (h : IsG w rb br d s bad) :
    Calls Tryz.prog 47 #[.pointer (some ⟨rb, 0, none⟩)] w fun e w' => e = short72 ∧ Chg (fun k => k = rb ∨ k = br) w w' := by
  have CT : Hid (Calls Tryz.prog 84 #[.pointer (some ⟨rb, 0, none⟩), .int .i64 8] w fun e w' => e = short72 ∧ w = w') := number_short rb br d s bad 8 (by omega) w h
  clear h hn
  go_enter Tryz.func47, Tryz.ntmps47
  go_wp2_with (go_at_call 84; with_reducible refine CT.out.mono ?_; rintro e w1 ⟨rfl, rfl⟩)
  exact ⟨rfl, rfl, Chg.refl _ _⟩

set_option maxRecDepth 100000 in
set_option maxHeartbeats 4000000 in
theorem getSession_ok (rb br : Nat) (d : DG) (s : ByteArray) (bad : Bool) (hn : 8 ≤ s.size) (w : World) (h : IsG w rb br d s bad) :
    Calls Tryz.prog 55 #[.pointer (some ⟨rb, 0, none⟩)] w fun e w' => e = .returned (.tuple #[]) ∧ IsG w' rb br { d with session := num ((bs s).take 8) } (s.extract 8 s.size) bad ∧ Chg (fun k => k = rb ∨ k = br) w w' := by
  have CT : Hid (Calls Tryz.prog 84 #[.pointer (some ⟨rb, 0, none⟩), .int .i64 8] w fun e w' => e = .returned (.int .u64 (num ((bs s).take 8) : Nat)) ∧ IsG w' rb br d (s.extract 8 s.size) bad ∧ Chg (· = br) w w') := number_ok rb br d s bad 8 (by omega) hn w h
  clear h hn
  generalize num ((bs s).take 8) = t at *
  generalize s.extract 8 s.size = r at *
  go_enter Tryz.func55, Tryz.ntmps55
  go_wp2_with (go_at_call 84; with_reducible refine CT.out.mono ?_; rintro e w1 ⟨rfl, hG, hk⟩; (have cz := IsG.c_session hG); (have fz := IsG.fz hG 6))
  go_end0
  exact ⟨rfl, hG.set 6 _ rfl, chg_rb hk⟩
set_option maxRecDepth 100000 in
set_option maxHeartbeats 4000000 in
theorem getSession_short (rb br : Nat) (d : DG) (s : ByteArray) (bad : Bool) (hn : s.size < 8) (w : World) (h : IsG w rb br d s bad) :
    Calls Tryz.prog 55 #[.pointer (some ⟨rb, 0, none⟩)] w fun e w' => e = short72 ∧ Chg (fun k => k = rb ∨ k = br) w w' := by
  have CT : Hid (Calls Tryz.prog 84 #[.pointer (some ⟨rb, 0, none⟩), .int .i64 8] w fun e w' => e = short72 ∧ w = w') := number_short rb br d s bad 8 (by omega) w h
  clear h hn
  go_enter Tryz.func55, Tryz.ntmps55
  go_wp2_with (go_at_call 84; with_reducible refine CT.out.mono ?_; rintro e w1 ⟨rfl, rfl⟩)
  exact ⟨rfl, rfl, Chg.refl _ _⟩

set_option maxRecDepth 100000 in
set_option maxHeartbeats 4000000 in
theorem getSeq_ok (rb br : Nat) (d : DG) (s : ByteArray) (bad : Bool) (hn : 8 ≤ s.size) (w : World) (h : IsG w rb br d s bad) :
    Calls Tryz.prog 61 #[.pointer (some ⟨rb, 0, none⟩)] w fun e w' => e = .returned (.tuple #[]) ∧ IsG w' rb br { d with seq := num ((bs s).take 8) } (s.extract 8 s.size) bad ∧ Chg (fun k => k = rb ∨ k = br) w w' := by
  have CT : Hid (Calls Tryz.prog 84 #[.pointer (some ⟨rb, 0, none⟩), .int .i64 8] w fun e w' => e = .returned (.int .u64 (num ((bs s).take 8) : Nat)) ∧ IsG w' rb br d (s.extract 8 s.size) bad ∧ Chg (· = br) w w') := number_ok rb br d s bad 8 (by omega) hn w h
  clear h hn
  generalize num ((bs s).take 8) = t at *
  generalize s.extract 8 s.size = r at *
  go_enter Tryz.func61, Tryz.ntmps61
  go_wp2_with (go_at_call 84; with_reducible refine CT.out.mono ?_; rintro e w1 ⟨rfl, hG, hk⟩; (have cz := IsG.c_seq hG); (have fz := IsG.fz hG 9))
  go_end0
  exact ⟨rfl, hG.set 9 _ rfl, chg_rb hk⟩
set_option maxRecDepth 100000 in
set_option maxHeartbeats 4000000 in
theorem getSeq_short (rb br : Nat) (d : DG) (s : ByteArray) (bad : Bool) (hn : s.size < 8) (w : World) (h : IsG w rb br d s bad) :
    Calls Tryz.prog 61 #[.pointer (some ⟨rb, 0, none⟩)] w fun e w' => e = short72 ∧ Chg (fun k => k = rb ∨ k = br) w w' := by
  have CT : Hid (Calls Tryz.prog 84 #[.pointer (some ⟨rb, 0, none⟩), .int .i64 8] w fun e w' => e = short72 ∧ w = w') := number_short rb br d s bad 8 (by omega) w h
  clear h hn
  go_enter Tryz.func61, Tryz.ntmps61
  go_wp2_with (go_at_call 84; with_reducible refine CT.out.mono ?_; rintro e w1 ⟨rfl, rfl⟩)
  exact ⟨rfl, rfl, Chg.refl _ _⟩

set_option maxRecDepth 100000 in
set_option maxHeartbeats 4000000 in
theorem getPlayer_ok (rb br : Nat) (d : DG) (s : ByteArray) (bad : Bool) (hn : 1 ≤ s.size) (w : World) (h : IsG w rb br d s bad) :
    Calls Tryz.prog 57 #[.pointer (some ⟨rb, 0, none⟩)] w fun e w' => e = .returned (.tuple #[]) ∧ IsG w' rb br { d with player := (num ((bs s).take 1) : Int) } (s.extract 1 s.size) bad ∧ Chg (fun k => k = rb ∨ k = br) w w' := by
  have CT : Hid (Calls Tryz.prog 84 #[.pointer (some ⟨rb, 0, none⟩), .int .i64 1] w fun e w' => e = .returned (.int .u64 (num ((bs s).take 1) : Nat)) ∧ IsG w' rb br d (s.extract 1 s.size) bad ∧ Chg (· = br) w w') := number_ok rb br d s bad 1 (by omega) hn w h
  have HB := num_lt ((bs s).take 1)
  have hb : num ((bs s).take 1) ≤ 255 := by
    have h2 : ((bs s).take 1).length ≤ 1 := by simp; omega
    have h3 : 256 ^ ((bs s).take 1).length ≤ 256 ^ 1 := Nat.pow_le_pow_right (by decide) h2
    omega
  clear HB
  clear h hn
  generalize num ((bs s).take 1) = t at *
  generalize s.extract 1 s.size = r at *
  go_enter Tryz.func57, Tryz.ntmps57
  go_wp2_with (go_at_call 84; with_reducible refine CT.out.mono ?_; rintro e w1 ⟨rfl, hG, hk⟩; (have cz := IsG.c_player hG); (have fz := IsG.fz hG 7))
  go_end0
  exact ⟨rfl, hG.set 7 _ rfl, chg_rb hk⟩
set_option maxRecDepth 100000 in
set_option maxHeartbeats 4000000 in
theorem getPlayer_short (rb br : Nat) (d : DG) (s : ByteArray) (bad : Bool) (hn : s.size < 1) (w : World) (h : IsG w rb br d s bad) :
    Calls Tryz.prog 57 #[.pointer (some ⟨rb, 0, none⟩)] w fun e w' => e = short72 ∧ Chg (fun k => k = rb ∨ k = br) w w' := by
  have CT : Hid (Calls Tryz.prog 84 #[.pointer (some ⟨rb, 0, none⟩), .int .i64 1] w fun e w' => e = short72 ∧ w = w') := number_short rb br d s bad 1 (by omega) w h
  clear h hn
  go_enter Tryz.func57, Tryz.ntmps57
  go_wp2_with (go_at_call 84; with_reducible refine CT.out.mono ?_; rintro e w1 ⟨rfl, rfl⟩)
  exact ⟨rfl, rfl, Chg.refl _ _⟩
end Go.Proofs.YtejlffeiebfboaaGreatDoor.Get
