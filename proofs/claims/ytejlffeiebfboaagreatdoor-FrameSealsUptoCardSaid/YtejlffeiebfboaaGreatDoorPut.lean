/- The program's frame: how the fields of a datagram are laid. -/
import Derived.Test.YtejlffeiebfboaaGreatDoorPackT
import Derived.StillTailTactics
set_option linter.unusedVariables false
set_option linter.unusedSimpArgs false
namespace Go.Proofs.YtejlffeiebfboaaGreatDoor.Put
open Go Go.RowKit Go.Proofs.YtejlffeiebfboaaGreatDoor.Mem Go.Proofs.YtejlffeiebfboaaGreatDoor.PackW

/-- A datagram. -/
structure DG where
  kind : Int
  nonce : ByteArray
  epoch : Nat
  cookie : ByteArray
  name : ByteArray
  session : Nat
  player : Int
  salt : ByteArray
  seq : Nat
  throttle : Int
  turn : Int
  fire : Bool
  boost : Bool
  data : ByteArray
  tag : ByteArray

def DG.cells (d : DG) : List Value := [.int .i64 d.kind, .string d.nonce, .int .u64 d.epoch, .string d.cookie, .string d.name, .int .u64 d.session, .int .i64 d.player, .string d.salt, .int .u64 d.seq, .int .i64 d.throttle, .int .i64 d.turn, .bool d.fire, .bool d.boost, .string d.data, .string d.tag]
/-- What Go's types ask of its numbers. -/
structure DG.Ok (d : DG) : Prop where
  epoch : d.epoch < 18446744073709551616
  session : d.session < 18446744073709551616
  seq : d.seq < 18446744073709551616
  kind : -9223372036854775808 ≤ d.kind ∧ d.kind < 9223372036854775808
  player : -9223372036854775808 ≤ d.player ∧ d.player < 9223372036854775808
  throttle : -9223372036854775808 ≤ d.throttle ∧ d.throttle < 9223372036854775808
  turn : -9223372036854775808 ≤ d.turn ∧ d.turn < 9223372036854775808

def wcells (bw : Nat) (d : DG) (bad : Bool) : List Value := .pointer (some ⟨bw, 0, none⟩) :: d.cells ++ [.bool bad]

/-- A datagram on its way: the block wb holds the writer's address, the datagram, and whether a field is bad. -/
structure IsP (w : World) (B bw bw2 wb : Nat) (d : DG) (st : WS) (bad : Bool) : Prop where
  lo : B ≤ wb
  row : Row w wb 51 (wcells bw d bad)
  ne : wb ≠ bw
  ws : IsWS w B bw bw2 st

theorem IsP.keep {w w' : World} {B bw bw2 wb : Nat} {d : DG} {st st' : WS} {bad : Bool} (h : IsP w B bw bw2 wb d st bad) (k : Kp B bw w w') (h' : IsWS w' B bw bw2 st') : IsP w' B bw bw2 wb d st' bad :=
  ⟨h.lo, k.rows _ _ _ (by decide) h.ne h.row, h.ne, h'⟩

/-- What a field's call may turn: the writer's block, the datagram's block, and rows of bytes (from block B on). -/
structure Kq (B bw wb : Nat) (w w' : World) : Prop where
  chg : Chg (fun k => B ≤ k) w w'
  rows : ∀ b T l, T ≠ 5 → b ≠ bw → b ≠ wb → Row w b T l → Row w' b T l
theorem Kq.refl (B bw wb : Nat) (w : World) : Kq B bw wb w w := ⟨Chg.refl _ _, fun _ _ _ _ _ _ h => h⟩
theorem Kq.trans {B bw wb : Nat} {w w' w'' : World} (h : Kq B bw wb w w') (k : Kq B bw wb w' w'') : Kq B bw wb w w'' :=
  ⟨h.chg.trans k.chg, fun b T l hT hb hw hr => k.rows b T l hT hb hw (h.rows b T l hT hb hw hr)⟩
theorem Kq.drew {B bw wb : Nat} {w w' : World} (h : Kq B bw wb w w') : Kq B bw wb w w'.drew := ⟨h.chg.drew, fun b T l hT hb hw hr => (h.rows b T l hT hb hw hr).drew⟩
theorem Kq.set {B bw wb : Nat} (w : World) (hlo : B ≤ wb) (i : Nat) (v : Value) : Kq B bw wb w (w.setCell ⟨wb, i, none⟩ v) :=
  ⟨(Chg.refl _ _).setCell _ _ (fun _ => hlo), fun b T l hT hb hw hr => hr.set_other _ hw⟩
theorem Kq.of_chg {B bw wb : Nat} {w w' : World} (h : Chg (fun _ => False) w w') : Kq B bw wb w w' := ⟨h.mono (fun _ _ h => h.elim), fun b T l hT hb hw hr => hr.chg h id⟩
theorem _root_.Go.Proofs.YtejlffeiebfboaaGreatDoor.PackW.Kp.kq {B bw wb : Nat} {w w' : World} (h : Kp B bw w w') : Kq B bw wb w w' := ⟨h.chg, fun b T l hT hb hw hr => h.rows b T l hT hb hr⟩

theorem IsWS.set {w : World} {B bw bw2 wb : Nat} {T : TypeId} {l : List Value} {st : WS} (h : IsWS w B bw bw2 st) (hr : Row w wb T l) (hT : T ≠ 5) (hT2 : T ≠ 48) (hne : wb ≠ bw) (i : Nat) (v : Value) : IsWS (w.setCell ⟨wb, i, none⟩ v) B bw bw2 st := by
  unfold IsWS at *
  refine ⟨h.lo, by simpa [World.setCell] using h.hi, fun he => ?_, fun he => ?_⟩
  · obtain ⟨x, h1, h2, h3⟩ := h.ok he
    have hn2 : bw2 ≠ wb := fun e => by
      subst e
      have := h2.out.symm.trans hr.out
      simp at this
      exact hT2 this.2.symm
    exact ⟨x, h1.set_other _ (Ne.symm hne), h2.set_other _ hn2, own_setCell hr h3 hT i v⟩
  · obtain ⟨x, h1⟩ := h.bad he
    exact ⟨x, h1.set_other _ (Ne.symm hne)⟩

/-- What exact leaves. -/
def exactS (st : WS) (s : ByteArray) : WS := layS st (bs s)

set_option maxRecDepth 100000 in
set_option maxHeartbeats 4000000 in
theorem exact_any (B bw bw2 wb : Nat) (d : DG) (st : WS) (bad : Bool) (s : ByteArray) (n : Nat) (w : World) (h : IsP w B bw bw2 wb d st bad) (hlen : st.1.length + s.size ≤ 140737488355328) :
    Calls Tryz.prog 82 #[.pointer (some ⟨wb, 0, none⟩), .string s, .int .i64 (n : Int)] w fun e w' => e = .returned (.tuple #[]) ∧ IsP w' B bw bw2 wb d (layS st (bs s)) (bad || (s.size != n)) ∧ Kq B bw wb w w' := by
  obtain ⟨hlo, hrow, hne, hws⟩ := h
  have c0 : w.cell? ⟨wb, 0, none⟩ = some (.pointer (some ⟨bw, 0, none⟩)) := hrow.cell 0
  have c16 : w.cell? ⟨wb, 16, none⟩ = some (.bool bad) := hrow.cell 16
  have f16 := hrow.frozen 16
  have hw1 := IsWS.set hws hrow (by decide) (by decide) hne 16 (.bool (bad || (s.size != n)))
  have hr1 := hrow.set 16 (.bool (bad || (s.size != n)))
  have hc : ((s.size : Int) != (n : Int)) = (s.size != n) := by
    by_cases e : s.size = n
    · subst e; simp
    · have h1 : ((s.size : Int) != (n : Int)) = true := by simp; omega
      have h2 : (s.size != n) = true := by simp; exact e
      rw [h1, h2]
  have C := Lib.hid (bytes_any B bw bw2 st s _ hw1 hlen)
  have HP := Lib.hid (⟨hlo, hr1, hne, hw1⟩ : IsP _ B bw bw2 wb d st (bad || (s.size != n)))
  clear hw1 hr1 hrow hws
  cases bad with
  | true =>
    rw [Bool.true_or] at C HP ⊢
    go_enter Tryz.func82, Tryz.ntmps82
    go_wp2_with (go_at_call 23; go_loud (with_reducible refine C.out.mono ?_; rintro e w1 ⟨rfl, hI, hk⟩))
    go_end0
    exact ⟨rfl, HP.out.keep hk hI, (Kq.set _ hlo 16 _).trans hk.kq⟩
  | false =>
    rw [Bool.false_or] at C HP ⊢
    go_enter Tryz.func82, Tryz.ntmps82
    go_wp2_with (go_at_call 23; go_loud (with_reducible refine C.out.mono ?_; rintro e w1 ⟨rfl, hI, hk⟩))
    go_end0
    exact ⟨rfl, HP.out.keep hk hI, (Kq.set _ hlo 16 _).trans hk.kq⟩
theorem IsWS.drew {w : World} {B bw bw2 : Nat} {st : WS} (h : IsWS w B bw bw2 st) : IsWS w.drew B bw bw2 st := by
  unfold IsWS at *
  exact ⟨h.lo, h.hi, fun he => by
    obtain ⟨v, a, b, c⟩ := h.ok he
    exact ⟨v, a.drew, b.drew, c.drew⟩, fun he => by
    obtain ⟨v, a⟩ := h.bad he
    exact ⟨v, a.drew⟩⟩
theorem IsP.drew {w : World} {B bw bw2 wb : Nat} {d : DG} {st : WS} {bad : Bool} (h : IsP w B bw bw2 wb d st bad) : IsP w.drew B bw bw2 wb d st bad := ⟨h.lo, h.row.drew, h.ne, (IsWS.drew h.ws)⟩

set_option maxRecDepth 100000 in
set_option maxHeartbeats 4000000 in
theorem putNonce_any (B bw bw2 wb : Nat) (d : DG) (st : WS) (bad : Bool) (w : World) (h : IsP w B bw bw2 wb d st bad) (hlen : st.1.length + d.nonce.size ≤ 140737488355328) :
    Calls Tryz.prog 44 #[.pointer (some ⟨wb, 0, none⟩)] w fun e w' => e = .returned (.tuple #[]) ∧ IsP w' B bw bw2 wb d (layS st (bs d.nonce)) (bad || (d.nonce.size != 16)) ∧ Kq B bw wb w w' := by
  have c0 : w.cell? ⟨wb, 2, none⟩ = some (.string d.nonce) := h.row.cell 2
  have C0 := exact_any B bw bw2 wb d st bad d.nonce 16 w h hlen
  have C : Hid (Calls Tryz.prog 82 #[.pointer (some ⟨wb, 0, none⟩), .string d.nonce, .int .i64 16] w fun e w' => e = .returned (.tuple #[]) ∧ IsP w' B bw bw2 wb d (layS st (bs d.nonce)) (bad || (d.nonce.size != 16)) ∧ Kq B bw wb w w') := C0
  clear C0 h
  go_enter Tryz.func44, Tryz.ntmps44
  go_wp2_with (go_at_call 82; with_reducible refine C.out.mono ?_; rintro e w1 ⟨rfl, hI, hk⟩)
  go_end0
  exact ⟨rfl, hI, hk⟩

set_option maxRecDepth 100000 in
set_option maxHeartbeats 4000000 in
theorem putCookie_any (B bw bw2 wb : Nat) (d : DG) (st : WS) (bad : Bool) (w : World) (h : IsP w B bw bw2 wb d st bad) (hlen : st.1.length + d.cookie.size ≤ 140737488355328) :
    Calls Tryz.prog 50 #[.pointer (some ⟨wb, 0, none⟩)] w fun e w' => e = .returned (.tuple #[]) ∧ IsP w' B bw bw2 wb d (layS st (bs d.cookie)) (bad || (d.cookie.size != 32)) ∧ Kq B bw wb w w' := by
  have c0 : w.cell? ⟨wb, 4, none⟩ = some (.string d.cookie) := h.row.cell 4
  have C0 := exact_any B bw bw2 wb d st bad d.cookie 32 w h hlen
  have C : Hid (Calls Tryz.prog 82 #[.pointer (some ⟨wb, 0, none⟩), .string d.cookie, .int .i64 32] w fun e w' => e = .returned (.tuple #[]) ∧ IsP w' B bw bw2 wb d (layS st (bs d.cookie)) (bad || (d.cookie.size != 32)) ∧ Kq B bw wb w w') := C0
  clear C0 h
  go_enter Tryz.func50, Tryz.ntmps50
  go_wp2_with (go_at_call 82; with_reducible refine C.out.mono ?_; rintro e w1 ⟨rfl, hI, hk⟩)
  go_end0
  exact ⟨rfl, hI, hk⟩

set_option maxRecDepth 100000 in
set_option maxHeartbeats 4000000 in
theorem putTag_any (B bw bw2 wb : Nat) (d : DG) (st : WS) (bad : Bool) (w : World) (h : IsP w B bw bw2 wb d st bad) (hlen : st.1.length + d.tag.size ≤ 140737488355328) :
    Calls Tryz.prog 54 #[.pointer (some ⟨wb, 0, none⟩)] w fun e w' => e = .returned (.tuple #[]) ∧ IsP w' B bw bw2 wb d (layS st (bs d.tag)) (bad || (d.tag.size != 32)) ∧ Kq B bw wb w w' := by
  have c0 : w.cell? ⟨wb, 15, none⟩ = some (.string d.tag) := h.row.cell 15
  have C0 := exact_any B bw bw2 wb d st bad d.tag 32 w h hlen
  have C : Hid (Calls Tryz.prog 82 #[.pointer (some ⟨wb, 0, none⟩), .string d.tag, .int .i64 32] w fun e w' => e = .returned (.tuple #[]) ∧ IsP w' B bw bw2 wb d (layS st (bs d.tag)) (bad || (d.tag.size != 32)) ∧ Kq B bw wb w w') := C0
  clear C0 h
  go_enter Tryz.func54, Tryz.ntmps54
  go_wp2_with (go_at_call 82; with_reducible refine C.out.mono ?_; rintro e w1 ⟨rfl, hI, hk⟩)
  go_end0
  exact ⟨rfl, hI, hk⟩

set_option maxRecDepth 100000 in
set_option maxHeartbeats 4000000 in
theorem putSalt_any (B bw bw2 wb : Nat) (d : DG) (st : WS) (bad : Bool) (w : World) (h : IsP w B bw bw2 wb d st bad) (hlen : st.1.length + d.salt.size ≤ 140737488355328) :
    Calls Tryz.prog 60 #[.pointer (some ⟨wb, 0, none⟩)] w fun e w' => e = .returned (.tuple #[]) ∧ IsP w' B bw bw2 wb d (layS st (bs d.salt)) (bad || (d.salt.size != 16)) ∧ Kq B bw wb w w' := by
  have c0 : w.cell? ⟨wb, 8, none⟩ = some (.string d.salt) := h.row.cell 8
  have C0 := exact_any B bw bw2 wb d st bad d.salt 16 w h hlen
  have C : Hid (Calls Tryz.prog 82 #[.pointer (some ⟨wb, 0, none⟩), .string d.salt, .int .i64 16] w fun e w' => e = .returned (.tuple #[]) ∧ IsP w' B bw bw2 wb d (layS st (bs d.salt)) (bad || (d.salt.size != 16)) ∧ Kq B bw wb w w') := C0
  clear C0 h
  go_enter Tryz.func60, Tryz.ntmps60
  go_wp2_with (go_at_call 82; with_reducible refine C.out.mono ?_; rintro e w1 ⟨rfl, hI, hk⟩)
  go_end0
  exact ⟨rfl, hI, hk⟩

set_option maxRecDepth 100000 in
set_option maxHeartbeats 4000000 in
theorem putEpoch_any (B bw bw2 wb : Nat) (d : DG) (st : WS) (bad : Bool) (w : World) (hd : d.Ok) (h : IsP w B bw bw2 wb d st bad) (hlen : st.1.length + 8 ≤ 140737488355328) :
    Calls Tryz.prog 48 #[.pointer (some ⟨wb, 0, none⟩)] w fun e w' => e = .returned (.tuple #[]) ∧ IsP w' B bw bw2 wb d (layS st (be 8 d.epoch)) bad ∧ Kq B bw wb w w' := by
  have c0 : w.cell? ⟨wb, 0, none⟩ = some (.pointer (some ⟨bw, 0, none⟩)) := h.row.cell 0
  have c1 : w.cell? ⟨wb, 3, none⟩ = some (.int .u64 d.epoch) := h.row.cell 3
  have H := Lib.hid h.drew
  have C : Hid (Calls Tryz.prog 24 #[.pointer (some ⟨bw, 0, none⟩), .int .u64 (d.epoch : Int), .int .i64 8] w.drew fun e w' => e = .returned (.tuple #[]) ∧ IsWS w' B bw bw2 (numS st d.epoch 8) ∧ Kp B bw w.drew w') := number_any B bw bw2 st d.epoch 8 w.drew (IsWS.drew h.ws) (by omega) hd.epoch hlen
  have hN : Hid (numS st d.epoch 8 = layS st (be 8 d.epoch)) := by show _ = _; unfold numS; rw [if_pos hd.epoch]
  have CK := Lib.hid (Kq.drew (Kq.refl B bw wb w))
  clear h hd
  go_enter Tryz.func48, Tryz.ntmps48
  go_wp2
  go_still_tail 9, (by kernel_rfl)
  change wpList _ _ _ _ _ w.drew
  clear c0 c1
  generalize w.drew = w2 at *
  go_wp2_with (go_at_call 24; with_reducible refine C.out.mono ?_; rintro e w1 ⟨rfl, hI, hk⟩)
  go_end0
  rw [hN.out] at hI
  exact ⟨rfl, H.out.keep hk hI, CK.out.trans hk.kq⟩

set_option maxRecDepth 100000 in
set_option maxHeartbeats 4000000 in
theorem putSession_any (B bw bw2 wb : Nat) (d : DG) (st : WS) (bad : Bool) (w : World) (hd : d.Ok) (h : IsP w B bw bw2 wb d st bad) (hlen : st.1.length + 8 ≤ 140737488355328) :
    Calls Tryz.prog 56 #[.pointer (some ⟨wb, 0, none⟩)] w fun e w' => e = .returned (.tuple #[]) ∧ IsP w' B bw bw2 wb d (layS st (be 8 d.session)) bad ∧ Kq B bw wb w w' := by
  have c0 : w.cell? ⟨wb, 0, none⟩ = some (.pointer (some ⟨bw, 0, none⟩)) := h.row.cell 0
  have c1 : w.cell? ⟨wb, 6, none⟩ = some (.int .u64 d.session) := h.row.cell 6
  have H := Lib.hid h.drew
  have C : Hid (Calls Tryz.prog 24 #[.pointer (some ⟨bw, 0, none⟩), .int .u64 (d.session : Int), .int .i64 8] w.drew fun e w' => e = .returned (.tuple #[]) ∧ IsWS w' B bw bw2 (numS st d.session 8) ∧ Kp B bw w.drew w') := number_any B bw bw2 st d.session 8 w.drew (IsWS.drew h.ws) (by omega) hd.session hlen
  have hN : Hid (numS st d.session 8 = layS st (be 8 d.session)) := by show _ = _; unfold numS; rw [if_pos hd.session]
  have CK := Lib.hid (Kq.drew (Kq.refl B bw wb w))
  clear h hd
  go_enter Tryz.func56, Tryz.ntmps56
  go_wp2
  go_still_tail 9, (by kernel_rfl)
  change wpList _ _ _ _ _ w.drew
  clear c0 c1
  generalize w.drew = w2 at *
  go_wp2_with (go_at_call 24; with_reducible refine C.out.mono ?_; rintro e w1 ⟨rfl, hI, hk⟩)
  go_end0
  rw [hN.out] at hI
  exact ⟨rfl, H.out.keep hk hI, CK.out.trans hk.kq⟩

set_option maxRecDepth 100000 in
set_option maxHeartbeats 4000000 in
theorem putSeq_any (B bw bw2 wb : Nat) (d : DG) (st : WS) (bad : Bool) (w : World) (hd : d.Ok) (h : IsP w B bw bw2 wb d st bad) (hlen : st.1.length + 8 ≤ 140737488355328) :
    Calls Tryz.prog 62 #[.pointer (some ⟨wb, 0, none⟩)] w fun e w' => e = .returned (.tuple #[]) ∧ IsP w' B bw bw2 wb d (layS st (be 8 d.seq)) bad ∧ Kq B bw wb w w' := by
  have c0 : w.cell? ⟨wb, 0, none⟩ = some (.pointer (some ⟨bw, 0, none⟩)) := h.row.cell 0
  have c1 : w.cell? ⟨wb, 9, none⟩ = some (.int .u64 d.seq) := h.row.cell 9
  have H := Lib.hid h.drew
  have C : Hid (Calls Tryz.prog 24 #[.pointer (some ⟨bw, 0, none⟩), .int .u64 (d.seq : Int), .int .i64 8] w.drew fun e w' => e = .returned (.tuple #[]) ∧ IsWS w' B bw bw2 (numS st d.seq 8) ∧ Kp B bw w.drew w') := number_any B bw bw2 st d.seq 8 w.drew (IsWS.drew h.ws) (by omega) hd.seq hlen
  have hN : Hid (numS st d.seq 8 = layS st (be 8 d.seq)) := by show _ = _; unfold numS; rw [if_pos hd.seq]
  have CK := Lib.hid (Kq.drew (Kq.refl B bw wb w))
  clear h hd
  go_enter Tryz.func62, Tryz.ntmps62
  go_wp2
  go_still_tail 9, (by kernel_rfl)
  change wpList _ _ _ _ _ w.drew
  clear c0 c1
  generalize w.drew = w2 at *
  go_wp2_with (go_at_call 24; with_reducible refine C.out.mono ?_; rintro e w1 ⟨rfl, hI, hk⟩)
  go_end0
  rw [hN.out] at hI
  exact ⟨rfl, H.out.keep hk hI, CK.out.trans hk.kq⟩

set_option maxRecDepth 100000 in
set_option maxHeartbeats 4000000 in
theorem putData_any (B bw bw2 wb : Nat) (d : DG) (st : WS) (bad : Bool) (w : World) (h : IsP w B bw bw2 wb d st bad) (hlen : st.1.length + d.data.size ≤ 140737488355328) :
    Calls Tryz.prog 66 #[.pointer (some ⟨wb, 0, none⟩)] w fun e w' => e = .returned (.tuple #[]) ∧ IsP w' B bw bw2 wb d (layS st (bs d.data)) bad ∧ Kq B bw wb w w' := by
  have c0 : w.cell? ⟨wb, 0, none⟩ = some (.pointer (some ⟨bw, 0, none⟩)) := h.row.cell 0
  have c1 : w.cell? ⟨wb, 14, none⟩ = some (.string d.data) := h.row.cell 14
  have H := Lib.hid h.drew
  have C := Lib.hid (bytes_any B bw bw2 st d.data w.drew (IsWS.drew h.ws) hlen)
  have CK := Lib.hid (Kq.drew (Kq.refl B bw wb w))
  clear h
  go_enter Tryz.func66, Tryz.ntmps66
  go_wp2
  go_still_tail 9, (by kernel_rfl)
  change wpList _ _ _ _ _ w.drew
  clear c0 c1
  generalize w.drew = w2 at *
  go_wp2_with (go_at_call 23; with_reducible refine C.out.mono ?_; rintro e w1 ⟨rfl, hI, hk⟩)
  go_end0
  exact ⟨rfl, H.out.keep hk hI, CK.out.trans hk.kq⟩

set_option maxRecDepth 100000 in
set_option maxHeartbeats 4000000 in
theorem putName_any (B bw bw2 wb : Nat) (d : DG) (st : WS) (bad : Bool) (w : World) (h : IsP w B bw bw2 wb d st bad) (hlen : st.1.length + 300 ≤ 140737488355328) :
    Calls Tryz.prog 52 #[.pointer (some ⟨wb, 0, none⟩)] w fun e w' => e = .returned (.tuple #[]) ∧ IsP w' B bw bw2 wb d (textS st d.name) bad ∧ Kq B bw wb w w' := by
  have c0 : w.cell? ⟨wb, 0, none⟩ = some (.pointer (some ⟨bw, 0, none⟩)) := h.row.cell 0
  have c1 : w.cell? ⟨wb, 5, none⟩ = some (.string d.name) := h.row.cell 5
  have H := Lib.hid h.drew
  have C := Lib.hid (text_any B bw bw2 st d.name w.drew (IsWS.drew h.ws) hlen)
  have CK := Lib.hid (Kq.drew (Kq.refl B bw wb w))
  clear h
  go_enter Tryz.func52, Tryz.ntmps52
  go_wp2
  go_still_tail 9, (by kernel_rfl)
  change wpList _ _ _ _ _ w.drew
  clear c0 c1
  generalize w.drew = w2 at *
  go_wp2_with (go_at_call 85; with_reducible refine C.out.mono ?_; rintro e w1 ⟨rfl, hI, hk⟩)
  go_end0
  exact ⟨rfl, H.out.keep hk hI, CK.out.trans hk.kq⟩

/-- A player's number as the program lays it. -/
def wrapN (x : Int) : Nat := (x % 18446744073709551616).toNat
theorem wrapN_int (x : Int) : ((wrapN x : Nat) : Int) = IntKind.wrap .u64 x := by
  unfold wrapN
  simp [IntKind.wrap, IntKind.bits, IntKind.signed]
  omega

set_option maxRecDepth 100000 in
set_option maxHeartbeats 4000000 in
theorem putPlayer_any (B bw bw2 wb : Nat) (d : DG) (st : WS) (bad : Bool) (w : World) (h : IsP w B bw bw2 wb d st bad) (hlen : st.1.length + 8 ≤ 140737488355328) :
    Calls Tryz.prog 58 #[.pointer (some ⟨wb, 0, none⟩)] w fun e w' => e = .returned (.tuple #[]) ∧ IsP w' B bw bw2 wb d (numS st (wrapN d.player) 1) (bad || decide (d.player < 0)) ∧ Kq B bw wb w w' := by
  obtain ⟨hlo, hrow, hne, hws⟩ := h
  have c0 : w.cell? ⟨wb, 0, none⟩ = some (.pointer (some ⟨bw, 0, none⟩)) := hrow.cell 0
  have c7 : w.cell? ⟨wb, 7, none⟩ = some (.int .i64 d.player) := hrow.cell 7
  have c16 : w.cell? ⟨wb, 16, none⟩ = some (.bool bad) := hrow.cell 16
  have f16 := hrow.frozen 16
  have hw1 := IsWS.set hws hrow (by decide) (by decide) hne 16 (.bool (bad || decide (d.player < 0)))
  have hr1 := hrow.set 16 (.bool (bad || decide (d.player < 0)))
  have HP0 : IsP (w.setCell ⟨wb, 16, none⟩ (.bool (bad || decide (d.player < 0)))) B bw bw2 wb d st (bad || decide (d.player < 0)) := ⟨hlo, hr1, hne, hw1⟩
  have HP := Lib.hid HP0.drew
  have HX := Lib.hid (wrapN_int d.player)
  have hxl : wrapN d.player < 18446744073709551616 := by unfold wrapN; omega
  have C0 := number_any B bw bw2 st (wrapN d.player) 1 _ (IsWS.drew HP0.ws) (by omega) hxl hlen
  rw [HX.out] at C0
  have CK := Lib.hid (Kq.set (bw := bw) w hlo 16 (.bool (bad || decide (d.player < 0)))).drew
  have d0 := HP0.row.cell 0
  have d7 := HP0.row.cell 7
  have C : Hid (Calls Tryz.prog 24 #[.pointer (some ⟨bw, 0, none⟩), .int .u64 (IntKind.wrap .u64 d.player), .int .i64 1] (w.setCell ⟨wb, 16, none⟩ (.bool (bad || decide (d.player < 0)))).drew fun e w' => e = .returned (.tuple #[]) ∧ IsWS w' B bw bw2 (numS st (wrapN d.player) 1) ∧ Kp B bw (w.setCell ⟨wb, 16, none⟩ (.bool (bad || decide (d.player < 0)))).drew w') := C0
  clear hw1 hr1 hrow hws HP0 C0 hxl
  have e0 : (wcells bw d (bad || decide (d.player < 0)))[0]? = some (.pointer (some ⟨bw, 0, none⟩)) := rfl
  have e7 : (wcells bw d (bad || decide (d.player < 0)))[7]? = some (.int .i64 d.player) := rfl
  rw [e0] at d0
  rw [e7] at d7
  clear e0 e7
  cases bad with
  | true =>
    rw [Bool.true_or] at C HP CK d0 d7 ⊢
    go_enter Tryz.func58, Tryz.ntmps58
    go_wp2
    generalize w.setCell ⟨wb, 16, none⟩ (.bool true) = w1 at *
    go_still_tail 10, (by kernel_rfl)
    change wpList _ _ _ _ _ w1.drew
    generalize w1.drew = w2 at *
    go_wp2_with (go_at_call 24; with_reducible refine C.out.mono ?_; rintro e w1 ⟨rfl, hI, hk⟩)
    go_end0
    exact ⟨rfl, HP.out.keep hk hI, CK.out.trans hk.kq⟩
  | false =>
    rw [Bool.false_or] at C HP CK d0 d7 ⊢
    go_enter Tryz.func58, Tryz.ntmps58
    go_wp2
    generalize w.setCell ⟨wb, 16, none⟩ (.bool (decide (d.player < 0))) = w1 at *
    go_still_tail 10, (by kernel_rfl)
    change wpList _ _ _ _ _ w1.drew
    generalize w1.drew = w2 at *
    go_wp2_with (go_at_call 24; with_reducible refine C.out.mono ?_; rintro e w1 ⟨rfl, hI, hk⟩)
    go_end0
    exact ⟨rfl, HP.out.keep hk hI, CK.out.trans hk.kq⟩
end Go.Proofs.YtejlffeiebfboaaGreatDoor.Put
