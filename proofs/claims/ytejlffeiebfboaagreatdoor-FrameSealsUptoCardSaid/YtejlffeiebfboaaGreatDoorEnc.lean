/- The program's frame.Encode. -/
import Derived.Test.YtejlffeiebfboaaGreatDoorFlds
import Derived.Outline
import Derived.Deep.DeepCutAuto
set_option linter.unusedVariables false
set_option linter.unusedSimpArgs false
namespace Go.Proofs.YtejlffeiebfboaaGreatDoor.Put
open Go Go.RowKit Go.Proofs.YtejlffeiebfboaaGreatDoor.Mem Go.Proofs.YtejlffeiebfboaaGreatDoor.PackW

set_option maxRecDepth 100000 in
set_option maxHeartbeats 4000000 in
theorem encode_unknown (d : DG) (hk : ¬ (1 ≤ d.kind ∧ d.kind ≤ 7)) (w : World) :
    Calls Tryz.prog 9 #[.agg d.cells.toArray] w fun e w' => e = .returned (.tuple #[.string ⟨#[]⟩, .int .i64 71]) ∧ Chg (fun _ => False) w w' := by
  have hb : decide (1 ≤ d.kind ∧ d.kind ≤ 7) = false := by simp; omega
  have C : Hid (∀ w, Calls Tryz.prog 21 #[.int .i64 d.kind] w fun e w' => e = .returned (.bool false) ∧ w = w') := by
    intro w; rw [← hb]; exact known_any d.kind w
  clear hb hk
  unfold DG.cells
  go_enter Tryz.func9, Tryz.ntmps9
  go_wp2_with (go_at_call 21; go_loud (with_reducible refine (C.out _).mono ?_; rintro e w1 ⟨rfl, rfl⟩))
  go_ret2
  exact ⟨rfl, (Chg.refl _ _).alloc _⟩

/-- Behind 'w := &writing{..}'. -/
def EncStart (w0 : World) (d : DG) (p : Value) (wx : World) : Prop :=
  ∃ wb, p = .pointer (some ⟨wb, 0, none⟩) ∧ IsP wx w0.heap.size w0.heap.size (w0.heap.size + 1) wb d ([], 0) false ∧ Chg (fun _ => False) w0 wx
theorem encStart_mk {w0 w1 : World} {d : DG} (h : IsWS w1 w0.heap.size w0.heap.size (w0.heap.size + 1) ([], 0)) (hc : Chg (fun _ => False) w0 w1) :
    EncStart w0 d (.pointer (some ⟨w1.heap.size, 0, none⟩)) (w1.alloc (.cells (wcells w0.heap.size d false).toArray 51)) := by
  have hc2 := (Chg.refl (fun _ => False) w1).alloc (.cells (wcells w0.heap.size d false).toArray 51)
  exact ⟨w1.heap.size, rfl, ⟨hc.size, Row.alloc_new _ _ _, by have := h.hi; omega, IsWS.chg0 h hc2⟩, hc.trans hc2⟩

theorem cell_hd {w : World} {b : Nat} {T : TypeId} {v : Value} {l : List Value} (h : Row w b T (v :: l)) : w.cell? ⟨b, 0, none⟩ = some v := h.cell 0

theorem call_enters {P : Program} {f : FuncId} {fn : Func} (hf : P.funcs[f]? = some fn) (hn : (fn.name == "runtime.NumGoroutine") = false) (hb : fn.body.isSome = true) (args : Array Value) (w : World) :
    (callFunc f args).run P w = .ok (.enter f args) w := by
  have hne : ¬ fn.name = "runtime.NumGoroutine" := by intro e; rw [e] at hn; simp at hn
  obtain ⟨c, hc⟩ := Option.isSome_iff_exists.1 hb
  simp [callFunc, hf, hne, hc]
theorem put_enter (f : Fld) (args : Array Value) (w : World) : (callFunc f.putF args).run Tryz.prog w = .ok (.enter f.putF args) w := by
  cases f with
  | nonce => exact call_enters Tryz.func44 (by kernel_rfl) (by kernel_rfl) args w
  | zeros => exact call_enters Tryz.func46 (by kernel_rfl) (by kernel_rfl) args w
  | epoch => exact call_enters Tryz.func48 (by kernel_rfl) (by kernel_rfl) args w
  | cookie => exact call_enters Tryz.func50 (by kernel_rfl) (by kernel_rfl) args w
  | name => exact call_enters Tryz.func52 (by kernel_rfl) (by kernel_rfl) args w
  | tag => exact call_enters Tryz.func54 (by kernel_rfl) (by kernel_rfl) args w
  | session => exact call_enters Tryz.func56 (by kernel_rfl) (by kernel_rfl) args w
  | salt => exact call_enters Tryz.func60 (by kernel_rfl) (by kernel_rfl) args w
  | seq => exact call_enters Tryz.func62 (by kernel_rfl) (by kernel_rfl) args w
  | player => exact call_enters Tryz.func58 (by kernel_rfl) (by kernel_rfl) args w
  | data => exact call_enters Tryz.func66 (by kernel_rfl) (by kernel_rfl) args w
  | command => exact call_enters Tryz.func64 (by kernel_rfl) (by kernel_rfl) args w
/-- At the head of the loop over the fields. -/
def EncInv (d : DG) (L : List Fld) (st0 : WS) (B wb fb : Nat) (w4 : World) (k : Nat) (wr : World) : Prop :=
  IsP wr B B (B + 1) wb d (stsF d st0 (L.take k)) (bdsF d false (L.take k)) ∧ Row wr fb 59 (fcells L) ∧ Chg (fun k => B ≤ k) w4 wr
def magicB : List UInt8 := [74, 48, 49]
/-- The writer's state ahead of the fields. -/
def headS (d : DG) : WS := layS (layS ([], 0) magicB) [UInt8.ofNat d.kind.toNat]

theorem ret2_eq {s : ByteArray} {x : Int} {R : ByteArray × Int} (h : R = (s, x)) : Ending.returned (.tuple #[.string s, .int .i64 x]) = Ending.returned (.tuple #[.string R.1, .int .i64 R.2]) := by rw [h]
/-- What Encode gives for a known kind. -/
def encR (bad : Bool) (st : WS) : ByteArray × Int :=
  if bad = true then (⟨#[]⟩, 73) else if (doneS st).2 ≠ 0 then (⟨#[]⟩, 73) else if 1200 < (doneS st).1.size then (⟨#[]⟩, 72) else ((doneS st).1, 0)
theorem isP_bad {w : World} {B bw bw2 wb : Nat} {d : DG} {st : WS} {bad : Bool} (h : IsP w B bw bw2 wb d st bad) : w.cell? ⟨wb, 16, none⟩ = some (.bool bad) := h.row.cell 16
theorem isP_bad_chg {w w' : World} {B bw bw2 wb : Nat} {d : DG} {st : WS} {bad : Bool} (h : IsP w B bw bw2 wb d st bad) (hc : Chg (fun _ => False) w w') : w'.cell? ⟨wb, 16, none⟩ = some (.bool bad) := isP_bad (IsP.chg0 h hc)

set_option maxRecDepth 100000 in
set_option maxHeartbeats 4000000 in
theorem encode_known (d : DG) (hd : d.Ok) (hz : (headS d).1.length + sizeF d (flds d.kind) ≤ 140737488355328) (h1 : 1 ≤ d.kind) (h7 : d.kind ≤ 7) (w : World) :
    Calls Tryz.prog 9 #[.agg d.cells.toArray] w fun e w' => e = .returned (.tuple #[.string (encR (bdsF d false (flds d.kind)) (stsF d (headS d) (flds d.kind))).1, .int .i64 (encR (bdsF d false (flds d.kind)) (stsF d (headS d) (flds d.kind))).2]) ∧ Chg (fun _ => False) w w' := by
  obtain ⟨R, hR⟩ : ∃ R, Hid (encR (bdsF d false (flds d.kind)) (stsF d (headS d) (flds d.kind)) = R) := ⟨_, rfl⟩
  rw [hR.out]
  have hb : decide (1 ≤ d.kind ∧ d.kind ≤ 7) = true := by simp; omega
  have C : Hid (∀ w, Calls Tryz.prog 21 #[.int .i64 d.kind] w fun e w' => e = .returned (.bool true) ∧ w = w') := by
    intro w; rw [← hb]; exact known_any d.kind w
  have H1 := Lib.hid h1
  have HZ := Lib.hid hz
  clear hz
  have H7 := Lib.hid h7
  clear hb h1 h7
  have hcl : d.cells.toArray = #[.int .i64 d.kind, .string d.nonce, .int .u64 d.epoch, .string d.cookie, .string d.name, .int .u64 d.session, .int .i64 d.player, .string d.salt, .int .u64 d.seq, .int .i64 d.throttle, .int .i64 d.turn, .bool d.fire, .bool d.boost, .string d.data, .string d.tag] := rfl
  rw [hcl]
  clear hcl
  go_enter Tryz.func9, Tryz.ntmps9
  go_wp2_with (go_at_call 21; go_loud (with_reducible refine (C.out _).mono ?_; rintro e w1 ⟨rfl, rfl⟩))
  have hr := Row.alloc_new w 26 d.cells
  have hc0 : Chg (fun _ => False) w (w.alloc (.cells d.cells.toArray 26)) := (Chg.refl _ _).alloc _
  replace hr : Row (w.alloc (.cells #[.int .i64 d.kind, .string d.nonce, .int .u64 d.epoch, .string d.cookie, .string d.name, .int .u64 d.session, .int .i64 d.player, .string d.salt, .int .u64 d.seq, .int .i64 d.throttle, .int .i64 d.turn, .bool d.fire, .bool d.boost, .string d.data, .string d.tag] 26)) w.heap.size 26 [.int .i64 d.kind, .string d.nonce, .int .u64 d.epoch, .string d.cookie, .string d.name, .int .u64 d.session, .int .i64 d.player, .string d.salt, .int .u64 d.seq, .int .i64 d.throttle, .int .i64 d.turn, .bool d.fire, .bool d.boost, .string d.data, .string d.tag] := hr
  replace hc0 : Chg (fun _ => False) w (w.alloc (.cells #[.int .i64 d.kind, .string d.nonce, .int .u64 d.epoch, .string d.cookie, .string d.name, .int .u64 d.session, .int .i64 d.player, .string d.salt, .int .u64 d.seq, .int .i64 d.throttle, .int .i64 d.turn, .bool d.fire, .bool d.boost, .string d.data, .string d.tag] 26)) := hc0
  generalize w.alloc (.cells #[.int .i64 d.kind, .string d.nonce, .int .u64 d.epoch, .string d.cookie, .string d.name, .int .u64 d.session, .int .i64 d.player, .string d.salt, .int .u64 d.seq, .int .i64 d.throttle, .int .i64 d.turn, .bool d.fire, .bool d.boost, .string d.data, .string d.tag] 26) = w0 at *
  have HR := Lib.hid hr
  have HC0 := Lib.hid hc0
  clear hr hc0
  have HWB : Hid (∀ w', Chg (fun k => w0.heap.size ≤ k) w w' → Chg (fun _ => False) w w') := fun w' h => h.mono (fun k hk hk2 => by have := HC0.out.size; omega)
  generalize w.heap.size = b at *
  have q0 := HR.out.cell
  go_cut [4] (fun p wx => EncStart w0 d p wx)
  case first =>
    --DEV{
    go_region_with (go_at_call 22; go_loud (with_reducible refine (newWriter_any _).mono ?_; rintro e w1 ⟨rfl, hW, hc⟩; (have q1 := (HR.out.drew.chg hc id).cell)))
    all_goals (go_wp2_with fail; go_meet; exact encStart_mk hW ((Chg.refl _ _).drew.trans hc))
    --DEV}
  case rest =>
    clear q0
    obtain ⟨wb, rfl, hP, hc1⟩ := hcut
    have hbB : b < w0.heap.size := HR.out.lt
    generalize w0.heap.size = B at *
    have hk1 : wc.cell? ⟨b, 0, none⟩ = some (.int .i64 d.kind) := (HR.out.chg hc1 id).cell 0
    have HC1 := Lib.hid (HC0.out.trans hc1)
    have e0 := IsP.cell0 hP
    have C1 : Hid (Calls Tryz.prog 23 #[.pointer (some ⟨B, 0, none⟩), .string ⟨#[74, 48, 49]⟩] wc fun e w' => e = .returned (.tuple #[]) ∧ IsWS w' B B (B + 1) (layS ([], 0) magicB) ∧ Kp B B wc w') := bytes_any B B (B + 1) ([], 0) ⟨#[74, 48, 49]⟩ wc hP.ws (by decide)
    have HP := Lib.hid hP
    have HR1 := Lib.hid (HR.out.chg hc1 id)
    clear hc1 hP HC0 HR
    go_wp2_with (go_at_call 23; go_loud (with_reducible refine C1.out.mono ?_; rintro e w1 ⟨rfl, hI, hk⟩))
    have P1 := HP.out.keep hk hI
    have hF : ¬ B ≤ b := by omega
    have e1 := IsP.cell0 P1
    have R1 := HR1.out.chg hk.chg hF
    have k1 : w1.cell? ⟨b, 0, none⟩ = some (.int .i64 d.kind) := R1.cell 0
    have hkn : IntKind.wrap .u64 d.kind = (d.kind.toNat : Int) := by
      have := H1.out; have := H7.out
      simp [IntKind.wrap, IntKind.bits, IntKind.signed]; omega
    have C2 := Lib.hid (byte_any B B (B + 1) (layS ([], 0) magicB) d.kind.toNat (IntKind.wrap .u64 d.kind) hkn (by have := H7.out; omega) w1.drew (IsWS.drew hI) (by decide))
    have PP1 := Lib.hid P1.drew
    have RR1 := Lib.hid R1.drew
    have KK1 := Lib.hid (Kq.drew (Kp.kq (wb := wb) hk))
    clear hkn P1 R1 hk hI C1 HP HR1 e0 hk1
    go_still_tail 7, (by kernel_rfl)
    change wpList _ _ _ _ _ w1.drew
    clear e1 k1
    generalize w1.drew = w2 at *
    have CF : Hid (∀ w, Calls Tryz.prog 25 #[.int .i64 d.kind] w fun e w' => e = .returned (.slice (some ⟨w.heap.size, 0, none⟩) (flds d.kind).length (flds d.kind).length) ∧ Row w' w.heap.size 59 (fcells (flds d.kind)) ∧ Chg (fun _ => False) w w') := fields_any d.kind H1.out H7.out
    go_wp2_with (first
      | (go_at_call 24; go_loud (with_reducible refine C2.out.mono ?_; rintro e w3 ⟨rfl, hI2, hk2⟩; (have P3 := PP1.out.keep hk2 hI2); (have k3 : w3.cell? ⟨b, 0, none⟩ = some (.int .i64 d.kind) := cell_hd (RR1.out.chg hk2.chg hF))))
      | (go_at_call 25; go_loud (with_reducible refine (CF.out _).mono ?_; rintro e w4 ⟨rfl, hfr, hfc⟩)))
    have hfb : B ≤ w3.heap.size := by have := hI2.hi; omega
    have hne1 : w3.heap.size ≠ B := by have := hI2.hi; omega
    have hne2 : w3.heap.size ≠ wb := by have := P3.row.lt; omega
    have Hd := Lib.hid hd
    have hI0 : EncInv d (flds d.kind) (headS d) B wb w3.heap.size w4 0 w4 := ⟨IsP.chg0 P3 hfc, hfr, Chg.refl _ _⟩
    have HCC := Lib.hid ((((HC1.out.mono (G := fun k => B ≤ k) (fun _ _ h => h.elim)).trans KK1.out.chg).trans hk2.chg).trans (hfc.mono (fun _ _ h => h.elim)))
    have hn5 := (flds_len d.kind).2
    clear C C2 PP1 RR1 KK1 CF hI2 hk2 P3 k3 hfr hfc HC1 hbB hF hd
    generalize hfbe : w3.heap.size = fb at *
    clear hfbe w3
    generalize headS d = st0 at *
    generalize flds d.kind = L at *
    obtain ⟨n, hn⟩ : ∃ n, Hid (L.length = n) := ⟨_, rfl⟩
    rw [hn.out] at hn5 ⊢
    go_loopw [34] (fun i wr => ∃ k : Nat, k ≤ n ∧ i = .int .i64 k ∧ EncInv d L st0 B wb fb w4 k wr) (fun i _ => n - (intOf i).toNat)
    case atStart => exact ⟨0, by omega, rfl, hI0⟩
    case round =>
      obtain ⟨k, hk, rfl, hInv⟩ := hrel
      by_cases hlt : k < n
      · obtain ⟨hP, hRw, hC⟩ := hInv
        have hkL : k < L.length := by rw [hn.out]; exact hlt
        have g0 : wr.cell? ⟨fb, k * 2, none⟩ = some (.func (.func (L[k]).getF) #[] #[]) := by rw [hRw.cell, Nat.mul_comm]; exact fcells_get L k hkL
        have g1 : wr.cell? ⟨fb, k * 2 + 1, none⟩ = some (.func (.func (L[k]).putF) #[] #[]) := by rw [hRw.cell, Nat.mul_comm]; exact fcells_put L k hkL
        have hltI : (k : Int) < (n : Int) := by omega
        have hcf := fun w => put_enter L[k] #[.pointer (some ⟨wb, 0, none⟩)] w
        have hla : Chg (fun _ => False) wr (wr.alloc (.cells #[.func (.func (L[k]).getF) #[] #[], .func (.func (L[k]).putF) #[] #[]] 59)) := (Chg.refl _ _).alloc _
        have hlen : (stsF d st0 (L.take k)).1.length + (L[k]).size d ≤ 140737488355328 := by
          have h1 := stsF_len d st0 (L.take k)
          have h2 := sizeF_take d L k hkL
          have := HZ.out
          omega
        have CP := Lib.hid (put_any L[k] B B (B + 1) wb d _ _ _ Hd.out (IsP.chg0 hP hla) hlen)
        have hS : EncInv d L st0 B wb fb w4 k wr := ⟨hP, hRw, hC⟩
        have HS := Lib.hid hS
        have HLA := Lib.hid hla
        clear hS hla hlen hP hRw hC
        go_wp2_with (fail)
        with_reducible refine CP.out.mono ?_
        rintro e w5 ⟨rfl, hP5, hk5⟩
        go_wp2
        go_roundw
        case rel =>
          refine ⟨k + 1, by omega, by go_num, ?_⟩
          refine ⟨?_, ?_, ?_⟩
          · rw [stsF_snoc d st0 L k hkL, bdsF_snoc d false L k hkL]; exact hP5
          · exact hk5.rows _ _ _ (by decide) hne1 hne2 (HS.out.2.1.chg HLA.out id)
          · exact (HS.out.2.2.trans (HLA.out.mono (fun _ _ h => h.elim))).trans hk5.chg
        case measure => simp [intOf]; omega
      · have hltI : ¬ (k : Int) < (n : Int) := by omega
        obtain ⟨hP, hRw, hC⟩ := hInv
        have hkn : L.take k = L := List.take_of_length_le (by rw [hn.out]; omega)
        rw [hkn] at hP
        clear hkn hI0
        generalize hst : stsF d st0 L = st at *
        generalize hbd : bdsF d false L = bad at *
        have e0 := IsP.cell0 hP
        have CD0 := done_any B B (B + 1) st wr hP.ws
        obtain ⟨s, hs⟩ : ∃ s, Hid ((doneS st).1 = s) := ⟨_, rfl⟩
        obtain ⟨err, he⟩ : ∃ err, Hid ((doneS st).2 = err) := ⟨_, rfl⟩
        rw [hs.out, he.out] at CD0
        have CD := Lib.hid CD0
        have HP := Lib.hid hP
        have HC := Lib.hid hC
        clear CD0 hP hRw hC
        have key : (bad = true) ∨ (bad = false ∧ (err != 0) = true) ∨ (bad = false ∧ (err != 0) = false ∧ (1200 : Int) < s.size) ∨ (bad = false ∧ (err != 0) = false ∧ ¬ (1200 : Int) < s.size) := by
          cases bad
          · right
            by_cases h0 : err = 0
            · right
              by_cases h1 : (1200 : Int) < s.size
              · exact .inl ⟨rfl, by simp [h0], h1⟩
              · exact .inr ⟨rfl, by simp [h0], h1⟩
            · exact .inl ⟨rfl, by simp [h0]⟩
          · exact .inl rfl
        rcases key with rfl | ⟨rfl, hb1⟩ | ⟨rfl, hb1, hb2⟩ | ⟨rfl, hb1, hb2⟩
        all_goals
          go_wp2_with (go_at_call 26; with_reducible refine CD.out.mono ?_; rintro e w6 ⟨rfl, hc6⟩; (have q6 := isP_bad_chg HP.out hc6))
          go_ret2
          refine ⟨?_, HWB.out _ ((HCC.out.trans HC.out).trans (hc6.mono (fun _ _ h => h.elim)))⟩
          refine ret2_eq ?_
          rw [← hR.out]
          unfold encR
          rw [hs.out, he.out]
          first
            | rfl
            | (have hb3 : err ≠ 0 := by simpa using hb1
               simp [hb3])
            | (have hb3 : err = 0 := by simpa using hb1
               have hb4 : 1200 < s.size := by omega
               simp [hb3, hb4])
            | (have hb3 : err = 0 := by simpa using hb1
               have hb4 : ¬ 1200 < s.size := by omega
               simp only [hb3, hb4]; rfl)
theorem headS_len (d : DG) : (headS d).1.length = 4 := rfl
/-- frame.Encode. -/
def encode (d : DG) : ByteArray × Int :=
  if 1 ≤ d.kind ∧ d.kind ≤ 7 then encR (bdsF d false (flds d.kind)) (stsF d (headS d) (flds d.kind)) else (⟨#[]⟩, 71)
theorem encode_any (d : DG) (hd : d.Ok) (hz : 4 + sizeF d (flds d.kind) ≤ 140737488355328) (w : World) :
    Calls Tryz.prog 9 #[.agg d.cells.toArray] w fun e w' => e = .returned (.tuple #[.string (encode d).1, .int .i64 (encode d).2]) ∧ Chg (fun _ => False) w w' := by
  by_cases h : 1 ≤ d.kind ∧ d.kind ≤ 7
  · unfold encode; rw [if_pos h]; exact encode_known d hd (by rw [headS_len]; exact hz) h.1 h.2 w
  · unfold encode; rw [if_neg h]; exact encode_unknown d h w
end Go.Proofs.YtejlffeiebfboaaGreatDoor.Put
