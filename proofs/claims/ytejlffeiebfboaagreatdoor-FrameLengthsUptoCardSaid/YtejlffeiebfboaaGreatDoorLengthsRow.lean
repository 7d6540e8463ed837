/- FrameLengths: which heads with like bytes behind them are datagrams (the statement's second form: what comes in is of bulk at most 1048576). The row, and its card. -/
import Derived.Test.YtejlffeiebfboaaGreatDoorLenWalk
import Derived.Test.YtejlffeiebfboaaGreatDoorLaid
import Derived.Test.YtejlffeiebfboaaGreatDoorOpen
import Derived.Test.YtejlffeiebfboaaGreatDoorCards
import Derived.Test.YtejlffeiebfboaaGreatDoorTie
set_option linter.unusedVariables false
set_option linter.unusedSimpArgs false
namespace Go.Proofs.YtejlffeiebfboaaGreatDoor.Law
open Go Go.RowKit Go.WideShapes Go.ChangeShapes Go.ChangeAt Go.Proofs.YtejlffeiebfboaaGreatDoor.Mem Go.Proofs.YtejlffeiebfboaaGreatDoor.PackW Go.Proofs.YtejlffeiebfboaaGreatDoor.Put Go.Proofs.YtejlffeiebfboaaGreatDoor.Get

theorem frameLengths_rowed : ∀ t ∈ [3, 3, 5], Tryz.prog.readableRec t = true ∧ t < Tryz.prog.types.size := by
  intro t ht
  simp only [List.mem_cons, List.not_mem_nil, or_false] at ht
  rcases ht with rfl | rfl | rfl <;> exact ⟨by kernel_rfl, of_decide_eq_true (by kernel_rfl)⟩

set_option maxRecDepth 100000 in
theorem frameLengths_contract (H : Type) (enc : TypeId × Value → H) (W : World) (base : Nat) (args : Array Value) (ds gs : List (DataW H)) (before : List MemPlace)
    (hval : ∀ (j : Nat) t v, Tryz.f5.params[j]? = some t → args[j]? = some v → Value.okWide Tryz.prog W .any base t v)
    (hW : DataW.Whole enc Tryz.prog Tryz.f5.params.toList Rows.frameLengthsSpec.vars false W args.toList ds gs before) (hL : laidMetH Tryz.prog Rows.frameLengthsUptoRow.laid W)
    (hb : Rows.uptoSmall H (ds ++ gs) = true) :
    Calls Tryz.prog 5 args W fun e W' => ∃ v, e = .returned v ∧ Rows.frameLengthsSpec.post enc Tryz.prog Tryz.f5 false true false false W args v W' := by
  have hW' := hW
  have hp : Tryz.f5.params.toList = [3, 3, 5] := by rw [Tryz.params5]
  obtain ⟨p, q, hA, hV, rfl, hfz, hnd⟩ := hW
  rw [hp] at hA
  rw [Tryz.params5] at hval
  obtain ⟨v0, vs0, e0, ds0, p0, q0, hargs, rfl, rfl, h0, r0⟩ := trodAll_cons hA
  obtain ⟨v1, vs1, e1, ds1, p1, q1, rfl, rfl, rfl, h1, r1⟩ := trodAll_cons r0
  obtain ⟨v2, vs2, e2, ds2, p2, q2, rfl, rfl, rfl, h2, r2⟩ := trodAll_cons r1
  obtain ⟨rfl, rfl, rfl⟩ := trodAll_nil r2
  obtain rfl : args = #[v0, v1, v2] := by cases args; simp_all
  obtain ⟨rfl, rfl⟩ := trodVars_none hV
  obtain ⟨k, rfl, rfl, rfl, hk⟩ := open_int Tryz.underlying3 (hval 0 3 v0 rfl rfl) h0
  obtain ⟨n, rfl, rfl, rfl, hn⟩ := open_int Tryz.underlying3 (hval 1 3 v1 rfl rfl) h1
  obtain ⟨c, rfl, rfl, rfl, hc⟩ := open_int Tryz.underlying5 (hval 2 5 v2 rfl rfl) h2
  have hT : Tbl W := tab_of hL
  refine (lengths_any k n c hk hn hc W hT).mono fun e W' ⟨he, hcc⟩ => ?_
  subst he
  exact ⟨_, rfl, Post.law_true laidOut (by rw [hp]; exact frameLengths_rowed) (by kernel_rfl) Tryz.underlying4 rfl rfl hW' hcc.below⟩

def frameLengths_laidL : List (Nat × DataW Unit) := [(0, Rows.laid_joust_sha_rounds), (5, Rows.laid_unicode_utf8_acceptRanges), (4, Rows.laid_unicode_utf8_first)]
def frameLengths_args : Array Value := #[.int .i64 0, .int .i64 0, .int .u8 0]
theorem frameLengths_laid (os : Os) : laidMet Tryz.prog Rows.frameLengthsUptoRow.laid ((laidW os frameLengths_args frameLengths_laidL).forCall (fun _ _ => 0) ⟨#[], frameLengths_args, []⟩).memory :=
  laidMet_of_run' 8 (by kernel_rfl) (by kernel_rfl)
theorem frameLengths_reads (os : Os) {H : Type} (enc : TypeId × Value → H) : ∃ places, DataW.whole enc Tryz.prog ((laidW os frameLengths_args frameLengths_laidL).forCall (fun _ _ => 0) ⟨#[], frameLengths_args, []⟩).memory Tryz.f5.params.toList Rows.frameLengthsSpec.vars false frameLengths_args.toList 8 = some ([.lit (.int .i64 0), .lit (.int .i64 0), .lit (.int .u8 0)], [], places) :=
  ⟨[], by kernel_rfl⟩

set_option maxRecDepth 100000 in
theorem frameLengths_lifted (os : Os) (started : os.Started) (H : Type) (enc : TypeId × Value → H) (F : Stop.Interp) :
    ReturnsInHanded {} Tryz.checked os 5 .any ((Rows.OpenSpec.upto Rows.frameLengthsSpec).preRow enc Tryz.prog Tryz.f5 Rows.frameLengthsUptoRow.domain false Rows.frameLengthsUptoRow.laid) (((Rows.OpenSpec.upto Rows.frameLengthsSpec).at F).post enc Tryz.prog Tryz.f5 false true false false) := by
  obtain ⟨places, hx⟩ := frameLengths_reads os enc
  refine returnsInHanded_of_row (C := Tryz.checked) (s := Rows.OpenSpec.upto Rows.frameLengthsSpec) own started (by kernel_rfl) Tryz.func5
    (witness_row_at (enc := enc) (C := Tryz.checked) false (laidW os frameLengths_args frameLengths_laidL) frameLengths_args rfl (by kernel_rfl) (by kernel_rfl) (by kernel_rfl)
      (OpenSpec.preRow_of_cond 8 hx (by kernel_rfl) (fun k hk => by cases hk; kernel_rfl) (by kernel_rfl) (frameLengths_laid os))) ?_
  intro W base args ds gs before hval hW _ hcond _ hL _ _
  exact frameLengths_contract H enc W base args ds gs before hval hW hL (hcond _ rfl)

theorem frameLengths_said : Rows.FrameLengthsUptoSaid :=
  OpenClaim.holds_of_cond 5 Tryz.f5 rfl rfl rfl rfl rfl rfl rfl ⟨rfl, rfl, rfl, rfl, rfl⟩ rfl rfl rfl rfl rfl (by kernel_rfl) Tryz.func5 (by kernel_rfl)
    (of_decide_eq_true (by kernel_rfl)) (by unfold Func.isWrapper; first | (rw [if_pos (by decide +kernel)]; kernel_rfl) | (rw [if_neg (by decide +kernel)]; exact ⟨rfl, rfl⟩))
    (fun os started H enc _ F => by rw [OpenClaim.pre_eq_preRow]; exact frameLengths_lifted os started H enc F)

theorem frameLengths_plain (f : FuncId) (fn : Func) (hf : Tryz.pinned.checked.prog.funcNamed "joust/joustlaw07.FrameLengths" = some f) (hfn : Tryz.pinned.checked.prog.funcs[f]? = some fn) :
    true = Tryz.pinned.checked.prog.looks [] ∧ ∀ (j : Nat) t, fn.params[j]? = some t → Tryz.pinned.checked.prog.wantsStandIn t = false := by
  obtain rfl : f = 5 := Option.some.inj ((show Tryz.prog.funcNamed "joust/joustlaw07.FrameLengths" = some 5 by kernel_rfl).symm.trans hf) |>.symm
  obtain rfl : fn = Tryz.f5 := (Option.some.inj (Tryz.func5.symm.trans hfn)).symm
  refine ⟨by kernel_rfl, fun j t ht => ?_⟩
  rw [Tryz.params5] at ht
  have w0 : Tryz.prog.wantsStandIn 3 = false := by kernel_rfl
  have w1 : Tryz.prog.wantsStandIn 5 = false := by kernel_rfl
  have := Array.mem_of_getElem? ht
  simp only [List.mem_toArray, List.mem_cons, List.not_mem_nil, or_false] at this
  rcases this with rfl | rfl | rfl
  · exact w0
  · exact w0
  · exact w1

theorem frameLengths_card : Rows.FrameLengthsUptoCardSaid :=
  Claim7.holds_tied_plain_at .later [] _ _ _ _ frameLengths_said (fun _ h => by cases h) (by kernel_rfl) (fun _ h => by cases h) frameLengthsUpto_row_tie rfl ⟨rfl, rfl⟩ (by kernel_rfl) rfl frameLengths_plain (by kernel_rfl)
end Go.Proofs.YtejlffeiebfboaaGreatDoor.Law
