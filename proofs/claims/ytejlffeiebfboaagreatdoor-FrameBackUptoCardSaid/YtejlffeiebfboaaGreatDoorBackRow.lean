/- FrameBack: what is written is taken apart to the same, and the other way (the statement's second form: what comes in is of bulk at most 1048576). The row, and its card. -/
import Derived.Test.YtejlffeiebfboaaGreatDoorBackWalk
import Derived.Test.YtejlffeiebfboaaGreatDoorSizes
import Derived.Test.YtejlffeiebfboaaGreatDoorLaid
import Derived.Test.YtejlffeiebfboaaGreatDoorOpen
import Derived.Test.YtejlffeiebfboaaGreatDoorCards
import Derived.Test.YtejlffeiebfboaaGreatDoorTie
set_option linter.unusedVariables false
set_option linter.unusedSimpArgs false
namespace Go.Proofs.YtejlffeiebfboaaGreatDoor.Law
open Go Go.RowKit Go.WideShapes Go.ChangeShapes Go.ChangeAt Go.Proofs.YtejlffeiebfboaaGreatDoor.Mem Go.Proofs.YtejlffeiebfboaaGreatDoor.PackW Go.Proofs.YtejlffeiebfboaaGreatDoor.Put Go.Proofs.YtejlffeiebfboaaGreatDoor.Get

theorem frameBack_rowed : ∀ t ∈ [26, 9], Tryz.prog.readableRec t = true ∧ t < Tryz.prog.types.size := by
  intro t ht
  simp only [List.mem_cons, List.not_mem_nil, or_false] at ht
  rcases ht with rfl | rfl <;> exact ⟨by kernel_rfl, of_decide_eq_true (by kernel_rfl)⟩

set_option maxRecDepth 100000 in
theorem frameBack_contract (H : Type) (enc : TypeId × Value → H) (W : World) (base : Nat) (args : Array Value) (ds gs : List (DataW H)) (before : List MemPlace)
    (hval : ∀ (j : Nat) t v, Tryz.f4.params[j]? = some t → args[j]? = some v → Value.okWide Tryz.prog W .any base t v)
    (hW : DataW.Whole enc Tryz.prog Tryz.f4.params.toList Rows.frameBackSpec.vars false W args.toList ds gs before) (hL : laidMetH Tryz.prog Rows.frameBackUptoRow.laid W)
    (hb : Rows.uptoSmall H (ds ++ gs) = true) :
    Calls Tryz.prog 4 args W fun e W' => ∃ v, e = .returned v ∧ Rows.frameBackSpec.post enc Tryz.prog Tryz.f4 false true false false W args v W' := by
  have hW' := hW
  have hp : Tryz.f4.params.toList = [26, 9] := by rw [Tryz.params4]
  obtain ⟨p, q, hA, hV, rfl, hfz, hnd⟩ := hW
  rw [hp] at hA
  rw [Tryz.params4] at hval
  obtain ⟨v0, vs0, e0, ds0, p0, q0, hargs, rfl, rfl, h0, r0⟩ := trodAll_cons hA
  obtain ⟨v1, vs1, e1, ds1, p1, q1, rfl, rfl, rfl, h1, r1⟩ := trodAll_cons r0
  obtain ⟨rfl, rfl, rfl⟩ := trodAll_nil r1
  obtain rfl : args = #[v0, v1] := by cases args; simp_all
  obtain ⟨rfl, rfl⟩ := trodVars_none hV
  obtain ⟨a, ha, rfl, rfl, rfl⟩ := open_dg (hval 0 26 v0 rfl rfl) h0
  obtain ⟨data, rfl, rfl, rfl, hdatas⟩ := ChangeMaps.open_string Tryz.underlying9 (hval 1 9 v1 rfl rfl) h1
  have hbk2 : Rows.uptoBulkAll [dgData (H := H) a, DataW.lit (H := H) (.string data.data.toList)] ≤ 1048576 := of_decide_eq_true hb
  simp only [Rows.uptoBulkAll, dg_bulk, str_bulk] at hbk2
  have hT : Tbl W := tab_of hL
  refine (back_any a data ha (size_le0 a _ (by omega)) (by have := hdatas; unfold maxLen at this; omega) W hT).mono fun e W' ⟨he, hc⟩ => ?_
  subst he
  exact ⟨_, rfl, Post.law_true laidOut (by rw [hp]; exact frameBack_rowed) (by kernel_rfl) Tryz.underlying4 rfl rfl hW' hc.below⟩

def frameBack_laidL : List (Nat × DataW Unit) := [(0, Rows.laid_joust_sha_rounds), (5, Rows.laid_unicode_utf8_acceptRanges), (4, Rows.laid_unicode_utf8_first)]
def frameBack_args : Array Value := #[.agg d0.cells.toArray, .string ⟨#[]⟩]
theorem frameBack_laid (os : Os) : laidMet Tryz.prog Rows.frameBackUptoRow.laid ((laidW os frameBack_args frameBack_laidL).forCall (fun _ _ => 0) ⟨#[], frameBack_args, []⟩).memory :=
  laidMet_of_run' 8 (by kernel_rfl) (by kernel_rfl)
theorem frameBack_reads (os : Os) {H : Type} (enc : TypeId × Value → H) : ∃ places, DataW.whole enc Tryz.prog ((laidW os frameBack_args frameBack_laidL).forCall (fun _ _ => 0) ⟨#[], frameBack_args, []⟩).memory Tryz.f4.params.toList Rows.frameBackSpec.vars false frameBack_args.toList 8 = some ([dgData d0, .lit (.string [])], [], places) :=
  ⟨[], by kernel_rfl⟩

set_option maxRecDepth 100000 in
theorem frameBack_lifted (os : Os) (started : os.Started) (H : Type) (enc : TypeId × Value → H) (F : Stop.Interp) :
    ReturnsInHanded {} Tryz.checked os 4 .any ((Rows.OpenSpec.upto Rows.frameBackSpec).preRow enc Tryz.prog Tryz.f4 Rows.frameBackUptoRow.domain false Rows.frameBackUptoRow.laid) (((Rows.OpenSpec.upto Rows.frameBackSpec).at F).post enc Tryz.prog Tryz.f4 false true false false) := by
  obtain ⟨places, hx⟩ := frameBack_reads os enc
  refine returnsInHanded_of_row (C := Tryz.checked) (s := Rows.OpenSpec.upto Rows.frameBackSpec) own started (by kernel_rfl) Tryz.func4
    (witness_row_at (enc := enc) (C := Tryz.checked) false (laidW os frameBack_args frameBack_laidL) frameBack_args rfl (by kernel_rfl) (by kernel_rfl) (by kernel_rfl)
      (OpenSpec.preRow_of_cond 8 hx (by kernel_rfl) (fun k hk => by cases hk; kernel_rfl) (by kernel_rfl) (frameBack_laid os))) ?_
  intro W base args ds gs before hval hW _ hcond _ hL _ _
  exact frameBack_contract H enc W base args ds gs before hval hW hL (hcond _ rfl)

theorem frameBack_said : Rows.FrameBackUptoSaid :=
  OpenClaim.holds_of_cond 4 Tryz.f4 rfl rfl rfl rfl rfl rfl rfl ⟨rfl, rfl, rfl, rfl, rfl⟩ rfl rfl rfl rfl rfl (by kernel_rfl) Tryz.func4 (by kernel_rfl)
    (of_decide_eq_true (by kernel_rfl)) (by unfold Func.isWrapper; first | (rw [if_pos (by decide +kernel)]; kernel_rfl) | (rw [if_neg (by decide +kernel)]; exact ⟨rfl, rfl⟩))
    (fun os started H enc _ F => by rw [OpenClaim.pre_eq_preRow]; exact frameBack_lifted os started H enc F)

theorem frameBack_plain (f : FuncId) (fn : Func) (hf : Tryz.pinned.checked.prog.funcNamed "joust/joustlaw07.FrameBack" = some f) (hfn : Tryz.pinned.checked.prog.funcs[f]? = some fn) :
    true = Tryz.pinned.checked.prog.looks [] ∧ ∀ (j : Nat) t, fn.params[j]? = some t → Tryz.pinned.checked.prog.wantsStandIn t = false := by
  obtain rfl : f = 4 := Option.some.inj ((show Tryz.prog.funcNamed "joust/joustlaw07.FrameBack" = some 4 by kernel_rfl).symm.trans hf) |>.symm
  obtain rfl : fn = Tryz.f4 := (Option.some.inj (Tryz.func4.symm.trans hfn)).symm
  refine ⟨by kernel_rfl, fun j t ht => ?_⟩
  rw [Tryz.params4] at ht
  have w0 : Tryz.prog.wantsStandIn 26 = false := by kernel_rfl
  have w1 : Tryz.prog.wantsStandIn 9 = false := by kernel_rfl
  have := Array.mem_of_getElem? ht
  simp only [List.mem_toArray, List.mem_cons, List.not_mem_nil, or_false] at this
  rcases this with rfl | rfl
  · exact w0
  · exact w1

theorem frameBack_card : Rows.FrameBackUptoCardSaid :=
  Claim7.holds_tied_plain_at .later [] _ _ _ _ frameBack_said (fun _ h => by cases h) (by kernel_rfl) (fun _ h => by cases h) frameBackUpto_row_tie rfl ⟨rfl, rfl⟩ (by kernel_rfl) rfl frameBack_plain (by kernel_rfl)
end Go.Proofs.YtejlffeiebfboaaGreatDoor.Law
