/- FrameSeals: what is sealed is its body and the tag over it (the statement's second form: what comes in is of bulk at most 1048576). The row, and its card. -/
import Derived.Test.YtejlffeiebfboaaGreatDoorSealsAny
import Derived.Test.YtejlffeiebfboaaGreatDoorSizes
import Derived.Test.YtejlffeiebfboaaGreatDoorLaid
import Derived.Test.YtejlffeiebfboaaGreatDoorOpen
import Derived.Test.YtejlffeiebfboaaGreatDoorCards
import Derived.Test.YtejlffeiebfboaaGreatDoorTie
set_option linter.unusedVariables false
set_option linter.unusedSimpArgs false
namespace Go.Proofs.YtejlffeiebfboaaGreatDoor.Law
open Go Go.RowKit Go.WideShapes Go.ChangeShapes Go.ChangeAt Go.Proofs.YtejlffeiebfboaaGreatDoor.Mem Go.Proofs.YtejlffeiebfboaaGreatDoor.PackW Go.Proofs.YtejlffeiebfboaaGreatDoor.Put Go.Proofs.YtejlffeiebfboaaGreatDoor.Get

theorem frameSeals_rowed : ∀ t ∈ [26, 9, 9], Tryz.prog.readableRec t = true ∧ t < Tryz.prog.types.size := by
  intro t ht
  simp only [List.mem_cons, List.not_mem_nil, or_false] at ht
  rcases ht with rfl | rfl | rfl <;> exact ⟨by kernel_rfl, of_decide_eq_true (by kernel_rfl)⟩

set_option maxRecDepth 100000 in
theorem frameSeals_contract (H : Type) (enc : TypeId × Value → H) (W : World) (base : Nat) (args : Array Value) (ds gs : List (DataW H)) (before : List MemPlace)
    (hval : ∀ (j : Nat) t v, Tryz.f6.params[j]? = some t → args[j]? = some v → Value.okWide Tryz.prog W .any base t v)
    (hW : DataW.Whole enc Tryz.prog Tryz.f6.params.toList Rows.frameSealsSpec.vars false W args.toList ds gs before) (hL : laidMetH Tryz.prog Rows.frameSealsUptoRow.laid W)
    (hb : Rows.uptoSmall H (ds ++ gs) = true) :
    Calls Tryz.prog 6 args W fun e W' => ∃ v, e = .returned v ∧ Rows.frameSealsSpec.post enc Tryz.prog Tryz.f6 false true false false W args v W' := by
  have hW' := hW
  have hp : Tryz.f6.params.toList = [26, 9, 9] := by rw [Tryz.params6]
  obtain ⟨p, q, hA, hV, rfl, hfz, hnd⟩ := hW
  rw [hp] at hA
  rw [Tryz.params6] at hval
  obtain ⟨v0, vs0, e0, ds0, p0, q0, hargs, rfl, rfl, h0, r0⟩ := trodAll_cons hA
  obtain ⟨v1, vs1, e1, ds1, p1, q1, rfl, rfl, rfl, h1, r1⟩ := trodAll_cons r0
  obtain ⟨v2, vs2, e2, ds2, p2, q2, rfl, rfl, rfl, h2, r2⟩ := trodAll_cons r1
  obtain ⟨rfl, rfl, rfl⟩ := trodAll_nil r2
  obtain rfl : args = #[v0, v1, v2] := by cases args; simp_all
  obtain ⟨rfl, rfl⟩ := trodVars_none hV
  obtain ⟨a, ha, rfl, rfl, rfl⟩ := open_dg (hval 0 26 v0 rfl rfl) h0
  obtain ⟨key, rfl, rfl, rfl, hkeys⟩ := ChangeMaps.open_string Tryz.underlying9 (hval 1 9 v1 rfl rfl) h1
  obtain ⟨other, rfl, rfl, rfl, hothers⟩ := ChangeMaps.open_string Tryz.underlying9 (hval 2 9 v2 rfl rfl) h2
  have hbk2 : Rows.uptoBulkAll [dgData (H := H) a, DataW.lit (H := H) (.string key.data.toList), DataW.lit (H := H) (.string other.data.toList)] ≤ 1048576 := of_decide_eq_true hb
  simp only [Rows.uptoBulkAll, dg_bulk, str_bulk] at hbk2
  have hT : Tbl W := tab_of hL
  refine (seals_any a key other ha (size_le0 a _ (by omega)) (size_leT a _ zeros32 zeros32_size (by omega)) (by omega) (by omega) W hT).mono fun e W' ⟨he, hc⟩ => ?_
  subst he
  exact ⟨_, rfl, Post.law_true laidOut (by rw [hp]; exact frameSeals_rowed) (by kernel_rfl) Tryz.underlying4 rfl rfl hW' hc.below⟩

def frameSeals_laidL : List (Nat × DataW Unit) := [(0, Rows.laid_joust_sha_rounds), (5, Rows.laid_unicode_utf8_acceptRanges), (4, Rows.laid_unicode_utf8_first)]
def frameSeals_args : Array Value := #[.agg d0.cells.toArray, .string ⟨#[]⟩, .string ⟨#[]⟩]
theorem frameSeals_laid (os : Os) : laidMet Tryz.prog Rows.frameSealsUptoRow.laid ((laidW os frameSeals_args frameSeals_laidL).forCall (fun _ _ => 0) ⟨#[], frameSeals_args, []⟩).memory :=
  laidMet_of_run' 8 (by kernel_rfl) (by kernel_rfl)
theorem frameSeals_reads (os : Os) {H : Type} (enc : TypeId × Value → H) : ∃ places, DataW.whole enc Tryz.prog ((laidW os frameSeals_args frameSeals_laidL).forCall (fun _ _ => 0) ⟨#[], frameSeals_args, []⟩).memory Tryz.f6.params.toList Rows.frameSealsSpec.vars false frameSeals_args.toList 8 = some ([dgData d0, .lit (.string []), .lit (.string [])], [], places) :=
  ⟨[], by kernel_rfl⟩

set_option maxRecDepth 100000 in
theorem frameSeals_lifted (os : Os) (started : os.Started) (H : Type) (enc : TypeId × Value → H) (F : Stop.Interp) :
    ReturnsInHanded {} Tryz.checked os 6 .any ((Rows.OpenSpec.upto Rows.frameSealsSpec).preRow enc Tryz.prog Tryz.f6 Rows.frameSealsUptoRow.domain false Rows.frameSealsUptoRow.laid) (((Rows.OpenSpec.upto Rows.frameSealsSpec).at F).post enc Tryz.prog Tryz.f6 false true false false) := by
  obtain ⟨places, hx⟩ := frameSeals_reads os enc
  refine returnsInHanded_of_row (C := Tryz.checked) (s := Rows.OpenSpec.upto Rows.frameSealsSpec) own started (by kernel_rfl) Tryz.func6
    (witness_row_at (enc := enc) (C := Tryz.checked) false (laidW os frameSeals_args frameSeals_laidL) frameSeals_args rfl (by kernel_rfl) (by kernel_rfl) (by kernel_rfl)
      (OpenSpec.preRow_of_cond 8 hx (by kernel_rfl) (fun k hk => by cases hk; kernel_rfl) (by kernel_rfl) (frameSeals_laid os))) ?_
  intro W base args ds gs before hval hW _ hcond _ hL _ _
  exact frameSeals_contract H enc W base args ds gs before hval hW hL (hcond _ rfl)

theorem frameSeals_said : Rows.FrameSealsUptoSaid :=
  OpenClaim.holds_of_cond 6 Tryz.f6 rfl rfl rfl rfl rfl rfl rfl ⟨rfl, rfl, rfl, rfl, rfl⟩ rfl rfl rfl rfl rfl (by kernel_rfl) Tryz.func6 (by kernel_rfl)
    (of_decide_eq_true (by kernel_rfl)) (by unfold Func.isWrapper; first | (rw [if_pos (by decide +kernel)]; kernel_rfl) | (rw [if_neg (by decide +kernel)]; exact ⟨rfl, rfl⟩))
    (fun os started H enc _ F => by rw [OpenClaim.pre_eq_preRow]; exact frameSeals_lifted os started H enc F)

theorem frameSeals_plain (f : FuncId) (fn : Func) (hf : Tryz.pinned.checked.prog.funcNamed "joust/joustlaw07.FrameSeals" = some f) (hfn : Tryz.pinned.checked.prog.funcs[f]? = some fn) :
    true = Tryz.pinned.checked.prog.looks [] ∧ ∀ (j : Nat) t, fn.params[j]? = some t → Tryz.pinned.checked.prog.wantsStandIn t = false := by
  obtain rfl : f = 6 := Option.some.inj ((show Tryz.prog.funcNamed "joust/joustlaw07.FrameSeals" = some 6 by kernel_rfl).symm.trans hf) |>.symm
  obtain rfl : fn = Tryz.f6 := (Option.some.inj (Tryz.func6.symm.trans hfn)).symm
  refine ⟨by kernel_rfl, fun j t ht => ?_⟩
  rw [Tryz.params6] at ht
  have w0 : Tryz.prog.wantsStandIn 26 = false := by kernel_rfl
  have w1 : Tryz.prog.wantsStandIn 9 = false := by kernel_rfl
  have := Array.mem_of_getElem? ht
  simp only [List.mem_toArray, List.mem_cons, List.not_mem_nil, or_false] at this
  rcases this with rfl | rfl | rfl
  · exact w0
  · exact w1
  · exact w1

theorem frameSeals_card : Rows.FrameSealsUptoCardSaid :=
  Claim7.holds_tied_plain_at .later [] _ _ _ _ frameSeals_said (fun _ h => by cases h) (by kernel_rfl) (fun _ h => by cases h) frameSealsUpto_row_tie rfl ⟨rfl, rfl⟩ (by kernel_rfl) rfl frameSeals_plain (by kernel_rfl)
end Go.Proofs.YtejlffeiebfboaaGreatDoor.Law
