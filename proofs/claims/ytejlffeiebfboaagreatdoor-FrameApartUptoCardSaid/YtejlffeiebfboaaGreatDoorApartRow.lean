/- FrameApart's second form (what comes in is of bulk at most 1048576): what was answered for one datagram is the same behind others. The row, and its card. -/
import Derived.Test.YtejlffeiebfboaaGreatDoorApart
import Derived.Test.YtejlffeiebfboaaGreatDoorSealLaw
set_option linter.unusedVariables false
set_option linter.unusedSimpArgs false
namespace Go.Proofs.YtejlffeiebfboaaGreatDoor.Law
open Go Go.RowKit Go.WideShapes Go.ChangeShapes Go.ChangeAt Go.Proofs.YtejlffeiebfboaaGreatDoor.Mem Go.Proofs.YtejlffeiebfboaaGreatDoor.PackW Go.Proofs.YtejlffeiebfboaaGreatDoor.Put Go.Proofs.YtejlffeiebfboaaGreatDoor.Get

theorem rowed26 : ∀ t ∈ [26, 26, 9], Tryz.prog.readableRec t = true ∧ t < Tryz.prog.types.size := by
  intro t ht
  simp only [List.mem_cons, List.not_mem_nil, or_false] at ht
  rcases ht with rfl | rfl | rfl <;> exact ⟨by kernel_rfl, of_decide_eq_true (by kernel_rfl)⟩
theorem size_le (d : DG) (k : Int) (h : d.nonce.size + d.cookie.size + d.name.size + d.salt.size + d.data.size + d.tag.size ≤ 1048576) : 4 + sizeF { d with tag := zeros32 } (flds k) ≤ 140737488355328 := by
  have hz : ∀ f, Fld.size { d with tag := zeros32 } f ≤ 1048576 + 300 := by
    intro f
    cases f <;> simp only [Fld.size] <;> first | omega | (rw [zeros32_size]; omega)
  have hg : ∀ l : List Fld, sizeF { d with tag := zeros32 } l ≤ l.length * (1048576 + 300) := by
    intro l
    induction l with
    | nil => simp [sizeF]
    | cons f t ih =>
      have := hz f
      simp only [sizeF, List.map_cons, List.sum_cons, List.length_cons] at *
      omega
  have h1 := hg (flds k)
  have h2 := (flds_len k).2
  omega

set_option maxRecDepth 100000 in
theorem apart_contract (H : Type) (enc : TypeId × Value → H) (W : World) (base : Nat) (args : Array Value) (ds gs : List (DataW H)) (before : List MemPlace)
    (hval : ∀ (j : Nat) t v, Tryz.f7.params[j]? = some t → args[j]? = some v → Value.okWide Tryz.prog W .any base t v)
    (hW : DataW.Whole enc Tryz.prog Tryz.f7.params.toList Rows.frameApartSpec.vars false W args.toList ds gs before) (hL : laidMetH Tryz.prog Rows.frameApartUptoRow.laid W)
    (hb : Rows.uptoSmall H (ds ++ gs) = true) :
    Calls Tryz.prog 7 args W fun e W' => ∃ v, e = .returned v ∧ Rows.frameApartSpec.post enc Tryz.prog Tryz.f7 false true false false W args v W' := by
  have hW' := hW
  have hp : Tryz.f7.params.toList = [26, 26, 9] := by rw [Tryz.params7]
  obtain ⟨p, q, hA, hV, rfl, hfz, hnd⟩ := hW
  rw [hp] at hA
  rw [Tryz.params7] at hval
  obtain ⟨v0, vs0, e0, ds0, p0, q0, hargs, rfl, rfl, h0, r0⟩ := trodAll_cons hA
  obtain ⟨v1, vs1, e1, ds1, p1, q1, rfl, rfl, rfl, h1, r1⟩ := trodAll_cons r0
  obtain ⟨v2, vs2, e2, ds2, p2, q2, rfl, rfl, rfl, h2, r2⟩ := trodAll_cons r1
  obtain ⟨rfl, rfl, rfl⟩ := trodAll_nil r2
  obtain rfl : args = #[v0, v1, v2] := by cases args; simp_all
  obtain ⟨rfl, rfl⟩ := trodVars_none hV
  obtain ⟨a, ha, rfl, rfl, rfl⟩ := open_dg (hval 0 26 v0 rfl rfl) h0
  obtain ⟨b, hbk, rfl, rfl, rfl⟩ := open_dg (hval 1 26 v1 rfl rfl) h1
  obtain ⟨key, rfl, rfl, rfl, hks⟩ := ChangeMaps.open_string Tryz.underlying9 (hval 2 9 v2 rfl rfl) h2
  have hbk2 : Rows.uptoBulkAll [dgData (H := H) a, dgData b, .lit (.string key.data.toList)] ≤ 1048576 := of_decide_eq_true hb
  simp only [Rows.uptoBulkAll, dg_bulk, str_bulk] at hbk2
  have hT : Tbl W := tab_of hL
  refine (apart_any a b key ha hbk (size_le a _ (by omega)) (size_le b _ (by omega)) (by omega) (apart_law b hbk key) W hT).mono fun e W' ⟨he, hc⟩ => ?_
  subst he
  exact ⟨_, rfl, Post.law_true laidOut (by rw [hp]; exact rowed26) (by kernel_rfl) Tryz.underlying4 rfl rfl hW' hc.below⟩

/-- What the witness's world holds. -/
def laid3 : List (Nat × DataW Unit) := [(0, Rows.laid_joust_sha_rounds), (5, Rows.laid_unicode_utf8_acceptRanges), (4, Rows.laid_unicode_utf8_first)]
def args3 : Array Value := #[.agg d0.cells.toArray, .agg d0.cells.toArray, .string ⟨#[]⟩]
theorem apart_laid (os : Os) : laidMet Tryz.prog Rows.frameApartUptoRow.laid ((laidW os args3 laid3).forCall (fun _ _ => 0) ⟨#[], args3, []⟩).memory :=
  laidMet_of_run' 8 (by kernel_rfl) (by kernel_rfl)
theorem apart_reads (os : Os) {H : Type} (enc : TypeId × Value → H) : ∃ places, DataW.whole enc Tryz.prog ((laidW os args3 laid3).forCall (fun _ _ => 0) ⟨#[], args3, []⟩).memory Tryz.f7.params.toList Rows.frameApartSpec.vars false args3.toList 8 = some ([dgData d0, dgData d0, .lit (.string [])], [], places) :=
  ⟨[], by kernel_rfl⟩

set_option maxRecDepth 100000 in
theorem apart_lifted (os : Os) (started : os.Started) (H : Type) (enc : TypeId × Value → H) (F : Stop.Interp) :
    ReturnsInHanded {} Tryz.checked os 7 .any ((Rows.OpenSpec.upto Rows.frameApartSpec).preRow enc Tryz.prog Tryz.f7 Rows.frameApartUptoRow.domain false Rows.frameApartUptoRow.laid) (((Rows.OpenSpec.upto Rows.frameApartSpec).at F).post enc Tryz.prog Tryz.f7 false true false false) := by
  obtain ⟨places, hx⟩ := apart_reads os enc
  refine returnsInHanded_of_row (C := Tryz.checked) (s := Rows.OpenSpec.upto Rows.frameApartSpec) own started (by kernel_rfl) Tryz.func7
    (witness_row_at (enc := enc) (C := Tryz.checked) false (laidW os args3 laid3) args3 rfl (by kernel_rfl) (by kernel_rfl) (by kernel_rfl)
      (OpenSpec.preRow_of_cond 8 hx (by kernel_rfl) (fun k hk => by cases hk; kernel_rfl) (by kernel_rfl) (apart_laid os))) ?_
  intro W base args ds gs before hval hW _ hcond _ hL _ _
  exact apart_contract H enc W base args ds gs before hval hW hL (hcond _ rfl)

theorem apart_said : Rows.FrameApartUptoSaid :=
  OpenClaim.holds_of_cond 7 Tryz.f7 rfl rfl rfl rfl rfl rfl rfl ⟨rfl, rfl, rfl, rfl, rfl⟩ rfl rfl rfl rfl rfl (by kernel_rfl) Tryz.func7 (by kernel_rfl)
    (of_decide_eq_true (by kernel_rfl)) (by unfold Func.isWrapper; first | (rw [if_pos (by decide +kernel)]; kernel_rfl) | (rw [if_neg (by decide +kernel)]; exact ⟨rfl, rfl⟩))
    (fun os started H enc _ F => by rw [OpenClaim.pre_eq_preRow]; exact apart_lifted os started H enc F)

theorem apart_plain (f : FuncId) (fn : Func) (hf : Tryz.pinned.checked.prog.funcNamed "joust/joustlaw07.FrameApart" = some f) (hfn : Tryz.pinned.checked.prog.funcs[f]? = some fn) :
    true = Tryz.pinned.checked.prog.looks [] ∧ ∀ (j : Nat) t, fn.params[j]? = some t → Tryz.pinned.checked.prog.wantsStandIn t = false := by
  obtain rfl : f = 7 := Option.some.inj ((show Tryz.prog.funcNamed "joust/joustlaw07.FrameApart" = some 7 by kernel_rfl).symm.trans hf) |>.symm
  obtain rfl : fn = Tryz.f7 := (Option.some.inj (Tryz.func7.symm.trans hfn)).symm
  refine ⟨by kernel_rfl, fun j t ht => ?_⟩
  rw [Tryz.params7] at ht
  have h9 : Tryz.prog.wantsStandIn 9 = false := by kernel_rfl
  have h26 : Tryz.prog.wantsStandIn 26 = false := by kernel_rfl
  have := Array.mem_of_getElem? ht
  simp only [List.mem_toArray, List.mem_cons, List.not_mem_nil, or_false] at this
  rcases this with rfl | rfl | rfl
  · exact h26
  · exact h26
  · exact h9

theorem apart_card : Rows.FrameApartUptoCardSaid :=
  Claim7.holds_tied_plain_at .later [] _ _ _ _ apart_said (fun _ h => by cases h) (by kernel_rfl) (fun _ h => by cases h) frameApartUpto_row_tie rfl ⟨rfl, rfl⟩ (by kernel_rfl) rfl apart_plain (by kernel_rfl)
end Go.Proofs.YtejlffeiebfboaaGreatDoor.Law
