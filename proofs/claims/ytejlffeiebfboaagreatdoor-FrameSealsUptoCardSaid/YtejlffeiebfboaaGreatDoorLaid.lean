/- The tables that the rows list, and a world that holds them. -/
import Derived.Test.YtejlffeiebfboaaGreatDoorSeal
import Derived.Test.YtejlffeiebfboaaGreatDoorRows
import Derived.Lib.LaidTab
import Derived.Deep.DeepHandedRow
set_option linter.unusedVariables false
set_option linter.unusedSimpArgs false
namespace Go.Proofs.YtejlffeiebfboaaGreatDoor.Law
open Go Go.RowKit Go.WideShapes Go.ChangeShapes Go.ChangeAt Go.Proofs.YtejlffeiebfboaaGreatDoor.Mem Go.Proofs.YtejlffeiebfboaaGreatDoor.PackW Go.Proofs.YtejlffeiebfboaaGreatDoor.Put Go.Proofs.YtejlffeiebfboaaGreatDoor.Get

theorem own : ownKnob Tryz.prog.godebug = none := by kernel_rfl
theorem laidOut : laidOutB Tryz.prog = true := by kernel_rfl
theorem gRounds : Tryz.prog.globalNamed "joust/sha.rounds" = some 0 := by kernel_rfl
theorem gRoundsType : (Tryz.prog.globals[0]?).map (·.type) = some 126 := by kernel_rfl
theorem cellsR : Tryz.prog.cellsOf 126 = 64 := by kernel_rfl
theorem cellsU32 : Tryz.prog.cellsOf 106 = 1 := by kernel_rfl
/-- The numbers of the table. -/
def roundsL : List Int := (List.range 64).map fun t => Num.n32 (Sha.K t)
theorem rounds_is {H : Type} : (Rows.laid_joust_sha_rounds : DataW H) = Lib.tabData .u32 roundsL := by kernel_rfl
theorem tab_of {W : World} {rest : List (String × DataW Unit)} (h : laidMet Tryz.prog (("joust/sha.rounds", Rows.laid_joust_sha_rounds) :: rest) W) : Tbl W := by
  rw [rounds_is] at h
  have ht := Lib.tabIs_of_head gRounds gRoundsType Tryz.underlying126 Tryz.underlying106 cellsU32 cellsR h
  have hc : ∀ t, t < 64 → W.cell? ⟨0, t, none⟩ = some (.int .u32 (Num.n32 (Sha.K t))) := by
    intro t hlt
    rw [ht.cell gRounds t (by unfold roundsL; simpa using hlt)]
    have hl : t < roundsL.length := by unfold roundsL; simpa using hlt
    rw [List.getD, List.getElem?_eq_getElem hl]
    simp [roundsL]
  exact ⟨hc, World.block_lt_of_cell? W ⟨0, 0, none⟩ (hc 0 (by decide))⟩

/-- Data as cells. -/
def litV : Lit → Value
  | .int k n => .int k n
  | .bool b => .bool b
  | _ => undef
def oneD : DataW Unit → Value
  | .lit l => litV l
  | _ => undef
def rowD : DataW Unit → List Value
  | .lit l => [litV l]
  | .agg qs => qs.map oneD
  | _ => [undef]
def cellsD : DataW Unit → List Value
  | .agg ps => ps.flatMap rowD
  | d => [oneD d]
/-- A world in which these variables hold this. -/
noncomputable def laidW (os : Os) (args : Array Value) (l : List (Nat × DataW Unit)) : World :=
  { World.holding Tryz.prog os ⟨#[], #[], []⟩ with heap := l.foldl (fun h x => h.modify x.1 fun | .cells _ t frozen => .cells (cellsD x.2).toArray t frozen | o => o) (World.holding Tryz.prog os ⟨#[], #[], []⟩).heap }
end Go.Proofs.YtejlffeiebfboaaGreatDoor.Law
