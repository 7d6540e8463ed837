/- FrameSeals' walk, both ways. -/
import Derived.Test.YtejlffeiebfboaaGreatDoorSealsOk
set_option linter.unusedVariables false
set_option linter.unusedSimpArgs false
namespace Go.Proofs.YtejlffeiebfboaaGreatDoor.Law
open Go Go.RowKit Go.Proofs.YtejlffeiebfboaaGreatDoor.Mem Go.Proofs.YtejlffeiebfboaaGreatDoor.PackW Go.Proofs.YtejlffeiebfboaaGreatDoor.Put Go.Proofs.YtejlffeiebfboaaGreatDoor.Get

theorem seals_any (d : DG) (key other : ByteArray) (hd : d.Ok) (hz : 4 + sizeF d (flds d.kind) ≤ 140737488355328) (hzz : 4 + sizeF { d with tag := zeros32 } (flds d.kind) ≤ 140737488355328) (hk : key.size ≤ 1048576) (ho : other.size ≤ 1048576)
    (w : World) (hT : Tbl w) :
    Calls Tryz.prog 6 #[.agg d.cells.toArray, .string key, .string other] w fun e w' => e = .returned (.bool true) ∧ Chg (fun _ => False) w w' := by
  by_cases he : (sealF d key).2 = 0
  · exact seals_ok d key other hd hzz hk ho he w hT
  · exact seals_fail d key other hd hz hzz hk ho he w hT
end Go.Proofs.YtejlffeiebfboaaGreatDoor.Law
