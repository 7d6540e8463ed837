/- The statements' fixed fact: what the program answers at one datagram, computed. -/
import Derived.Test.YtejlffeiebfboaaGreatDoorTimes
set_option linter.unusedVariables false
set_option linter.unusedSimpArgs false
namespace Go.Proofs.YtejlffeiebfboaaGreatDoor.Law
open Go Go.RowKit Go.Proofs.YtejlffeiebfboaaGreatDoor.Mem Go.Proofs.YtejlffeiebfboaaGreatDoor.PackW Go.Proofs.YtejlffeiebfboaaGreatDoor.PackR Go.Proofs.YtejlffeiebfboaaGreatDoor.Put Go.Proofs.YtejlffeiebfboaaGreatDoor.Get

def dA : DG := ⟨5, ⟨#[]⟩, 0, ⟨#[]⟩, ⟨#[]⟩, 1, 0, ⟨#[]⟩, 2, -1, 5, true, false, ⟨#[]⟩, timesB 116 32⟩
def sA : ByteArray := (encode dA).1
def tA : ByteArray := (sealF dA ⟨#[107]⟩).1
theorem enc2 : (encode dA).2 = 0 := by decide +kernel
theorem sA_size : sA.size = 55 := by decide +kernel
theorem sA_is : sA = ((((⟨#[74, 48, 49, 5]⟩ ++ timesB 0 7) ++ ⟨#[1]⟩) ++ timesB 0 7) ++ ⟨#[2, 255, 5, 1]⟩) ++ timesB 116 32 := by decide +kernel
theorem sA_body : bodyOf sA = sA.extract 0 23 := by decide +kernel
theorem seal2 : (sealF dA ⟨#[107]⟩).2 = 0 := by decide +kernel
theorem tA_size : tA.size = 55 := by decide +kernel
theorem dec2 : (Get.decode tA).2 = 0 := by decide +kernel
theorem decseq : (Get.decode tA).1.seq = 2 := by decide +kernel
theorem sealed_k : sealedF tA ⟨#[107]⟩ = true := by decide +kernel
theorem sealed_l : sealedF tA ⟨#[108]⟩ = false := by decide +kernel
theorem sealed_s : sealedF sA ⟨#[107]⟩ = false := by decide +kernel
end Go.Proofs.YtejlffeiebfboaaGreatDoor.Law
