/-
  DERIVED. GIVEN WITH THE SEED: THE CARDS: each row of YtejlffeiebfboaaGreatDoorRows.lean that lists a variable, with what it lists TIED to the program's text (the seventh form; the later family's looks); each row that meets fmt, with fmt's text TOLD by the authors' own Lean function (tested against real Go, not proved from fmt's source: count such statements apart). THE CARD IS WHAT COUNTS. Prove the row's statement (the work); the ties are given (YtejlffeiebfboaaGreatDoorTie.lean); close each card by the builder's one call (the guide's Derived/Test/ToyasCard.lean, 'card_holds'). Laid BY PROGRAM, IN A SANDBOX (cutbox-door.mjs). By AI agents, Wed Nov 11 2026. No macro, syntax, notation, axiom, sorry.
-/
import Derived.Test.YtejlffeiebfboaaGreatDoorRows
import GoSem.ClaimSeven
namespace Go.Proofs.YtejlffeiebfboaaGreatDoor
namespace Rows

/-- THE TIED CARD OF 'joustlaw07.FrameEncodes'. -/
def frameEncodesCard : Claim7 := { stood := { row := frameEncodesRow, standIns := [], harness := (true, "b6431bcae54851c372940908bd57c068559dfffc6494057398f5ba37bb021909"), looks := true }, kinds := [], alts := [], laidByText := true, laidKinds := [.data, .data, .data, .data, .pinned], laidTests := true, laidLooks := .later }
def FrameEncodesCardSaid : Prop := Claim7.holds Tryz.pinned (.plain (OpenSpec.ofChange frameEncodesSpec)) frameEncodesCard

/-- THE TIED CARD OF 'joustlaw07.FrameBack'. -/
def frameBackCard : Claim7 := { stood := { row := frameBackRow, standIns := [], harness := (true, "b6431bcae54851c372940908bd57c068559dfffc6494057398f5ba37bb021909"), looks := true }, kinds := [], alts := [], laidByText := true, laidKinds := [.data, .data, .pinned], laidTests := true, laidLooks := .later }
def FrameBackCardSaid : Prop := Claim7.holds Tryz.pinned (.plain (OpenSpec.ofChange frameBackSpec)) frameBackCard

/-- THE TIED CARD OF 'joustlaw07.FrameLengths'. -/
def frameLengthsCard : Claim7 := { stood := { row := frameLengthsRow, standIns := [], harness := (true, "b6431bcae54851c372940908bd57c068559dfffc6494057398f5ba37bb021909"), looks := true }, kinds := [], alts := [], laidByText := true, laidKinds := [.data, .data, .pinned], laidTests := true, laidLooks := .later }
def FrameLengthsCardSaid : Prop := Claim7.holds Tryz.pinned (.plain (OpenSpec.ofChange frameLengthsSpec)) frameLengthsCard

/-- THE TIED CARD OF 'joustlaw07.FrameSeals'. -/
def frameSealsCard : Claim7 := { stood := { row := frameSealsRow, standIns := [], harness := (true, "b6431bcae54851c372940908bd57c068559dfffc6494057398f5ba37bb021909"), looks := true }, kinds := [], alts := [], laidByText := true, laidKinds := [.data, .data, .pinned], laidTests := true, laidLooks := .later }
def FrameSealsCardSaid : Prop := Claim7.holds Tryz.pinned (.plain (OpenSpec.ofChange frameSealsSpec)) frameSealsCard

/-- THE TIED CARD OF 'joustlaw07.FrameApart'. -/
def frameApartCard : Claim7 := { stood := { row := frameApartRow, standIns := [], harness := (true, "b6431bcae54851c372940908bd57c068559dfffc6494057398f5ba37bb021909"), looks := true }, kinds := [], alts := [], laidByText := true, laidKinds := [.data, .data, .pinned], laidTests := true, laidLooks := .later }
def FrameApartCardSaid : Prop := Claim7.holds Tryz.pinned (.plain (OpenSpec.ofChange frameApartSpec)) frameApartCard

/-- THE SECOND FORM's CARD OF 'joustlaw07.FrameEncodes'. -/
def frameEncodesUptoCard : Claim7 := { stood := { row := frameEncodesUptoRow, standIns := [], harness := (true, "b6431bcae54851c372940908bd57c068559dfffc6494057398f5ba37bb021909"), looks := true }, kinds := [], alts := [], laidByText := true, laidKinds := [.data, .data, .data, .data, .pinned], laidTests := true, laidLooks := .later }
def FrameEncodesUptoCardSaid : Prop := Claim7.holds Tryz.pinned (.plain (OpenSpec.upto frameEncodesSpec)) frameEncodesUptoCard

/-- THE SECOND FORM's CARD OF 'joustlaw07.FrameBack'. -/
def frameBackUptoCard : Claim7 := { stood := { row := frameBackUptoRow, standIns := [], harness := (true, "b6431bcae54851c372940908bd57c068559dfffc6494057398f5ba37bb021909"), looks := true }, kinds := [], alts := [], laidByText := true, laidKinds := [.data, .data, .pinned], laidTests := true, laidLooks := .later }
def FrameBackUptoCardSaid : Prop := Claim7.holds Tryz.pinned (.plain (OpenSpec.upto frameBackSpec)) frameBackUptoCard

/-- THE SECOND FORM's CARD OF 'joustlaw07.FrameLengths'. -/
def frameLengthsUptoCard : Claim7 := { stood := { row := frameLengthsUptoRow, standIns := [], harness := (true, "b6431bcae54851c372940908bd57c068559dfffc6494057398f5ba37bb021909"), looks := true }, kinds := [], alts := [], laidByText := true, laidKinds := [.data, .data, .pinned], laidTests := true, laidLooks := .later }
def FrameLengthsUptoCardSaid : Prop := Claim7.holds Tryz.pinned (.plain (OpenSpec.upto frameLengthsSpec)) frameLengthsUptoCard

/-- THE SECOND FORM's CARD OF 'joustlaw07.FrameSeals'. -/
def frameSealsUptoCard : Claim7 := { stood := { row := frameSealsUptoRow, standIns := [], harness := (true, "b6431bcae54851c372940908bd57c068559dfffc6494057398f5ba37bb021909"), looks := true }, kinds := [], alts := [], laidByText := true, laidKinds := [.data, .data, .pinned], laidTests := true, laidLooks := .later }
def FrameSealsUptoCardSaid : Prop := Claim7.holds Tryz.pinned (.plain (OpenSpec.upto frameSealsSpec)) frameSealsUptoCard

/-- THE SECOND FORM's CARD OF 'joustlaw07.FrameApart'. -/
def frameApartUptoCard : Claim7 := { stood := { row := frameApartUptoRow, standIns := [], harness := (true, "b6431bcae54851c372940908bd57c068559dfffc6494057398f5ba37bb021909"), looks := true }, kinds := [], alts := [], laidByText := true, laidKinds := [.data, .data, .pinned], laidTests := true, laidLooks := .later }
def FrameApartUptoCardSaid : Prop := Claim7.holds Tryz.pinned (.plain (OpenSpec.upto frameApartSpec)) frameApartUptoCard
end Rows
end Go.Proofs.YtejlffeiebfboaaGreatDoor
