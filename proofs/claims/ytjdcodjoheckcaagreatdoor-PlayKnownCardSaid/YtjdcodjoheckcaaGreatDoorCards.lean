/-
  DERIVED. GIVEN WITH THE SEED: THE CARDS: each row of YtjdcodjoheckcaaGreatDoorRows.lean that lists a variable, with what it lists TIED to the program's text (the seventh form; the later family's looks); each row that meets fmt, with fmt's text TOLD by the authors' own Lean function (tested against real Go, not proved from fmt's source: count such statements apart). THE CARD IS WHAT COUNTS. Prove the row's statement (the work); the ties are given (YtjdcodjoheckcaaGreatDoorTie.lean); close each card by the builder's one call (the guide's Derived/Test/ToyasCard.lean, 'card_holds'). Laid BY PROGRAM, IN A SANDBOX (cutbox-door.mjs). By AI agents, Wed Nov 11 2026. No macro, syntax, notation, axiom, sorry.
-/
import Derived.Test.YtjdcodjoheckcaaGreatDoorRows
import GoSem.ClaimSeven
namespace Go.Proofs.YtjdcodjoheckcaaGreatDoor
namespace Rows

/-- THE TIED CARD OF 'blackboardlaw20.DriveRefresh'. -/
def driveRefreshCard : Claim7 := { stood := { row := driveRefreshRow, standIns := [], harness := (true, "6dcbb55d5ff060a827f9c8117b8de8b2829add39d0b8961a3cfcc88fdb9d30d5"), looks := false }, kinds := [], alts := [], laidByText := true, laidKinds := [.data], laidTests := true, laidLooks := .later }
def DriveRefreshCardSaid : Prop := Claim7.holds Tryz.pinned (.plain (OpenSpec.ofChange driveRefreshSpec)) driveRefreshCard

/-- THE TIED CARD OF 'blackboardlaw20.DriveTrims'. -/
def driveTrimsCard : Claim7 := { stood := { row := driveTrimsRow, standIns := [], harness := (true, "6dcbb55d5ff060a827f9c8117b8de8b2829add39d0b8961a3cfcc88fdb9d30d5"), looks := false }, kinds := [], alts := [], laidByText := true, laidKinds := [.data], laidTests := true, laidLooks := .later }
def DriveTrimsCardSaid : Prop := Claim7.holds Tryz.pinned (.plain (OpenSpec.ofChange driveTrimsSpec)) driveTrimsCard

/-- THE TIED CARD OF 'blackboardlaw20.DriveKnown'. -/
def driveKnownCard : Claim7 := { stood := { row := driveKnownRow, standIns := [], harness := (true, "6dcbb55d5ff060a827f9c8117b8de8b2829add39d0b8961a3cfcc88fdb9d30d5"), looks := false }, kinds := [], alts := [], laidByText := true, laidKinds := [.data], laidTests := true, laidLooks := .later }
def DriveKnownCardSaid : Prop := Claim7.holds Tryz.pinned (.plain (OpenSpec.ofChange driveKnownSpec)) driveKnownCard

/-- THE TIED CARD OF 'blackboardlaw20.DriveTicks'. -/
def driveTicksCard : Claim7 := { stood := { row := driveTicksRow, standIns := [], harness := (true, "6dcbb55d5ff060a827f9c8117b8de8b2829add39d0b8961a3cfcc88fdb9d30d5"), looks := false }, kinds := [], alts := [], laidByText := true, laidKinds := [.data], laidTests := true, laidLooks := .later }
def DriveTicksCardSaid : Prop := Claim7.holds Tryz.pinned (.plain (OpenSpec.ofChange driveTicksSpec)) driveTicksCard

/-- THE TIED CARD OF 'blackboardlaw22.PlayKnown'. -/
def playKnownCard : Claim7 := { stood := { row := playKnownRow, standIns := [], harness := (true, "6dcbb55d5ff060a827f9c8117b8de8b2829add39d0b8961a3cfcc88fdb9d30d5"), looks := false }, kinds := [], alts := [], laidByText := true, laidKinds := [.data], laidTests := true, laidLooks := .later }
def PlayKnownCardSaid : Prop := Claim7.holds Tryz.pinned (.plain (OpenSpec.ofChange playKnownSpec)) playKnownCard

/-- THE TIED CARD OF 'blackboardlaw22.PlayDrifts'. -/
def playDriftsCard : Claim7 := { stood := { row := playDriftsRow, standIns := [], harness := (true, "6dcbb55d5ff060a827f9c8117b8de8b2829add39d0b8961a3cfcc88fdb9d30d5"), looks := false }, kinds := [], alts := [], laidByText := true, laidKinds := [.data], laidTests := true, laidLooks := .later }
def PlayDriftsCardSaid : Prop := Claim7.holds Tryz.pinned (.plain (OpenSpec.ofChange playDriftsSpec)) playDriftsCard

/-- THE TIED CARD OF 'blackboardtop.TopWear'. -/
def topWearCard : Claim7 := { stood := { row := topWearRow, standIns := [], harness := (true, "6dcbb55d5ff060a827f9c8117b8de8b2829add39d0b8961a3cfcc88fdb9d30d5"), looks := false }, kinds := [], alts := [], laidByText := true, laidKinds := [.data], laidTests := true, laidLooks := .later }
def TopWearCardSaid : Prop := Claim7.holds Tryz.pinned (.plain (OpenSpec.ofChange topWearSpec)) topWearCard

/-- THE SECOND FORM's CARD OF 'blackboardlaw20.DriveRefresh'. -/
def driveRefreshUptoCard : Claim7 := { stood := { row := driveRefreshUptoRow, standIns := [], harness := (true, "6dcbb55d5ff060a827f9c8117b8de8b2829add39d0b8961a3cfcc88fdb9d30d5"), looks := false }, kinds := [], alts := [], laidByText := true, laidKinds := [.data], laidTests := true, laidLooks := .later }
def DriveRefreshUptoCardSaid : Prop := Claim7.holds Tryz.pinned (.plain (OpenSpec.upto driveRefreshSpec)) driveRefreshUptoCard

/-- THE SECOND FORM's CARD OF 'blackboardlaw20.DriveTrims'. -/
def driveTrimsUptoCard : Claim7 := { stood := { row := driveTrimsUptoRow, standIns := [], harness := (true, "6dcbb55d5ff060a827f9c8117b8de8b2829add39d0b8961a3cfcc88fdb9d30d5"), looks := false }, kinds := [], alts := [], laidByText := true, laidKinds := [.data], laidTests := true, laidLooks := .later }
def DriveTrimsUptoCardSaid : Prop := Claim7.holds Tryz.pinned (.plain (OpenSpec.upto driveTrimsSpec)) driveTrimsUptoCard

/-- THE SECOND FORM's CARD OF 'blackboardlaw20.DriveKnown'. -/
def driveKnownUptoCard : Claim7 := { stood := { row := driveKnownUptoRow, standIns := [], harness := (true, "6dcbb55d5ff060a827f9c8117b8de8b2829add39d0b8961a3cfcc88fdb9d30d5"), looks := false }, kinds := [], alts := [], laidByText := true, laidKinds := [.data], laidTests := true, laidLooks := .later }
def DriveKnownUptoCardSaid : Prop := Claim7.holds Tryz.pinned (.plain (OpenSpec.upto driveKnownSpec)) driveKnownUptoCard

/-- THE SECOND FORM's CARD OF 'blackboardlaw20.DriveTicks'. -/
def driveTicksUptoCard : Claim7 := { stood := { row := driveTicksUptoRow, standIns := [], harness := (true, "6dcbb55d5ff060a827f9c8117b8de8b2829add39d0b8961a3cfcc88fdb9d30d5"), looks := false }, kinds := [], alts := [], laidByText := true, laidKinds := [.data], laidTests := true, laidLooks := .later }
def DriveTicksUptoCardSaid : Prop := Claim7.holds Tryz.pinned (.plain (OpenSpec.upto driveTicksSpec)) driveTicksUptoCard

/-- THE SECOND FORM's CARD OF 'blackboardlaw22.PlayKnown'. -/
def playKnownUptoCard : Claim7 := { stood := { row := playKnownUptoRow, standIns := [], harness := (true, "6dcbb55d5ff060a827f9c8117b8de8b2829add39d0b8961a3cfcc88fdb9d30d5"), looks := false }, kinds := [], alts := [], laidByText := true, laidKinds := [.data], laidTests := true, laidLooks := .later }
def PlayKnownUptoCardSaid : Prop := Claim7.holds Tryz.pinned (.plain (OpenSpec.upto playKnownSpec)) playKnownUptoCard

/-- THE SECOND FORM's CARD OF 'blackboardlaw22.PlayDrifts'. -/
def playDriftsUptoCard : Claim7 := { stood := { row := playDriftsUptoRow, standIns := [], harness := (true, "6dcbb55d5ff060a827f9c8117b8de8b2829add39d0b8961a3cfcc88fdb9d30d5"), looks := false }, kinds := [], alts := [], laidByText := true, laidKinds := [.data], laidTests := true, laidLooks := .later }
def PlayDriftsUptoCardSaid : Prop := Claim7.holds Tryz.pinned (.plain (OpenSpec.upto playDriftsSpec)) playDriftsUptoCard

/-- THE SECOND FORM's CARD OF 'blackboardtop.TopWear'. -/
def topWearUptoCard : Claim7 := { stood := { row := topWearUptoRow, standIns := [], harness := (true, "6dcbb55d5ff060a827f9c8117b8de8b2829add39d0b8961a3cfcc88fdb9d30d5"), looks := false }, kinds := [], alts := [], laidByText := true, laidKinds := [.data], laidTests := true, laidLooks := .later }
def TopWearUptoCardSaid : Prop := Claim7.holds Tryz.pinned (.plain (OpenSpec.upto topWearSpec)) topWearUptoCard
end Rows
end Go.Proofs.YtjdcodjoheckcaaGreatDoor
