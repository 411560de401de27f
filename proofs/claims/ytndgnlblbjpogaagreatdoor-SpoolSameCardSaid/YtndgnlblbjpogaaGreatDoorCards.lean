/-
  DERIVED. GIVEN WITH THE SEED: THE CARDS: each row of YtndgnlblbjpogaaGreatDoorRows.lean that lists a variable, with what it lists TIED to the program's text (the seventh form; the later family's looks); each row that meets fmt, with fmt's text TOLD by the authors' own Lean function (tested against real Go, not proved from fmt's source: count such statements apart). THE CARD IS WHAT COUNTS. Prove the row's statement (the work); the ties are given (YtndgnlblbjpogaaGreatDoorTie.lean); close each card by the builder's one call (the guide's Derived/Test/ToyasCard.lean, 'card_holds'). Laid BY PROGRAM, IN A SANDBOX (cutbox-door.mjs). By AI agents, Wed Nov 11 2026. No macro, syntax, notation, axiom, sorry.
-/
import Derived.Test.YtndgnlblbjpogaaGreatDoorRows
import GoSem.ClaimSeven
namespace Go.Proofs.YtndgnlblbjpogaaGreatDoor
namespace Rows

/-- THE TIED CARD OF 'postroomlaw12.SpoolRoom'. -/
def spoolRoomCard : Claim7 := { stood := { row := spoolRoomRow, standIns := [], harness := (true, "c25c7d79986c7b0a811bcca385a40cfc1ddc25ffff7f534b8b02617c7e620ac7"), looks := true }, kinds := [], alts := [], laidByText := true, laidKinds := [.data, .data, .data, .data, .data, .sentinel, .sentinel, .pinned], laidTests := true, laidLooks := .later }
def SpoolRoomCardSaid : Prop := Claim7.holds Tryz.pinned (.plain (OpenSpec.ofChange spoolRoomSpec)) spoolRoomCard

/-- THE TIED CARD OF 'postroomlaw12.SpoolReclaims'. -/
def spoolReclaimsCard : Claim7 := { stood := { row := spoolReclaimsRow, standIns := [], harness := (true, "c25c7d79986c7b0a811bcca385a40cfc1ddc25ffff7f534b8b02617c7e620ac7"), looks := true }, kinds := [], alts := [], laidByText := true, laidKinds := [.data, .data, .data, .data, .data, .sentinel, .sentinel, .pinned], laidTests := true, laidLooks := .later }
def SpoolReclaimsCardSaid : Prop := Claim7.holds Tryz.pinned (.plain (OpenSpec.ofChange spoolReclaimsSpec)) spoolReclaimsCard

/-- THE TIED CARD OF 'postroomlaw12.SpoolSyncs'. -/
def spoolSyncsCard : Claim7 := { stood := { row := spoolSyncsRow, standIns := [], harness := (true, "c25c7d79986c7b0a811bcca385a40cfc1ddc25ffff7f534b8b02617c7e620ac7"), looks := true }, kinds := [], alts := [], laidByText := true, laidKinds := [.data, .data, .data, .data, .data, .sentinel, .sentinel, .pinned], laidTests := true, laidLooks := .later }
def SpoolSyncsCardSaid : Prop := Claim7.holds Tryz.pinned (.plain (OpenSpec.ofChange spoolSyncsSpec)) spoolSyncsCard

/-- THE TIED CARD OF 'postroomlaw12.SpoolLeaves'. -/
def spoolLeavesCard : Claim7 := { stood := { row := spoolLeavesRow, standIns := [], harness := (true, "c25c7d79986c7b0a811bcca385a40cfc1ddc25ffff7f534b8b02617c7e620ac7"), looks := true }, kinds := [], alts := [], laidByText := true, laidKinds := [.data, .data, .data, .data, .data, .sentinel, .sentinel, .pinned], laidTests := true, laidLooks := .later }
def SpoolLeavesCardSaid : Prop := Claim7.holds Tryz.pinned (.plain (OpenSpec.ofChange spoolLeavesSpec)) spoolLeavesCard

/-- THE TIED CARD OF 'postroomlaw12.SpoolWaits'. -/
def spoolWaitsCard : Claim7 := { stood := { row := spoolWaitsRow, standIns := [], harness := (true, "c25c7d79986c7b0a811bcca385a40cfc1ddc25ffff7f534b8b02617c7e620ac7"), looks := true }, kinds := [], alts := [], laidByText := true, laidKinds := [.data, .data, .data, .data, .data, .sentinel, .sentinel, .pinned], laidTests := true, laidLooks := .later }
def SpoolWaitsCardSaid : Prop := Claim7.holds Tryz.pinned (.plain (OpenSpec.ofChange spoolWaitsSpec)) spoolWaitsCard

/-- THE TIED CARD OF 'postroomlaw12.SpoolSame'. -/
def spoolSameCard : Claim7 := { stood := { row := spoolSameRow, standIns := [], harness := (true, "c25c7d79986c7b0a811bcca385a40cfc1ddc25ffff7f534b8b02617c7e620ac7"), looks := true }, kinds := [], alts := [], laidByText := true, laidKinds := [.data, .data, .data, .data, .data, .sentinel, .sentinel, .pinned], laidTests := true, laidLooks := .later }
def SpoolSameCardSaid : Prop := Claim7.holds Tryz.pinned (.plain (OpenSpec.ofChange spoolSameSpec)) spoolSameCard

/-- THE SECOND FORM's CARD OF 'postroomlaw12.SpoolRoom'. -/
def spoolRoomUptoCard : Claim7 := { stood := { row := spoolRoomUptoRow, standIns := [], harness := (true, "c25c7d79986c7b0a811bcca385a40cfc1ddc25ffff7f534b8b02617c7e620ac7"), looks := true }, kinds := [], alts := [], laidByText := true, laidKinds := [.data, .data, .data, .data, .data, .sentinel, .sentinel, .pinned], laidTests := true, laidLooks := .later }
def SpoolRoomUptoCardSaid : Prop := Claim7.holds Tryz.pinned (.plain (OpenSpec.upto spoolRoomSpec)) spoolRoomUptoCard

/-- THE SECOND FORM's CARD OF 'postroomlaw12.SpoolReclaims'. -/
def spoolReclaimsUptoCard : Claim7 := { stood := { row := spoolReclaimsUptoRow, standIns := [], harness := (true, "c25c7d79986c7b0a811bcca385a40cfc1ddc25ffff7f534b8b02617c7e620ac7"), looks := true }, kinds := [], alts := [], laidByText := true, laidKinds := [.data, .data, .data, .data, .data, .sentinel, .sentinel, .pinned], laidTests := true, laidLooks := .later }
def SpoolReclaimsUptoCardSaid : Prop := Claim7.holds Tryz.pinned (.plain (OpenSpec.upto spoolReclaimsSpec)) spoolReclaimsUptoCard

/-- THE SECOND FORM's CARD OF 'postroomlaw12.SpoolSyncs'. -/
def spoolSyncsUptoCard : Claim7 := { stood := { row := spoolSyncsUptoRow, standIns := [], harness := (true, "c25c7d79986c7b0a811bcca385a40cfc1ddc25ffff7f534b8b02617c7e620ac7"), looks := true }, kinds := [], alts := [], laidByText := true, laidKinds := [.data, .data, .data, .data, .data, .sentinel, .sentinel, .pinned], laidTests := true, laidLooks := .later }
def SpoolSyncsUptoCardSaid : Prop := Claim7.holds Tryz.pinned (.plain (OpenSpec.upto spoolSyncsSpec)) spoolSyncsUptoCard

/-- THE SECOND FORM's CARD OF 'postroomlaw12.SpoolLeaves'. -/
def spoolLeavesUptoCard : Claim7 := { stood := { row := spoolLeavesUptoRow, standIns := [], harness := (true, "c25c7d79986c7b0a811bcca385a40cfc1ddc25ffff7f534b8b02617c7e620ac7"), looks := true }, kinds := [], alts := [], laidByText := true, laidKinds := [.data, .data, .data, .data, .data, .sentinel, .sentinel, .pinned], laidTests := true, laidLooks := .later }
def SpoolLeavesUptoCardSaid : Prop := Claim7.holds Tryz.pinned (.plain (OpenSpec.upto spoolLeavesSpec)) spoolLeavesUptoCard

/-- THE SECOND FORM's CARD OF 'postroomlaw12.SpoolWaits'. -/
def spoolWaitsUptoCard : Claim7 := { stood := { row := spoolWaitsUptoRow, standIns := [], harness := (true, "c25c7d79986c7b0a811bcca385a40cfc1ddc25ffff7f534b8b02617c7e620ac7"), looks := true }, kinds := [], alts := [], laidByText := true, laidKinds := [.data, .data, .data, .data, .data, .sentinel, .sentinel, .pinned], laidTests := true, laidLooks := .later }
def SpoolWaitsUptoCardSaid : Prop := Claim7.holds Tryz.pinned (.plain (OpenSpec.upto spoolWaitsSpec)) spoolWaitsUptoCard

/-- THE SECOND FORM's CARD OF 'postroomlaw12.SpoolSame'. -/
def spoolSameUptoCard : Claim7 := { stood := { row := spoolSameUptoRow, standIns := [], harness := (true, "c25c7d79986c7b0a811bcca385a40cfc1ddc25ffff7f534b8b02617c7e620ac7"), looks := true }, kinds := [], alts := [], laidByText := true, laidKinds := [.data, .data, .data, .data, .data, .sentinel, .sentinel, .pinned], laidTests := true, laidLooks := .later }
def SpoolSameUptoCardSaid : Prop := Claim7.holds Tryz.pinned (.plain (OpenSpec.upto spoolSameSpec)) spoolSameUptoCard
end Rows
end Go.Proofs.YtndgnlblbjpogaaGreatDoor
