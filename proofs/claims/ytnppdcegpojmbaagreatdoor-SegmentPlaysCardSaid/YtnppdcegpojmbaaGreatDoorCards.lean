/-
  DERIVED. GIVEN WITH THE SEED: THE CARDS: each row of YtnppdcegpojmbaaGreatDoorRows.lean that lists a variable, with what it lists TIED to the program's text (the seventh form; the later family's looks); each row that meets fmt, with fmt's text TOLD by the authors' own Lean function (tested against real Go, not proved from fmt's source: count such statements apart). THE CARD IS WHAT COUNTS. Prove the row's statement (the work); the ties are given (YtnppdcegpojmbaaGreatDoorTie.lean); close each card by the builder's one call (the guide's Derived/Test/ToyasCard.lean, 'card_holds'). Laid BY PROGRAM, IN A SANDBOX (cutbox-door.mjs). By AI agents, Wed Nov 11 2026. No macro, syntax, notation, axiom, sorry.
-/
import Derived.Test.YtnppdcegpojmbaaGreatDoorRows
import GoSem.ClaimSeven
namespace Go.Proofs.YtnppdcegpojmbaaGreatDoor
namespace Rows

/-- THE TIED CARD OF 'postroomlaw9.SegmentRolls'. -/
def segmentRollsCard : Claim7 := { stood := { row := segmentRollsRow, standIns := [], harness := (true, "c7d5a136d60698e61222baa56a383e95c3441332e72d88334a1db5d892a7a15b"), looks := true }, kinds := [], alts := [], laidByText := true, laidKinds := [.data, .data, .data, .data, .data, .sentinel, .sentinel, .pinned], laidTests := true, laidLooks := .later }
def SegmentRollsCardSaid : Prop := Claim7.holds Tryz.pinned (.plain (OpenSpec.ofChange segmentRollsSpec)) segmentRollsCard

/-- THE TIED CARD OF 'postroomlaw9.SegmentSame'. -/
def segmentSameCard : Claim7 := { stood := { row := segmentSameRow, standIns := [], harness := (true, "c7d5a136d60698e61222baa56a383e95c3441332e72d88334a1db5d892a7a15b"), looks := true }, kinds := [], alts := [], laidByText := true, laidKinds := [.data, .data, .data, .data, .data, .sentinel, .sentinel, .pinned], laidTests := true, laidLooks := .later }
def SegmentSameCardSaid : Prop := Claim7.holds Tryz.pinned (.plain (OpenSpec.ofChange segmentSameSpec)) segmentSameCard

/-- THE TIED CARD OF 'postroomlaw9.SegmentReads'. -/
def segmentReadsCard : Claim7 := { stood := { row := segmentReadsRow, standIns := [], harness := (true, "c7d5a136d60698e61222baa56a383e95c3441332e72d88334a1db5d892a7a15b"), looks := true }, kinds := [], alts := [], laidByText := true, laidKinds := [.data, .data, .data, .data, .data, .sentinel, .sentinel, .pinned], laidTests := true, laidLooks := .later }
def SegmentReadsCardSaid : Prop := Claim7.holds Tryz.pinned (.plain (OpenSpec.ofChange segmentReadsSpec)) segmentReadsCard

/-- THE TIED CARD OF 'postroomlaw9.SegmentGets'. -/
def segmentGetsCard : Claim7 := { stood := { row := segmentGetsRow, standIns := [], harness := (true, "c7d5a136d60698e61222baa56a383e95c3441332e72d88334a1db5d892a7a15b"), looks := true }, kinds := [], alts := [], laidByText := true, laidKinds := [.data, .data, .data, .data, .data, .sentinel, .sentinel, .pinned], laidTests := true, laidLooks := .later }
def SegmentGetsCardSaid : Prop := Claim7.holds Tryz.pinned (.plain (OpenSpec.ofChange segmentGetsSpec)) segmentGetsCard

/-- THE TIED CARD OF 'postroomlaw9.SegmentUndoes'. -/
def segmentUndoesCard : Claim7 := { stood := { row := segmentUndoesRow, standIns := [], harness := (true, "c7d5a136d60698e61222baa56a383e95c3441332e72d88334a1db5d892a7a15b"), looks := true }, kinds := [], alts := [], laidByText := true, laidKinds := [.data, .data, .data, .data, .data, .sentinel, .sentinel, .pinned], laidTests := true, laidLooks := .later }
def SegmentUndoesCardSaid : Prop := Claim7.holds Tryz.pinned (.plain (OpenSpec.ofChange segmentUndoesSpec)) segmentUndoesCard

/-- THE TIED CARD OF 'postroomlaw9.SegmentKeeps'. -/
def segmentKeepsCard : Claim7 := { stood := { row := segmentKeepsRow, standIns := [], harness := (true, "c7d5a136d60698e61222baa56a383e95c3441332e72d88334a1db5d892a7a15b"), looks := true }, kinds := [], alts := [], laidByText := true, laidKinds := [.data, .data, .data, .data, .data, .sentinel, .sentinel, .pinned], laidTests := true, laidLooks := .later }
def SegmentKeepsCardSaid : Prop := Claim7.holds Tryz.pinned (.plain (OpenSpec.ofChange segmentKeepsSpec)) segmentKeepsCard

/-- THE TIED CARD OF 'postroomlaw9.SegmentPlays'. -/
def segmentPlaysCard : Claim7 := { stood := { row := segmentPlaysRow, standIns := [], harness := (true, "c7d5a136d60698e61222baa56a383e95c3441332e72d88334a1db5d892a7a15b"), looks := true }, kinds := [], alts := [], laidByText := true, laidKinds := [.data, .data, .data, .data, .data, .sentinel, .sentinel, .pinned], laidTests := true, laidLooks := .later }
def SegmentPlaysCardSaid : Prop := Claim7.holds Tryz.pinned (.plain (OpenSpec.ofChange segmentPlaysSpec)) segmentPlaysCard

/-- THE SECOND FORM's CARD OF 'postroomlaw9.SegmentRolls'. -/
def segmentRollsUptoCard : Claim7 := { stood := { row := segmentRollsUptoRow, standIns := [], harness := (true, "c7d5a136d60698e61222baa56a383e95c3441332e72d88334a1db5d892a7a15b"), looks := true }, kinds := [], alts := [], laidByText := true, laidKinds := [.data, .data, .data, .data, .data, .sentinel, .sentinel, .pinned], laidTests := true, laidLooks := .later }
def SegmentRollsUptoCardSaid : Prop := Claim7.holds Tryz.pinned (.plain (OpenSpec.upto segmentRollsSpec)) segmentRollsUptoCard

/-- THE SECOND FORM's CARD OF 'postroomlaw9.SegmentSame'. -/
def segmentSameUptoCard : Claim7 := { stood := { row := segmentSameUptoRow, standIns := [], harness := (true, "c7d5a136d60698e61222baa56a383e95c3441332e72d88334a1db5d892a7a15b"), looks := true }, kinds := [], alts := [], laidByText := true, laidKinds := [.data, .data, .data, .data, .data, .sentinel, .sentinel, .pinned], laidTests := true, laidLooks := .later }
def SegmentSameUptoCardSaid : Prop := Claim7.holds Tryz.pinned (.plain (OpenSpec.upto segmentSameSpec)) segmentSameUptoCard

/-- THE SECOND FORM's CARD OF 'postroomlaw9.SegmentReads'. -/
def segmentReadsUptoCard : Claim7 := { stood := { row := segmentReadsUptoRow, standIns := [], harness := (true, "c7d5a136d60698e61222baa56a383e95c3441332e72d88334a1db5d892a7a15b"), looks := true }, kinds := [], alts := [], laidByText := true, laidKinds := [.data, .data, .data, .data, .data, .sentinel, .sentinel, .pinned], laidTests := true, laidLooks := .later }
def SegmentReadsUptoCardSaid : Prop := Claim7.holds Tryz.pinned (.plain (OpenSpec.upto segmentReadsSpec)) segmentReadsUptoCard

/-- THE SECOND FORM's CARD OF 'postroomlaw9.SegmentGets'. -/
def segmentGetsUptoCard : Claim7 := { stood := { row := segmentGetsUptoRow, standIns := [], harness := (true, "c7d5a136d60698e61222baa56a383e95c3441332e72d88334a1db5d892a7a15b"), looks := true }, kinds := [], alts := [], laidByText := true, laidKinds := [.data, .data, .data, .data, .data, .sentinel, .sentinel, .pinned], laidTests := true, laidLooks := .later }
def SegmentGetsUptoCardSaid : Prop := Claim7.holds Tryz.pinned (.plain (OpenSpec.upto segmentGetsSpec)) segmentGetsUptoCard

/-- THE SECOND FORM's CARD OF 'postroomlaw9.SegmentUndoes'. -/
def segmentUndoesUptoCard : Claim7 := { stood := { row := segmentUndoesUptoRow, standIns := [], harness := (true, "c7d5a136d60698e61222baa56a383e95c3441332e72d88334a1db5d892a7a15b"), looks := true }, kinds := [], alts := [], laidByText := true, laidKinds := [.data, .data, .data, .data, .data, .sentinel, .sentinel, .pinned], laidTests := true, laidLooks := .later }
def SegmentUndoesUptoCardSaid : Prop := Claim7.holds Tryz.pinned (.plain (OpenSpec.upto segmentUndoesSpec)) segmentUndoesUptoCard

/-- THE SECOND FORM's CARD OF 'postroomlaw9.SegmentKeeps'. -/
def segmentKeepsUptoCard : Claim7 := { stood := { row := segmentKeepsUptoRow, standIns := [], harness := (true, "c7d5a136d60698e61222baa56a383e95c3441332e72d88334a1db5d892a7a15b"), looks := true }, kinds := [], alts := [], laidByText := true, laidKinds := [.data, .data, .data, .data, .data, .sentinel, .sentinel, .pinned], laidTests := true, laidLooks := .later }
def SegmentKeepsUptoCardSaid : Prop := Claim7.holds Tryz.pinned (.plain (OpenSpec.upto segmentKeepsSpec)) segmentKeepsUptoCard

/-- THE SECOND FORM's CARD OF 'postroomlaw9.SegmentPlays'. -/
def segmentPlaysUptoCard : Claim7 := { stood := { row := segmentPlaysUptoRow, standIns := [], harness := (true, "c7d5a136d60698e61222baa56a383e95c3441332e72d88334a1db5d892a7a15b"), looks := true }, kinds := [], alts := [], laidByText := true, laidKinds := [.data, .data, .data, .data, .data, .sentinel, .sentinel, .pinned], laidTests := true, laidLooks := .later }
def SegmentPlaysUptoCardSaid : Prop := Claim7.holds Tryz.pinned (.plain (OpenSpec.upto segmentPlaysSpec)) segmentPlaysUptoCard
end Rows
end Go.Proofs.YtnppdcegpojmbaaGreatDoor
