/-
  DERIVED. GIVEN WITH THE SEED: THE CARDS: each row of YtbopalllpdpcbaaDoorRows.lean that lists a variable, with what it lists TIED to the program's text (the seventh form; the later family's looks); each row that meets fmt, with fmt's text TOLD by the authors' own Lean function (tested against real Go, not proved from fmt's source: count such statements apart). THE CARD IS WHAT COUNTS. Prove the row's statement (the work); the ties are given (YtbopalllpdpcbaaDoorTie.lean); close each card by the builder's one call (the guide's Derived/Test/ToyasCard.lean, 'card_holds'). Laid BY PROGRAM, IN A SANDBOX (cutbox-door.mjs). By AI agents, Wed Nov 11 2026. No macro, syntax, notation, axiom, sorry.
-/
import Derived.Test.YtbopalllpdpcbaaDoorRows
import GoSem.ClaimSeven
namespace Go.Proofs.YtbopalllpdpcbaaDoor
namespace Rows

/-- THE TIED CARD OF 'postroomlaw2.CrcSums'. -/
def crcSumsCard : Claim7 := { stood := { row := crcSumsRow, standIns := [], harness := (true, "813c297085c56bd810fd3925bd3bd3734fff069970c9ba8edcb2fafa2485c054"), looks := false }, kinds := [], alts := [], laidByText := true, laidKinds := [.data], laidTests := true, laidLooks := .later }
def CrcSumsCardSaid : Prop := Claim7.holds Tryd.pinned (.plain (OpenSpec.ofChange crcSumsSpec)) crcSumsCard

/-- THE TIED CARD OF 'postroomlaw2.CrcJoins'. -/
def crcJoinsCard : Claim7 := { stood := { row := crcJoinsRow, standIns := [], harness := (true, "813c297085c56bd810fd3925bd3bd3734fff069970c9ba8edcb2fafa2485c054"), looks := false }, kinds := [], alts := [], laidByText := true, laidKinds := [.data], laidTests := true, laidLooks := .later }
def CrcJoinsCardSaid : Prop := Claim7.holds Tryd.pinned (.plain (OpenSpec.ofChange crcJoinsSpec)) crcJoinsCard

/-- THE TIED CARD OF 'postroomlaw2.CrcFinds'. -/
def crcFindsCard : Claim7 := { stood := { row := crcFindsRow, standIns := [], harness := (true, "813c297085c56bd810fd3925bd3bd3734fff069970c9ba8edcb2fafa2485c054"), looks := false }, kinds := [], alts := [], laidByText := true, laidKinds := [.data], laidTests := true, laidLooks := .later }
def CrcFindsCardSaid : Prop := Claim7.holds Tryd.pinned (.plain (OpenSpec.ofChange crcFindsSpec)) crcFindsCard

/-- THE TIED CARD OF 'postroomlaw2.CrcMixes'. -/
def crcMixesCard : Claim7 := { stood := { row := crcMixesRow, standIns := [], harness := (true, "813c297085c56bd810fd3925bd3bd3734fff069970c9ba8edcb2fafa2485c054"), looks := false }, kinds := [], alts := [], laidByText := true, laidKinds := [.data], laidTests := true, laidLooks := .later }
def CrcMixesCardSaid : Prop := Claim7.holds Tryd.pinned (.plain (OpenSpec.ofChange crcMixesSpec)) crcMixesCard

/-- THE TIED CARD OF 'postroomlaw2.CrcBursts'. -/
def crcBurstsCard : Claim7 := { stood := { row := crcBurstsRow, standIns := [], harness := (true, "813c297085c56bd810fd3925bd3bd3734fff069970c9ba8edcb2fafa2485c054"), looks := false }, kinds := [], alts := [], laidByText := true, laidKinds := [.data], laidTests := true, laidLooks := .later }
def CrcBurstsCardSaid : Prop := Claim7.holds Tryd.pinned (.plain (OpenSpec.ofChange crcBurstsSpec)) crcBurstsCard

/-- THE TIED CARD OF 'postroomlaw2.CrcSteps'. -/
def crcStepsCard : Claim7 := { stood := { row := crcStepsRow, standIns := [], harness := (true, "813c297085c56bd810fd3925bd3bd3734fff069970c9ba8edcb2fafa2485c054"), looks := false }, kinds := [], alts := [], laidByText := true, laidKinds := [.data], laidTests := true, laidLooks := .later }
def CrcStepsCardSaid : Prop := Claim7.holds Tryd.pinned (.plain (OpenSpec.ofChange crcStepsSpec)) crcStepsCard

/-- THE SECOND FORM's CARD OF 'postroomlaw2.CrcSums'. -/
def crcSumsUptoCard : Claim7 := { stood := { row := crcSumsUptoRow, standIns := [], harness := (true, "813c297085c56bd810fd3925bd3bd3734fff069970c9ba8edcb2fafa2485c054"), looks := false }, kinds := [], alts := [], laidByText := true, laidKinds := [.data], laidTests := true, laidLooks := .later }
def CrcSumsUptoCardSaid : Prop := Claim7.holds Tryd.pinned (.plain (OpenSpec.upto crcSumsSpec)) crcSumsUptoCard

/-- THE SECOND FORM's CARD OF 'postroomlaw2.CrcJoins'. -/
def crcJoinsUptoCard : Claim7 := { stood := { row := crcJoinsUptoRow, standIns := [], harness := (true, "813c297085c56bd810fd3925bd3bd3734fff069970c9ba8edcb2fafa2485c054"), looks := false }, kinds := [], alts := [], laidByText := true, laidKinds := [.data], laidTests := true, laidLooks := .later }
def CrcJoinsUptoCardSaid : Prop := Claim7.holds Tryd.pinned (.plain (OpenSpec.upto crcJoinsSpec)) crcJoinsUptoCard

/-- THE SECOND FORM's CARD OF 'postroomlaw2.CrcFinds'. -/
def crcFindsUptoCard : Claim7 := { stood := { row := crcFindsUptoRow, standIns := [], harness := (true, "813c297085c56bd810fd3925bd3bd3734fff069970c9ba8edcb2fafa2485c054"), looks := false }, kinds := [], alts := [], laidByText := true, laidKinds := [.data], laidTests := true, laidLooks := .later }
def CrcFindsUptoCardSaid : Prop := Claim7.holds Tryd.pinned (.plain (OpenSpec.upto crcFindsSpec)) crcFindsUptoCard

/-- THE SECOND FORM's CARD OF 'postroomlaw2.CrcMixes'. -/
def crcMixesUptoCard : Claim7 := { stood := { row := crcMixesUptoRow, standIns := [], harness := (true, "813c297085c56bd810fd3925bd3bd3734fff069970c9ba8edcb2fafa2485c054"), looks := false }, kinds := [], alts := [], laidByText := true, laidKinds := [.data], laidTests := true, laidLooks := .later }
def CrcMixesUptoCardSaid : Prop := Claim7.holds Tryd.pinned (.plain (OpenSpec.upto crcMixesSpec)) crcMixesUptoCard

/-- THE SECOND FORM's CARD OF 'postroomlaw2.CrcBursts'. -/
def crcBurstsUptoCard : Claim7 := { stood := { row := crcBurstsUptoRow, standIns := [], harness := (true, "813c297085c56bd810fd3925bd3bd3734fff069970c9ba8edcb2fafa2485c054"), looks := false }, kinds := [], alts := [], laidByText := true, laidKinds := [.data], laidTests := true, laidLooks := .later }
def CrcBurstsUptoCardSaid : Prop := Claim7.holds Tryd.pinned (.plain (OpenSpec.upto crcBurstsSpec)) crcBurstsUptoCard

/-- THE SECOND FORM's CARD OF 'postroomlaw2.CrcSteps'. -/
def crcStepsUptoCard : Claim7 := { stood := { row := crcStepsUptoRow, standIns := [], harness := (true, "813c297085c56bd810fd3925bd3bd3734fff069970c9ba8edcb2fafa2485c054"), looks := false }, kinds := [], alts := [], laidByText := true, laidKinds := [.data], laidTests := true, laidLooks := .later }
def CrcStepsUptoCardSaid : Prop := Claim7.holds Tryd.pinned (.plain (OpenSpec.upto crcStepsSpec)) crcStepsUptoCard
end Rows
end Go.Proofs.YtbopalllpdpcbaaDoor
