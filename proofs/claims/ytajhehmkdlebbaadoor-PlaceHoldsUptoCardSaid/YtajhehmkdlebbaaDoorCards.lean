/-
  DERIVED. GIVEN WITH THE SEED: THE CARDS: each row of YtajhehmkdlebbaaDoorRows.lean that lists a variable, with what it lists TIED to the program's text (the seventh form; the later family's looks); each row that meets fmt, with fmt's text TOLD by the authors' own Lean function (tested against real Go, not proved from fmt's source: count such statements apart). THE CARD IS WHAT COUNTS. Prove the row's statement (the work); the ties are given (YtajhehmkdlebbaaDoorTie.lean); close each card by the builder's one call (the guide's Derived/Test/ToyasCard.lean, 'card_holds'). Laid BY PROGRAM, IN A SANDBOX (cutbox-door.mjs). By AI agents, Wed Nov 11 2026. No macro, syntax, notation, axiom, sorry.
-/
import Derived.Test.YtajhehmkdlebbaaDoorRows
import GoSem.ClaimSeven
namespace Go.Proofs.YtajhehmkdlebbaaDoor
namespace Rows

/-- THE TIED CARD OF 'marlinelaw03.RvDoes'. -/
def rvDoesCard : Claim7 := { stood := { row := rvDoesRow, standIns := [], harness := (true, "09e356e6e645010da5d61f8c436d7d46527145bb892822e1c7c648751c971aa3"), looks := false }, kinds := [], alts := [], laidByText := true, laidKinds := [.data], laidTests := true, laidLooks := .later }
def RvDoesCardSaid : Prop := Claim7.holds Tryd.pinned (.plain (OpenSpec.ofChange rvDoesSpec)) rvDoesCard

/-- THE TIED CARD OF 'marlinelaw03.RvSteps'. -/
def rvStepsCard : Claim7 := { stood := { row := rvStepsRow, standIns := [], harness := (true, "09e356e6e645010da5d61f8c436d7d46527145bb892822e1c7c648751c971aa3"), looks := false }, kinds := [], alts := [], laidByText := true, laidKinds := [.data], laidTests := true, laidLooks := .later }
def RvStepsCardSaid : Prop := Claim7.holds Tryd.pinned (.plain (OpenSpec.ofChange rvStepsSpec)) rvStepsCard

/-- THE TIED CARD OF 'marlinelaw03.RvRuns'. -/
def rvRunsCard : Claim7 := { stood := { row := rvRunsRow, standIns := [], harness := (true, "09e356e6e645010da5d61f8c436d7d46527145bb892822e1c7c648751c971aa3"), looks := false }, kinds := [], alts := [], laidByText := true, laidKinds := [.data], laidTests := true, laidLooks := .later }
def RvRunsCardSaid : Prop := Claim7.holds Tryd.pinned (.plain (OpenSpec.ofChange rvRunsSpec)) rvRunsCard

/-- THE TIED CARD OF 'marlinelaw03.RvStays'. -/
def rvStaysCard : Claim7 := { stood := { row := rvStaysRow, standIns := [], harness := (true, "09e356e6e645010da5d61f8c436d7d46527145bb892822e1c7c648751c971aa3"), looks := false }, kinds := [], alts := [], laidByText := true, laidKinds := [.data], laidTests := true, laidLooks := .later }
def RvStaysCardSaid : Prop := Claim7.holds Tryd.pinned (.plain (OpenSpec.ofChange rvStaysSpec)) rvStaysCard

/-- THE TIED CARD OF 'marlinelaw03.RvZero'. -/
def rvZeroCard : Claim7 := { stood := { row := rvZeroRow, standIns := [], harness := (true, "09e356e6e645010da5d61f8c436d7d46527145bb892822e1c7c648751c971aa3"), looks := false }, kinds := [], alts := [], laidByText := true, laidKinds := [.data], laidTests := true, laidLooks := .later }
def RvZeroCardSaid : Prop := Claim7.holds Tryd.pinned (.plain (OpenSpec.ofChange rvZeroSpec)) rvZeroCard

/-- THE TIED CARD OF 'marlinelaw03.RvPages'. -/
def rvPagesCard : Claim7 := { stood := { row := rvPagesRow, standIns := [], harness := (true, "09e356e6e645010da5d61f8c436d7d46527145bb892822e1c7c648751c971aa3"), looks := false }, kinds := [], alts := [], laidByText := true, laidKinds := [.data], laidTests := true, laidLooks := .later }
def RvPagesCardSaid : Prop := Claim7.holds Tryd.pinned (.plain (OpenSpec.ofChange rvPagesSpec)) rvPagesCard

/-- THE TIED CARD OF 'marlinelaw03.RvTraps'. -/
def rvTrapsCard : Claim7 := { stood := { row := rvTrapsRow, standIns := [], harness := (true, "09e356e6e645010da5d61f8c436d7d46527145bb892822e1c7c648751c971aa3"), looks := false }, kinds := [], alts := [], laidByText := true, laidKinds := [.data], laidTests := true, laidLooks := .later }
def RvTrapsCardSaid : Prop := Claim7.holds Tryd.pinned (.plain (OpenSpec.ofChange rvTrapsSpec)) rvTrapsCard

/-- THE TIED CARD OF 'marlinelaw03.RvParts'. -/
def rvPartsCard : Claim7 := { stood := { row := rvPartsRow, standIns := [], harness := (true, "09e356e6e645010da5d61f8c436d7d46527145bb892822e1c7c648751c971aa3"), looks := false }, kinds := [], alts := [], laidByText := true, laidKinds := [.data], laidTests := true, laidLooks := .later }
def RvPartsCardSaid : Prop := Claim7.holds Tryd.pinned (.plain (OpenSpec.ofChange rvPartsSpec)) rvPartsCard

/-- THE TIED CARD OF 'marlinelaw03.RvReckons'. -/
def rvReckonsCard : Claim7 := { stood := { row := rvReckonsRow, standIns := [], harness := (true, "09e356e6e645010da5d61f8c436d7d46527145bb892822e1c7c648751c971aa3"), looks := false }, kinds := [], alts := [], laidByText := true, laidKinds := [.data], laidTests := true, laidLooks := .later }
def RvReckonsCardSaid : Prop := Claim7.holds Tryd.pinned (.plain (OpenSpec.ofChange rvReckonsSpec)) rvReckonsCard

/-- THE TIED CARD OF 'marlinelaw03.RvBranches'. -/
def rvBranchesCard : Claim7 := { stood := { row := rvBranchesRow, standIns := [], harness := (true, "09e356e6e645010da5d61f8c436d7d46527145bb892822e1c7c648751c971aa3"), looks := false }, kinds := [], alts := [], laidByText := true, laidKinds := [.data], laidTests := true, laidLooks := .later }
def RvBranchesCardSaid : Prop := Claim7.holds Tryd.pinned (.plain (OpenSpec.ofChange rvBranchesSpec)) rvBranchesCard

/-- THE TIED CARD OF 'marlinelaw18.PlaceMay'. -/
def placeMayCard : Claim7 := { stood := { row := placeMayRow, standIns := [], harness := (true, "09e356e6e645010da5d61f8c436d7d46527145bb892822e1c7c648751c971aa3"), looks := false }, kinds := [], alts := [], laidByText := true, laidKinds := [.data], laidTests := true, laidLooks := .later }
def PlaceMayCardSaid : Prop := Claim7.holds Tryd.pinned (.plain (OpenSpec.ofChange placeMaySpec)) placeMayCard

/-- THE TIED CARD OF 'marlinelaw18.PlaceHolds'. -/
def placeHoldsCard : Claim7 := { stood := { row := placeHoldsRow, standIns := [], harness := (true, "09e356e6e645010da5d61f8c436d7d46527145bb892822e1c7c648751c971aa3"), looks := false }, kinds := [], alts := [], laidByText := true, laidKinds := [.data], laidTests := true, laidLooks := .later }
def PlaceHoldsCardSaid : Prop := Claim7.holds Tryd.pinned (.plain (OpenSpec.ofChange placeHoldsSpec)) placeHoldsCard

/-- THE SECOND FORM's CARD OF 'marlinelaw03.RvDoes'. -/
def rvDoesUptoCard : Claim7 := { stood := { row := rvDoesUptoRow, standIns := [], harness := (true, "09e356e6e645010da5d61f8c436d7d46527145bb892822e1c7c648751c971aa3"), looks := false }, kinds := [], alts := [], laidByText := true, laidKinds := [.data], laidTests := true, laidLooks := .later }
def RvDoesUptoCardSaid : Prop := Claim7.holds Tryd.pinned (.plain (OpenSpec.upto rvDoesSpec)) rvDoesUptoCard

/-- THE SECOND FORM's CARD OF 'marlinelaw03.RvSteps'. -/
def rvStepsUptoCard : Claim7 := { stood := { row := rvStepsUptoRow, standIns := [], harness := (true, "09e356e6e645010da5d61f8c436d7d46527145bb892822e1c7c648751c971aa3"), looks := false }, kinds := [], alts := [], laidByText := true, laidKinds := [.data], laidTests := true, laidLooks := .later }
def RvStepsUptoCardSaid : Prop := Claim7.holds Tryd.pinned (.plain (OpenSpec.upto rvStepsSpec)) rvStepsUptoCard

/-- THE SECOND FORM's CARD OF 'marlinelaw03.RvRuns'. -/
def rvRunsUptoCard : Claim7 := { stood := { row := rvRunsUptoRow, standIns := [], harness := (true, "09e356e6e645010da5d61f8c436d7d46527145bb892822e1c7c648751c971aa3"), looks := false }, kinds := [], alts := [], laidByText := true, laidKinds := [.data], laidTests := true, laidLooks := .later }
def RvRunsUptoCardSaid : Prop := Claim7.holds Tryd.pinned (.plain (OpenSpec.upto rvRunsSpec)) rvRunsUptoCard

/-- THE SECOND FORM's CARD OF 'marlinelaw03.RvStays'. -/
def rvStaysUptoCard : Claim7 := { stood := { row := rvStaysUptoRow, standIns := [], harness := (true, "09e356e6e645010da5d61f8c436d7d46527145bb892822e1c7c648751c971aa3"), looks := false }, kinds := [], alts := [], laidByText := true, laidKinds := [.data], laidTests := true, laidLooks := .later }
def RvStaysUptoCardSaid : Prop := Claim7.holds Tryd.pinned (.plain (OpenSpec.upto rvStaysSpec)) rvStaysUptoCard

/-- THE SECOND FORM's CARD OF 'marlinelaw03.RvZero'. -/
def rvZeroUptoCard : Claim7 := { stood := { row := rvZeroUptoRow, standIns := [], harness := (true, "09e356e6e645010da5d61f8c436d7d46527145bb892822e1c7c648751c971aa3"), looks := false }, kinds := [], alts := [], laidByText := true, laidKinds := [.data], laidTests := true, laidLooks := .later }
def RvZeroUptoCardSaid : Prop := Claim7.holds Tryd.pinned (.plain (OpenSpec.upto rvZeroSpec)) rvZeroUptoCard

/-- THE SECOND FORM's CARD OF 'marlinelaw03.RvPages'. -/
def rvPagesUptoCard : Claim7 := { stood := { row := rvPagesUptoRow, standIns := [], harness := (true, "09e356e6e645010da5d61f8c436d7d46527145bb892822e1c7c648751c971aa3"), looks := false }, kinds := [], alts := [], laidByText := true, laidKinds := [.data], laidTests := true, laidLooks := .later }
def RvPagesUptoCardSaid : Prop := Claim7.holds Tryd.pinned (.plain (OpenSpec.upto rvPagesSpec)) rvPagesUptoCard

/-- THE SECOND FORM's CARD OF 'marlinelaw03.RvTraps'. -/
def rvTrapsUptoCard : Claim7 := { stood := { row := rvTrapsUptoRow, standIns := [], harness := (true, "09e356e6e645010da5d61f8c436d7d46527145bb892822e1c7c648751c971aa3"), looks := false }, kinds := [], alts := [], laidByText := true, laidKinds := [.data], laidTests := true, laidLooks := .later }
def RvTrapsUptoCardSaid : Prop := Claim7.holds Tryd.pinned (.plain (OpenSpec.upto rvTrapsSpec)) rvTrapsUptoCard

/-- THE SECOND FORM's CARD OF 'marlinelaw03.RvParts'. -/
def rvPartsUptoCard : Claim7 := { stood := { row := rvPartsUptoRow, standIns := [], harness := (true, "09e356e6e645010da5d61f8c436d7d46527145bb892822e1c7c648751c971aa3"), looks := false }, kinds := [], alts := [], laidByText := true, laidKinds := [.data], laidTests := true, laidLooks := .later }
def RvPartsUptoCardSaid : Prop := Claim7.holds Tryd.pinned (.plain (OpenSpec.upto rvPartsSpec)) rvPartsUptoCard

/-- THE SECOND FORM's CARD OF 'marlinelaw03.RvReckons'. -/
def rvReckonsUptoCard : Claim7 := { stood := { row := rvReckonsUptoRow, standIns := [], harness := (true, "09e356e6e645010da5d61f8c436d7d46527145bb892822e1c7c648751c971aa3"), looks := false }, kinds := [], alts := [], laidByText := true, laidKinds := [.data], laidTests := true, laidLooks := .later }
def RvReckonsUptoCardSaid : Prop := Claim7.holds Tryd.pinned (.plain (OpenSpec.upto rvReckonsSpec)) rvReckonsUptoCard

/-- THE SECOND FORM's CARD OF 'marlinelaw03.RvBranches'. -/
def rvBranchesUptoCard : Claim7 := { stood := { row := rvBranchesUptoRow, standIns := [], harness := (true, "09e356e6e645010da5d61f8c436d7d46527145bb892822e1c7c648751c971aa3"), looks := false }, kinds := [], alts := [], laidByText := true, laidKinds := [.data], laidTests := true, laidLooks := .later }
def RvBranchesUptoCardSaid : Prop := Claim7.holds Tryd.pinned (.plain (OpenSpec.upto rvBranchesSpec)) rvBranchesUptoCard

/-- THE SECOND FORM's CARD OF 'marlinelaw18.PlaceMay'. -/
def placeMayUptoCard : Claim7 := { stood := { row := placeMayUptoRow, standIns := [], harness := (true, "09e356e6e645010da5d61f8c436d7d46527145bb892822e1c7c648751c971aa3"), looks := false }, kinds := [], alts := [], laidByText := true, laidKinds := [.data], laidTests := true, laidLooks := .later }
def PlaceMayUptoCardSaid : Prop := Claim7.holds Tryd.pinned (.plain (OpenSpec.upto placeMaySpec)) placeMayUptoCard

/-- THE SECOND FORM's CARD OF 'marlinelaw18.PlaceHolds'. -/
def placeHoldsUptoCard : Claim7 := { stood := { row := placeHoldsUptoRow, standIns := [], harness := (true, "09e356e6e645010da5d61f8c436d7d46527145bb892822e1c7c648751c971aa3"), looks := false }, kinds := [], alts := [], laidByText := true, laidKinds := [.data], laidTests := true, laidLooks := .later }
def PlaceHoldsUptoCardSaid : Prop := Claim7.holds Tryd.pinned (.plain (OpenSpec.upto placeHoldsSpec)) placeHoldsUptoCard
end Rows
end Go.Proofs.YtajhehmkdlebbaaDoor
