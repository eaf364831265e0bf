/-
  DERIVED. GIVEN WITH THE SEED: THE CARDS: each row of YthnekmfcbbohkaaDoorRows.lean that lists a variable, with what it lists TIED to the program's text (the seventh form; the later family's looks); each row that meets fmt, with fmt's text TOLD by the authors' own Lean function (tested against real Go, not proved from fmt's source: count such statements apart). THE CARD IS WHAT COUNTS. Prove the row's statement (the work); the ties are given (YthnekmfcbbohkaaDoorTie.lean); close each card by the builder's one call (the guide's Derived/Test/ToyasCard.lean, 'card_holds'). Laid BY PROGRAM, IN A SANDBOX (cutbox-door.mjs). By AI agents, Wed Nov 11 2026. No macro, syntax, notation, axiom, sorry.
-/
import Derived.Test.YthnekmfcbbohkaaDoorRows
import GoSem.ClaimSeven
namespace Go.Proofs.YthnekmfcbbohkaaDoor
namespace Rows

/-- THE TIED CARD OF 'marlinelaw01.EncApart'. -/
def encApartCard : Claim7 := { stood := { row := encApartRow, standIns := [], harness := (true, "02f71be7097154b30a4478f4898375ac3514074f45ca448fab0c12db293c482d"), looks := false }, kinds := [], alts := [], laidByText := true, laidKinds := [.data], laidTests := true, laidLooks := .later }
def EncApartCardSaid : Prop := Claim7.holds Tryd.pinned (.plain (OpenSpec.ofChange encApartSpec)) encApartCard

/-- THE TIED CARD OF 'marlinelaw01.EncFields'. -/
def encFieldsCard : Claim7 := { stood := { row := encFieldsRow, standIns := [], harness := (true, "02f71be7097154b30a4478f4898375ac3514074f45ca448fab0c12db293c482d"), looks := false }, kinds := [], alts := [], laidByText := true, laidKinds := [.data], laidTests := true, laidLooks := .later }
def EncFieldsCardSaid : Prop := Claim7.holds Tryd.pinned (.plain (OpenSpec.ofChange encFieldsSpec)) encFieldsCard

/-- THE TIED CARD OF 'marlinelaw01.EncWords'. -/
def encWordsCard : Claim7 := { stood := { row := encWordsRow, standIns := [], harness := (true, "02f71be7097154b30a4478f4898375ac3514074f45ca448fab0c12db293c482d"), looks := false }, kinds := [], alts := [], laidByText := true, laidKinds := [.data], laidTests := true, laidLooks := .later }
def EncWordsCardSaid : Prop := Claim7.holds Tryd.pinned (.plain (OpenSpec.ofChange encWordsSpec)) encWordsCard

/-- THE TIED CARD OF 'marlinelaw01.EncBack'. -/
def encBackCard : Claim7 := { stood := { row := encBackRow, standIns := [], harness := (true, "02f71be7097154b30a4478f4898375ac3514074f45ca448fab0c12db293c482d"), looks := false }, kinds := [], alts := [], laidByText := true, laidKinds := [.data], laidTests := true, laidLooks := .later }
def EncBackCardSaid : Prop := Claim7.holds Tryd.pinned (.plain (OpenSpec.ofChange encBackSpec)) encBackCard

/-- THE TIED CARD OF 'marlinelaw01.EncLow'. -/
def encLowCard : Claim7 := { stood := { row := encLowRow, standIns := [], harness := (true, "02f71be7097154b30a4478f4898375ac3514074f45ca448fab0c12db293c482d"), looks := false }, kinds := [], alts := [], laidByText := true, laidKinds := [.data], laidTests := true, laidLooks := .later }
def EncLowCardSaid : Prop := Claim7.holds Tryd.pinned (.plain (OpenSpec.ofChange encLowSpec)) encLowCard

/-- THE TIED CARD OF 'marlinelaw01.EncFar'. -/
def encFarCard : Claim7 := { stood := { row := encFarRow, standIns := [], harness := (true, "02f71be7097154b30a4478f4898375ac3514074f45ca448fab0c12db293c482d"), looks := false }, kinds := [], alts := [], laidByText := true, laidKinds := [.data], laidTests := true, laidLooks := .later }
def EncFarCardSaid : Prop := Claim7.holds Tryd.pinned (.plain (OpenSpec.ofChange encFarSpec)) encFarCard

/-- THE TIED CARD OF 'marlinelaw01.EncCuts'. -/
def encCutsCard : Claim7 := { stood := { row := encCutsRow, standIns := [], harness := (true, "02f71be7097154b30a4478f4898375ac3514074f45ca448fab0c12db293c482d"), looks := false }, kinds := [], alts := [], laidByText := true, laidKinds := [.data], laidTests := true, laidLooks := .later }
def EncCutsCardSaid : Prop := Claim7.holds Tryd.pinned (.plain (OpenSpec.ofChange encCutsSpec)) encCutsCard

/-- THE TIED CARD OF 'marlinelaw01.EncBytes'. -/
def encBytesCard : Claim7 := { stood := { row := encBytesRow, standIns := [], harness := (true, "02f71be7097154b30a4478f4898375ac3514074f45ca448fab0c12db293c482d"), looks := false }, kinds := [], alts := [], laidByText := true, laidKinds := [.data], laidTests := true, laidLooks := .later }
def EncBytesCardSaid : Prop := Claim7.holds Tryd.pinned (.plain (OpenSpec.ofChange encBytesSpec)) encBytesCard

/-- THE TIED CARD OF 'marlinelaw01.EncRows'. -/
def encRowsCard : Claim7 := { stood := { row := encRowsRow, standIns := [], harness := (true, "02f71be7097154b30a4478f4898375ac3514074f45ca448fab0c12db293c482d"), looks := false }, kinds := [], alts := [], laidByText := true, laidKinds := [.data], laidTests := true, laidLooks := .later }
def EncRowsCardSaid : Prop := Claim7.holds Tryd.pinned (.plain (OpenSpec.ofChange encRowsSpec)) encRowsCard

/-- THE SECOND FORM's CARD OF 'marlinelaw01.EncApart'. -/
def encApartUptoCard : Claim7 := { stood := { row := encApartUptoRow, standIns := [], harness := (true, "02f71be7097154b30a4478f4898375ac3514074f45ca448fab0c12db293c482d"), looks := false }, kinds := [], alts := [], laidByText := true, laidKinds := [.data], laidTests := true, laidLooks := .later }
def EncApartUptoCardSaid : Prop := Claim7.holds Tryd.pinned (.plain (OpenSpec.upto encApartSpec)) encApartUptoCard

/-- THE SECOND FORM's CARD OF 'marlinelaw01.EncFields'. -/
def encFieldsUptoCard : Claim7 := { stood := { row := encFieldsUptoRow, standIns := [], harness := (true, "02f71be7097154b30a4478f4898375ac3514074f45ca448fab0c12db293c482d"), looks := false }, kinds := [], alts := [], laidByText := true, laidKinds := [.data], laidTests := true, laidLooks := .later }
def EncFieldsUptoCardSaid : Prop := Claim7.holds Tryd.pinned (.plain (OpenSpec.upto encFieldsSpec)) encFieldsUptoCard

/-- THE SECOND FORM's CARD OF 'marlinelaw01.EncWords'. -/
def encWordsUptoCard : Claim7 := { stood := { row := encWordsUptoRow, standIns := [], harness := (true, "02f71be7097154b30a4478f4898375ac3514074f45ca448fab0c12db293c482d"), looks := false }, kinds := [], alts := [], laidByText := true, laidKinds := [.data], laidTests := true, laidLooks := .later }
def EncWordsUptoCardSaid : Prop := Claim7.holds Tryd.pinned (.plain (OpenSpec.upto encWordsSpec)) encWordsUptoCard

/-- THE SECOND FORM's CARD OF 'marlinelaw01.EncBack'. -/
def encBackUptoCard : Claim7 := { stood := { row := encBackUptoRow, standIns := [], harness := (true, "02f71be7097154b30a4478f4898375ac3514074f45ca448fab0c12db293c482d"), looks := false }, kinds := [], alts := [], laidByText := true, laidKinds := [.data], laidTests := true, laidLooks := .later }
def EncBackUptoCardSaid : Prop := Claim7.holds Tryd.pinned (.plain (OpenSpec.upto encBackSpec)) encBackUptoCard

/-- THE SECOND FORM's CARD OF 'marlinelaw01.EncLow'. -/
def encLowUptoCard : Claim7 := { stood := { row := encLowUptoRow, standIns := [], harness := (true, "02f71be7097154b30a4478f4898375ac3514074f45ca448fab0c12db293c482d"), looks := false }, kinds := [], alts := [], laidByText := true, laidKinds := [.data], laidTests := true, laidLooks := .later }
def EncLowUptoCardSaid : Prop := Claim7.holds Tryd.pinned (.plain (OpenSpec.upto encLowSpec)) encLowUptoCard

/-- THE SECOND FORM's CARD OF 'marlinelaw01.EncFar'. -/
def encFarUptoCard : Claim7 := { stood := { row := encFarUptoRow, standIns := [], harness := (true, "02f71be7097154b30a4478f4898375ac3514074f45ca448fab0c12db293c482d"), looks := false }, kinds := [], alts := [], laidByText := true, laidKinds := [.data], laidTests := true, laidLooks := .later }
def EncFarUptoCardSaid : Prop := Claim7.holds Tryd.pinned (.plain (OpenSpec.upto encFarSpec)) encFarUptoCard

/-- THE SECOND FORM's CARD OF 'marlinelaw01.EncCuts'. -/
def encCutsUptoCard : Claim7 := { stood := { row := encCutsUptoRow, standIns := [], harness := (true, "02f71be7097154b30a4478f4898375ac3514074f45ca448fab0c12db293c482d"), looks := false }, kinds := [], alts := [], laidByText := true, laidKinds := [.data], laidTests := true, laidLooks := .later }
def EncCutsUptoCardSaid : Prop := Claim7.holds Tryd.pinned (.plain (OpenSpec.upto encCutsSpec)) encCutsUptoCard

/-- THE SECOND FORM's CARD OF 'marlinelaw01.EncBytes'. -/
def encBytesUptoCard : Claim7 := { stood := { row := encBytesUptoRow, standIns := [], harness := (true, "02f71be7097154b30a4478f4898375ac3514074f45ca448fab0c12db293c482d"), looks := false }, kinds := [], alts := [], laidByText := true, laidKinds := [.data], laidTests := true, laidLooks := .later }
def EncBytesUptoCardSaid : Prop := Claim7.holds Tryd.pinned (.plain (OpenSpec.upto encBytesSpec)) encBytesUptoCard

/-- THE SECOND FORM's CARD OF 'marlinelaw01.EncRows'. -/
def encRowsUptoCard : Claim7 := { stood := { row := encRowsUptoRow, standIns := [], harness := (true, "02f71be7097154b30a4478f4898375ac3514074f45ca448fab0c12db293c482d"), looks := false }, kinds := [], alts := [], laidByText := true, laidKinds := [.data], laidTests := true, laidLooks := .later }
def EncRowsUptoCardSaid : Prop := Claim7.holds Tryd.pinned (.plain (OpenSpec.upto encRowsSpec)) encRowsUptoCard
end Rows
end Go.Proofs.YthnekmfcbbohkaaDoor
