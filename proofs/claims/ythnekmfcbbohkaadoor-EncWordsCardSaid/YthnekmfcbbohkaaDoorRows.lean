/-
  NARROWER THAN 'FOR EVERY INPUT', by the rows' own cells (each row's printed sentence says how): EncApart: laid · EncFields: laid · EncWords: laid · EncBack: laid · EncLow: laid · EncFar: laid · EncCuts: laid · EncBytes: laid · EncRows: laid.
  DERIVED. THE GIVEN ROWS OF THIS SEAT. 9 by the template 'for every input the law returns true; each argument reads behind the call as it read before'; 0 by the template 'total and deterministic' (their statements: YthnekmfcbbohkaaDoorTotals.lean).
  GIVEN WITH THE SEED: the statements are not yours to turn. If you find one false, say at which input.
  Laid BY PROGRAM, IN A SANDBOX (cutbox-rows.mjs): the forced cells as the released guide's own fill.sh prints them over the translation a5fd52b0872d956e… (all of the seat's roots in one cut). By AI agents, Wed Nov 11 2026. No macro, syntax, notation, axiom, sorry.
-/
import Derived.Test.YthnekmfcbbohkaaDoorChecked
import GoSem.Claim
import GoSem.ClaimJoined
import GoSem.ClaimMapViews
import Derived.JoinedTies
import Derived.KernelRfl
namespace Go.Proofs.YthnekmfcbbohkaaDoor
/- THE CELL 'sum', in the pinned program and in every row, IS THE sha256 OF THE DUMP (.gsa) THAT YthnekmfcbbohkaaDoorProg.lean LOADS. Nothing in Lean hashes anything: it is a label: what it is worth is what the hold of that sum in a sandbox is worth. -/
noncomputable def Tryd.pinned : Pinned := { name := "ythnekmfcbbohkaadoor", sum := "a5fd52b0872d956e479701ae9b581a9cbf7bcd4ca21040be7546ab129dc4bedd", checked := Tryd.checked }
namespace Rows
def none {H : Type} : Left H := { results := [], args := [] }

/- WHAT THE LISTED PACKAGE-LEVEL VARIABLES READ AS WHEN THE CALL BEGINS. Each datum BY PROGRAM (the guide's laid-datum.mjs) off the statement by which the dump's own 'gosem.cut.vars' lays the variable. In a bare row this is a premise. The card (YthnekmfcbbohkaaDoorCards.lean) ties it to the program's text. -/
def laid_marline_enc_sorts {H : Type} : DataW H := .agg [.agg [.lit (.int .u8 0), .lit (.int .u32 0), .lit (.int .u32 0), .lit (.int .u32 0)], .agg [.lit (.int .u8 82), .lit (.int .u32 51), .lit (.int .u32 0), .lit (.int .u32 0)], .agg [.lit (.int .u8 82), .lit (.int .u32 51), .lit (.int .u32 0), .lit (.int .u32 32)], .agg [.lit (.int .u8 82), .lit (.int .u32 51), .lit (.int .u32 1), .lit (.int .u32 0)], .agg [.lit (.int .u8 82), .lit (.int .u32 51), .lit (.int .u32 3), .lit (.int .u32 0)], .agg [.lit (.int .u8 82), .lit (.int .u32 51), .lit (.int .u32 4), .lit (.int .u32 0)], .agg [.lit (.int .u8 82), .lit (.int .u32 51), .lit (.int .u32 5), .lit (.int .u32 0)], .agg [.lit (.int .u8 82), .lit (.int .u32 51), .lit (.int .u32 6), .lit (.int .u32 0)], .agg [.lit (.int .u8 82), .lit (.int .u32 51), .lit (.int .u32 7), .lit (.int .u32 0)], .agg [.lit (.int .u8 82), .lit (.int .u32 51), .lit (.int .u32 0), .lit (.int .u32 1)], .agg [.lit (.int .u8 82), .lit (.int .u32 51), .lit (.int .u32 5), .lit (.int .u32 1)], .agg [.lit (.int .u8 82), .lit (.int .u32 51), .lit (.int .u32 7), .lit (.int .u32 1)], .agg [.lit (.int .u8 73), .lit (.int .u32 19), .lit (.int .u32 0), .lit (.int .u32 0)], .agg [.lit (.int .u8 73), .lit (.int .u32 19), .lit (.int .u32 3), .lit (.int .u32 0)], .agg [.lit (.int .u8 73), .lit (.int .u32 19), .lit (.int .u32 4), .lit (.int .u32 0)], .agg [.lit (.int .u8 73), .lit (.int .u32 19), .lit (.int .u32 6), .lit (.int .u32 0)], .agg [.lit (.int .u8 73), .lit (.int .u32 19), .lit (.int .u32 7), .lit (.int .u32 0)], .agg [.lit (.int .u8 72), .lit (.int .u32 19), .lit (.int .u32 1), .lit (.int .u32 0)], .agg [.lit (.int .u8 72), .lit (.int .u32 19), .lit (.int .u32 5), .lit (.int .u32 0)], .agg [.lit (.int .u8 73), .lit (.int .u32 3), .lit (.int .u32 3), .lit (.int .u32 0)], .agg [.lit (.int .u8 73), .lit (.int .u32 3), .lit (.int .u32 4), .lit (.int .u32 0)], .agg [.lit (.int .u8 83), .lit (.int .u32 35), .lit (.int .u32 3), .lit (.int .u32 0)], .agg [.lit (.int .u8 83), .lit (.int .u32 35), .lit (.int .u32 0), .lit (.int .u32 0)], .agg [.lit (.int .u8 66), .lit (.int .u32 99), .lit (.int .u32 0), .lit (.int .u32 0)], .agg [.lit (.int .u8 66), .lit (.int .u32 99), .lit (.int .u32 1), .lit (.int .u32 0)], .agg [.lit (.int .u8 66), .lit (.int .u32 99), .lit (.int .u32 6), .lit (.int .u32 0)], .agg [.lit (.int .u8 66), .lit (.int .u32 99), .lit (.int .u32 7), .lit (.int .u32 0)], .agg [.lit (.int .u8 85), .lit (.int .u32 55), .lit (.int .u32 0), .lit (.int .u32 0)], .agg [.lit (.int .u8 85), .lit (.int .u32 23), .lit (.int .u32 0), .lit (.int .u32 0)], .agg [.lit (.int .u8 74), .lit (.int .u32 111), .lit (.int .u32 0), .lit (.int .u32 0)], .agg [.lit (.int .u8 73), .lit (.int .u32 103), .lit (.int .u32 0), .lit (.int .u32 0)], .agg [.lit (.int .u8 69), .lit (.int .u32 115), .lit (.int .u32 0), .lit (.int .u32 0)]]

/-- 'marlinelaw01.EncApart': WHATEVER THE INPUT: true; the input reads as it did. -/
def encApartSpec : ChangeSpec := { name := "encApart", fn := fun _ => fun
  | [d1, d2] => { results := [.lit (.bool true)], args := [d1, d2] }
  | _ => none }
def encApartRow : OpenClaim := { program := "ythnekmfcbbohkaadoor", sum := "a5fd52b0872d956e479701ae9b581a9cbf7bcd4ca21040be7546ab129dc4bedd", func := "marline/marlinelaw01.EncApart", spec := "encApart", named := ["marline/enc.sorts"], apart := false, laid := [("marline/enc.sorts", laid_marline_enc_sorts)] }
def EncApartSaid : Prop := encApartRow.holds Tryd.pinned (OpenSpec.ofChange encApartSpec)

/-- ITS FALSE NEIGHBOUR: 'it returns false'. Refute it at one input. -/
def encApartWrong : ChangeSpec := { name := "encApart", fn := fun _ => fun
  | [d1, d2] => { results := [.lit (.bool false)], args := [d1, d2] }
  | _ => none }
def EncApartWrongFalsely : Prop := encApartRow.holds Tryd.pinned (OpenSpec.ofChange encApartWrong)

/-- 'marlinelaw01.EncFields': WHATEVER THE INPUT: true; the input reads as it did. -/
def encFieldsSpec : ChangeSpec := { name := "encFields", fn := fun _ => fun
  | [d] => { results := [.lit (.bool true)], args := [d] }
  | _ => none }
def encFieldsRow : OpenClaim := { program := "ythnekmfcbbohkaadoor", sum := "a5fd52b0872d956e479701ae9b581a9cbf7bcd4ca21040be7546ab129dc4bedd", func := "marline/marlinelaw01.EncFields", spec := "encFields", named := ["marline/enc.sorts"], apart := false, laid := [("marline/enc.sorts", laid_marline_enc_sorts)] }
def EncFieldsSaid : Prop := encFieldsRow.holds Tryd.pinned (OpenSpec.ofChange encFieldsSpec)

/-- ITS FALSE NEIGHBOUR: 'it returns false'. Refute it at one input. -/
def encFieldsWrong : ChangeSpec := { name := "encFields", fn := fun _ => fun
  | [d] => { results := [.lit (.bool false)], args := [d] }
  | _ => none }
def EncFieldsWrongFalsely : Prop := encFieldsRow.holds Tryd.pinned (OpenSpec.ofChange encFieldsWrong)

/-- 'marlinelaw01.EncWords': WHATEVER THE INPUT: true; the input reads as it did. -/
def encWordsSpec : ChangeSpec := { name := "encWords", fn := fun _ => fun
  | [d1, d2] => { results := [.lit (.bool true)], args := [d1, d2] }
  | _ => none }
def encWordsRow : OpenClaim := { program := "ythnekmfcbbohkaadoor", sum := "a5fd52b0872d956e479701ae9b581a9cbf7bcd4ca21040be7546ab129dc4bedd", func := "marline/marlinelaw01.EncWords", spec := "encWords", named := ["marline/enc.sorts"], apart := false, laid := [("marline/enc.sorts", laid_marline_enc_sorts)] }
def EncWordsSaid : Prop := encWordsRow.holds Tryd.pinned (OpenSpec.ofChange encWordsSpec)

/-- ITS FALSE NEIGHBOUR: 'it returns false'. Refute it at one input. -/
def encWordsWrong : ChangeSpec := { name := "encWords", fn := fun _ => fun
  | [d1, d2] => { results := [.lit (.bool false)], args := [d1, d2] }
  | _ => none }
def EncWordsWrongFalsely : Prop := encWordsRow.holds Tryd.pinned (OpenSpec.ofChange encWordsWrong)

/-- 'marlinelaw01.EncBack': WHATEVER THE INPUT: true; the input reads as it did. -/
def encBackSpec : ChangeSpec := { name := "encBack", fn := fun _ => fun
  | [d1, d2] => { results := [.lit (.bool true)], args := [d1, d2] }
  | _ => none }
def encBackRow : OpenClaim := { program := "ythnekmfcbbohkaadoor", sum := "a5fd52b0872d956e479701ae9b581a9cbf7bcd4ca21040be7546ab129dc4bedd", func := "marline/marlinelaw01.EncBack", spec := "encBack", named := ["marline/enc.sorts"], apart := false, laid := [("marline/enc.sorts", laid_marline_enc_sorts)] }
def EncBackSaid : Prop := encBackRow.holds Tryd.pinned (OpenSpec.ofChange encBackSpec)

/-- ITS FALSE NEIGHBOUR: 'it returns false'. Refute it at one input. -/
def encBackWrong : ChangeSpec := { name := "encBack", fn := fun _ => fun
  | [d1, d2] => { results := [.lit (.bool false)], args := [d1, d2] }
  | _ => none }
def EncBackWrongFalsely : Prop := encBackRow.holds Tryd.pinned (OpenSpec.ofChange encBackWrong)

/-- 'marlinelaw01.EncLow': WHATEVER THE INPUT: true; the input reads as it did. -/
def encLowSpec : ChangeSpec := { name := "encLow", fn := fun _ => fun
  | [d1, d2] => { results := [.lit (.bool true)], args := [d1, d2] }
  | _ => none }
def encLowRow : OpenClaim := { program := "ythnekmfcbbohkaadoor", sum := "a5fd52b0872d956e479701ae9b581a9cbf7bcd4ca21040be7546ab129dc4bedd", func := "marline/marlinelaw01.EncLow", spec := "encLow", named := ["marline/enc.sorts"], apart := false, laid := [("marline/enc.sorts", laid_marline_enc_sorts)] }
def EncLowSaid : Prop := encLowRow.holds Tryd.pinned (OpenSpec.ofChange encLowSpec)

/-- ITS FALSE NEIGHBOUR: 'it returns false'. Refute it at one input. -/
def encLowWrong : ChangeSpec := { name := "encLow", fn := fun _ => fun
  | [d1, d2] => { results := [.lit (.bool false)], args := [d1, d2] }
  | _ => none }
def EncLowWrongFalsely : Prop := encLowRow.holds Tryd.pinned (OpenSpec.ofChange encLowWrong)

/-- 'marlinelaw01.EncFar': WHATEVER THE INPUT: true; the input reads as it did. -/
def encFarSpec : ChangeSpec := { name := "encFar", fn := fun _ => fun
  | [d1, d2] => { results := [.lit (.bool true)], args := [d1, d2] }
  | _ => none }
def encFarRow : OpenClaim := { program := "ythnekmfcbbohkaadoor", sum := "a5fd52b0872d956e479701ae9b581a9cbf7bcd4ca21040be7546ab129dc4bedd", func := "marline/marlinelaw01.EncFar", spec := "encFar", named := ["marline/enc.sorts"], apart := false, laid := [("marline/enc.sorts", laid_marline_enc_sorts)] }
def EncFarSaid : Prop := encFarRow.holds Tryd.pinned (OpenSpec.ofChange encFarSpec)

/-- ITS FALSE NEIGHBOUR: 'it returns false'. Refute it at one input. -/
def encFarWrong : ChangeSpec := { name := "encFar", fn := fun _ => fun
  | [d1, d2] => { results := [.lit (.bool false)], args := [d1, d2] }
  | _ => none }
def EncFarWrongFalsely : Prop := encFarRow.holds Tryd.pinned (OpenSpec.ofChange encFarWrong)

/-- 'marlinelaw01.EncCuts': WHATEVER THE INPUT: true; the input reads as it did. -/
def encCutsSpec : ChangeSpec := { name := "encCuts", fn := fun _ => fun
  | [d] => { results := [.lit (.bool true)], args := [d] }
  | _ => none }
def encCutsRow : OpenClaim := { program := "ythnekmfcbbohkaadoor", sum := "a5fd52b0872d956e479701ae9b581a9cbf7bcd4ca21040be7546ab129dc4bedd", func := "marline/marlinelaw01.EncCuts", spec := "encCuts", named := ["marline/enc.sorts"], apart := false, laid := [("marline/enc.sorts", laid_marline_enc_sorts)] }
def EncCutsSaid : Prop := encCutsRow.holds Tryd.pinned (OpenSpec.ofChange encCutsSpec)

/-- ITS FALSE NEIGHBOUR: 'it returns false'. Refute it at one input. -/
def encCutsWrong : ChangeSpec := { name := "encCuts", fn := fun _ => fun
  | [d] => { results := [.lit (.bool false)], args := [d] }
  | _ => none }
def EncCutsWrongFalsely : Prop := encCutsRow.holds Tryd.pinned (OpenSpec.ofChange encCutsWrong)

/-- 'marlinelaw01.EncBytes': WHATEVER THE INPUT: true; the input reads as it did. -/
def encBytesSpec : ChangeSpec := { name := "encBytes", fn := fun _ => fun
  | [d1, d2] => { results := [.lit (.bool true)], args := [d1, d2] }
  | _ => none }
def encBytesRow : OpenClaim := { program := "ythnekmfcbbohkaadoor", sum := "a5fd52b0872d956e479701ae9b581a9cbf7bcd4ca21040be7546ab129dc4bedd", func := "marline/marlinelaw01.EncBytes", spec := "encBytes", inPlace := ["internal/abi.NoEscape"], named := ["marline/enc.sorts"], apart := false, laid := [("marline/enc.sorts", laid_marline_enc_sorts)] }
def EncBytesSaid : Prop := encBytesRow.holds Tryd.pinned (OpenSpec.ofChange encBytesSpec)

/-- ITS FALSE NEIGHBOUR: 'it returns false'. Refute it at one input. -/
def encBytesWrong : ChangeSpec := { name := "encBytes", fn := fun _ => fun
  | [d1, d2] => { results := [.lit (.bool false)], args := [d1, d2] }
  | _ => none }
def EncBytesWrongFalsely : Prop := encBytesRow.holds Tryd.pinned (OpenSpec.ofChange encBytesWrong)

/-- 'marlinelaw01.EncRows': WHATEVER THE INPUT: true; the input reads as it did. -/
def encRowsSpec : ChangeSpec := { name := "encRows", fn := fun _ => fun
  | [d1, d2] => { results := [.lit (.bool true)], args := [d1, d2] }
  | _ => none }
def encRowsRow : OpenClaim := { program := "ythnekmfcbbohkaadoor", sum := "a5fd52b0872d956e479701ae9b581a9cbf7bcd4ca21040be7546ab129dc4bedd", func := "marline/marlinelaw01.EncRows", spec := "encRows", inPlace := ["internal/abi.NoEscape"], named := ["marline/enc.sorts"], apart := false, laid := [("marline/enc.sorts", laid_marline_enc_sorts)] }
def EncRowsSaid : Prop := encRowsRow.holds Tryd.pinned (OpenSpec.ofChange encRowsSpec)

/-- ITS FALSE NEIGHBOUR: 'it returns false'. Refute it at one input. -/
def encRowsWrong : ChangeSpec := { name := "encRows", fn := fun _ => fun
  | [d1, d2] => { results := [.lit (.bool false)], args := [d1, d2] }
  | _ => none }
def EncRowsWrongFalsely : Prop := encRowsRow.holds Tryd.pinned (OpenSpec.ofChange encRowsWrong)

/- THE SECOND FORM. 'bulk': how many values and letters a reading holds, each counted each time it is reached (what is shared counts as often as it is met; a slice's spare places count too). A statement '..UptoSaid' is the law's where the arguments, and the package variables that the reading takes, are together of bulk at most 1048576: NARROWER than '..Said'. Prove '..Said' where nothing that the law and all that it calls make is longer than what came in: it says more and counts as full. Else prove '..UptoSaid'. A law counts once. -/
mutual
def uptoBulk {H : Type} : DataW H → Nat
  | .lit (.string bytes) => bytes.length + 1
  | .lit _ => 1
  | .nil => 1
  | .ptr d => uptoBulk d + 1
  | .slice elems spare => uptoBulkAll elems + uptoBulkAll spare + 1
  | .agg parts => uptoBulkAll parts + 1
  | .iface _ d => uptoBulk d + 1
  | .map entries => uptoBulkEntries entries + 1
  | .held _ => 1
def uptoBulkAll {H : Type} : List (DataW H) → Nat
  | [] => 0
  | d :: r => uptoBulk d + uptoBulkAll r
def uptoBulkEntries {H : Type} : List (Lit × DataW H) → Nat
  | [] => 0
  | x :: r => uptoBulkEntry x + uptoBulkEntries r
def uptoBulkEntry {H : Type} : Lit × DataW H → Nat
  | (.string bytes, d) => bytes.length + uptoBulk d + 1
  | (_, d) => uptoBulk d + 1
 end
def uptoSmall : (H : Type) → List (DataW H) → Bool := fun _ ds => decide (uptoBulkAll ds ≤ 1048576)
def OpenSpec.upto (s : _root_.Go.ChangeSpec) : _root_.Go.OpenSpec := { _root_.Go.OpenSpec.ofChange s with cond := some uptoSmall }

/-- 'marlinelaw01.EncApart', WHERE WHAT IT READS IS OF BULK AT MOST 1048576: true; the input reads as it did. -/
def encApartUptoRow : OpenClaim := { program := "ythnekmfcbbohkaadoor", sum := "a5fd52b0872d956e479701ae9b581a9cbf7bcd4ca21040be7546ab129dc4bedd", func := "marline/marlinelaw01.EncApart", spec := "encApart", named := ["marline/enc.sorts"], apart := false, laid := [("marline/enc.sorts", laid_marline_enc_sorts)], narrowed := true }
def EncApartUptoSaid : Prop := encApartUptoRow.holds Tryd.pinned (OpenSpec.upto encApartSpec)

/-- 'marlinelaw01.EncFields', WHERE WHAT IT READS IS OF BULK AT MOST 1048576: true; the input reads as it did. -/
def encFieldsUptoRow : OpenClaim := { program := "ythnekmfcbbohkaadoor", sum := "a5fd52b0872d956e479701ae9b581a9cbf7bcd4ca21040be7546ab129dc4bedd", func := "marline/marlinelaw01.EncFields", spec := "encFields", named := ["marline/enc.sorts"], apart := false, laid := [("marline/enc.sorts", laid_marline_enc_sorts)], narrowed := true }
def EncFieldsUptoSaid : Prop := encFieldsUptoRow.holds Tryd.pinned (OpenSpec.upto encFieldsSpec)

/-- 'marlinelaw01.EncWords', WHERE WHAT IT READS IS OF BULK AT MOST 1048576: true; the input reads as it did. -/
def encWordsUptoRow : OpenClaim := { program := "ythnekmfcbbohkaadoor", sum := "a5fd52b0872d956e479701ae9b581a9cbf7bcd4ca21040be7546ab129dc4bedd", func := "marline/marlinelaw01.EncWords", spec := "encWords", named := ["marline/enc.sorts"], apart := false, laid := [("marline/enc.sorts", laid_marline_enc_sorts)], narrowed := true }
def EncWordsUptoSaid : Prop := encWordsUptoRow.holds Tryd.pinned (OpenSpec.upto encWordsSpec)

/-- 'marlinelaw01.EncBack', WHERE WHAT IT READS IS OF BULK AT MOST 1048576: true; the input reads as it did. -/
def encBackUptoRow : OpenClaim := { program := "ythnekmfcbbohkaadoor", sum := "a5fd52b0872d956e479701ae9b581a9cbf7bcd4ca21040be7546ab129dc4bedd", func := "marline/marlinelaw01.EncBack", spec := "encBack", named := ["marline/enc.sorts"], apart := false, laid := [("marline/enc.sorts", laid_marline_enc_sorts)], narrowed := true }
def EncBackUptoSaid : Prop := encBackUptoRow.holds Tryd.pinned (OpenSpec.upto encBackSpec)

/-- 'marlinelaw01.EncLow', WHERE WHAT IT READS IS OF BULK AT MOST 1048576: true; the input reads as it did. -/
def encLowUptoRow : OpenClaim := { program := "ythnekmfcbbohkaadoor", sum := "a5fd52b0872d956e479701ae9b581a9cbf7bcd4ca21040be7546ab129dc4bedd", func := "marline/marlinelaw01.EncLow", spec := "encLow", named := ["marline/enc.sorts"], apart := false, laid := [("marline/enc.sorts", laid_marline_enc_sorts)], narrowed := true }
def EncLowUptoSaid : Prop := encLowUptoRow.holds Tryd.pinned (OpenSpec.upto encLowSpec)

/-- 'marlinelaw01.EncFar', WHERE WHAT IT READS IS OF BULK AT MOST 1048576: true; the input reads as it did. -/
def encFarUptoRow : OpenClaim := { program := "ythnekmfcbbohkaadoor", sum := "a5fd52b0872d956e479701ae9b581a9cbf7bcd4ca21040be7546ab129dc4bedd", func := "marline/marlinelaw01.EncFar", spec := "encFar", named := ["marline/enc.sorts"], apart := false, laid := [("marline/enc.sorts", laid_marline_enc_sorts)], narrowed := true }
def EncFarUptoSaid : Prop := encFarUptoRow.holds Tryd.pinned (OpenSpec.upto encFarSpec)

/-- 'marlinelaw01.EncCuts', WHERE WHAT IT READS IS OF BULK AT MOST 1048576: true; the input reads as it did. -/
def encCutsUptoRow : OpenClaim := { program := "ythnekmfcbbohkaadoor", sum := "a5fd52b0872d956e479701ae9b581a9cbf7bcd4ca21040be7546ab129dc4bedd", func := "marline/marlinelaw01.EncCuts", spec := "encCuts", named := ["marline/enc.sorts"], apart := false, laid := [("marline/enc.sorts", laid_marline_enc_sorts)], narrowed := true }
def EncCutsUptoSaid : Prop := encCutsUptoRow.holds Tryd.pinned (OpenSpec.upto encCutsSpec)

/-- 'marlinelaw01.EncBytes', WHERE WHAT IT READS IS OF BULK AT MOST 1048576: true; the input reads as it did. -/
def encBytesUptoRow : OpenClaim := { program := "ythnekmfcbbohkaadoor", sum := "a5fd52b0872d956e479701ae9b581a9cbf7bcd4ca21040be7546ab129dc4bedd", func := "marline/marlinelaw01.EncBytes", spec := "encBytes", inPlace := ["internal/abi.NoEscape"], named := ["marline/enc.sorts"], apart := false, laid := [("marline/enc.sorts", laid_marline_enc_sorts)], narrowed := true }
def EncBytesUptoSaid : Prop := encBytesUptoRow.holds Tryd.pinned (OpenSpec.upto encBytesSpec)

/-- 'marlinelaw01.EncRows', WHERE WHAT IT READS IS OF BULK AT MOST 1048576: true; the input reads as it did. -/
def encRowsUptoRow : OpenClaim := { program := "ythnekmfcbbohkaadoor", sum := "a5fd52b0872d956e479701ae9b581a9cbf7bcd4ca21040be7546ab129dc4bedd", func := "marline/marlinelaw01.EncRows", spec := "encRows", inPlace := ["internal/abi.NoEscape"], named := ["marline/enc.sorts"], apart := false, laid := [("marline/enc.sorts", laid_marline_enc_sorts)], narrowed := true }
def EncRowsUptoSaid : Prop := encRowsUptoRow.holds Tryd.pinned (OpenSpec.upto encRowsSpec)

end Rows
end Go.Proofs.YthnekmfcbbohkaaDoor
