/-
  NARROWER THAN 'FOR EVERY INPUT', by the rows' own cells (each row's printed sentence says how): RvDoes: laid · RvSteps: laid · RvRuns: laid · RvStays: laid · RvZero: laid · RvPages: laid · RvTraps: laid · RvParts: laid · RvReckons: laid · RvBranches: laid · PlaceMay: laid · PlaceHolds: laid.
  DERIVED. THE GIVEN ROWS OF THIS SEAT. 12 by the template 'for every input the law returns true; each argument reads behind the call as it read before'; 0 by the template 'total and deterministic' (their statements: YtajhehmkdlebbaaDoorTotals.lean).
  GIVEN WITH THE SEED: the statements are not yours to turn. If you find one false, say at which input.
  Laid BY PROGRAM, IN A SANDBOX (cutbox-rows.mjs): the forced cells as the released guide's own fill.sh prints them over the translation 92f17ff4cfa96ad5… (all of the seat's roots in one cut). By AI agents, Wed Nov 11 2026. No macro, syntax, notation, axiom, sorry.
-/
import Derived.Test.YtajhehmkdlebbaaDoorChecked
import GoSem.Claim
import GoSem.ClaimJoined
import GoSem.ClaimMapViews
import Derived.JoinedTies
import Derived.KernelRfl
namespace Go.Proofs.YtajhehmkdlebbaaDoor
/- THE CELL 'sum', in the pinned program and in every row, IS THE sha256 OF THE DUMP (.gsa) THAT YtajhehmkdlebbaaDoorProg.lean LOADS. Nothing in Lean hashes anything: it is a label: what it is worth is what the hold of that sum in a sandbox is worth. -/
noncomputable def Tryd.pinned : Pinned := { name := "ytajhehmkdlebbaadoor", sum := "92f17ff4cfa96ad54b0d33e8dd5f2a6e2d167e8f2608332c2967bcec2d5244da", checked := Tryd.checked }
namespace Rows
def none {H : Type} : Left H := { results := [], args := [] }

/- WHAT THE LISTED PACKAGE-LEVEL VARIABLES READ AS WHEN THE CALL BEGINS. Each datum BY PROGRAM (the guide's laid-datum.mjs) off the statement by which the dump's own 'gosem.cut.vars' lays the variable. In a bare row this is a premise. The card (YtajhehmkdlebbaaDoorCards.lean) ties it to the program's text. -/
def laid_marline_enc_sorts {H : Type} : DataW H := .agg [.agg [.lit (.int .u8 0), .lit (.int .u32 0), .lit (.int .u32 0), .lit (.int .u32 0)], .agg [.lit (.int .u8 82), .lit (.int .u32 51), .lit (.int .u32 0), .lit (.int .u32 0)], .agg [.lit (.int .u8 82), .lit (.int .u32 51), .lit (.int .u32 0), .lit (.int .u32 32)], .agg [.lit (.int .u8 82), .lit (.int .u32 51), .lit (.int .u32 1), .lit (.int .u32 0)], .agg [.lit (.int .u8 82), .lit (.int .u32 51), .lit (.int .u32 3), .lit (.int .u32 0)], .agg [.lit (.int .u8 82), .lit (.int .u32 51), .lit (.int .u32 4), .lit (.int .u32 0)], .agg [.lit (.int .u8 82), .lit (.int .u32 51), .lit (.int .u32 5), .lit (.int .u32 0)], .agg [.lit (.int .u8 82), .lit (.int .u32 51), .lit (.int .u32 6), .lit (.int .u32 0)], .agg [.lit (.int .u8 82), .lit (.int .u32 51), .lit (.int .u32 7), .lit (.int .u32 0)], .agg [.lit (.int .u8 82), .lit (.int .u32 51), .lit (.int .u32 0), .lit (.int .u32 1)], .agg [.lit (.int .u8 82), .lit (.int .u32 51), .lit (.int .u32 5), .lit (.int .u32 1)], .agg [.lit (.int .u8 82), .lit (.int .u32 51), .lit (.int .u32 7), .lit (.int .u32 1)], .agg [.lit (.int .u8 73), .lit (.int .u32 19), .lit (.int .u32 0), .lit (.int .u32 0)], .agg [.lit (.int .u8 73), .lit (.int .u32 19), .lit (.int .u32 3), .lit (.int .u32 0)], .agg [.lit (.int .u8 73), .lit (.int .u32 19), .lit (.int .u32 4), .lit (.int .u32 0)], .agg [.lit (.int .u8 73), .lit (.int .u32 19), .lit (.int .u32 6), .lit (.int .u32 0)], .agg [.lit (.int .u8 73), .lit (.int .u32 19), .lit (.int .u32 7), .lit (.int .u32 0)], .agg [.lit (.int .u8 72), .lit (.int .u32 19), .lit (.int .u32 1), .lit (.int .u32 0)], .agg [.lit (.int .u8 72), .lit (.int .u32 19), .lit (.int .u32 5), .lit (.int .u32 0)], .agg [.lit (.int .u8 73), .lit (.int .u32 3), .lit (.int .u32 3), .lit (.int .u32 0)], .agg [.lit (.int .u8 73), .lit (.int .u32 3), .lit (.int .u32 4), .lit (.int .u32 0)], .agg [.lit (.int .u8 83), .lit (.int .u32 35), .lit (.int .u32 3), .lit (.int .u32 0)], .agg [.lit (.int .u8 83), .lit (.int .u32 35), .lit (.int .u32 0), .lit (.int .u32 0)], .agg [.lit (.int .u8 66), .lit (.int .u32 99), .lit (.int .u32 0), .lit (.int .u32 0)], .agg [.lit (.int .u8 66), .lit (.int .u32 99), .lit (.int .u32 1), .lit (.int .u32 0)], .agg [.lit (.int .u8 66), .lit (.int .u32 99), .lit (.int .u32 6), .lit (.int .u32 0)], .agg [.lit (.int .u8 66), .lit (.int .u32 99), .lit (.int .u32 7), .lit (.int .u32 0)], .agg [.lit (.int .u8 85), .lit (.int .u32 55), .lit (.int .u32 0), .lit (.int .u32 0)], .agg [.lit (.int .u8 85), .lit (.int .u32 23), .lit (.int .u32 0), .lit (.int .u32 0)], .agg [.lit (.int .u8 74), .lit (.int .u32 111), .lit (.int .u32 0), .lit (.int .u32 0)], .agg [.lit (.int .u8 73), .lit (.int .u32 103), .lit (.int .u32 0), .lit (.int .u32 0)], .agg [.lit (.int .u8 69), .lit (.int .u32 115), .lit (.int .u32 0), .lit (.int .u32 0)]]

/-- 'marlinelaw03.RvDoes': WHATEVER THE INPUT: true; the input reads as it did. -/
def rvDoesSpec : ChangeSpec := { name := "rvDoes", fn := fun _ => fun
  | [d] => { results := [.lit (.bool true)], args := [d] }
  | _ => none }
def rvDoesRow : OpenClaim := { program := "ytajhehmkdlebbaadoor", sum := "92f17ff4cfa96ad54b0d33e8dd5f2a6e2d167e8f2608332c2967bcec2d5244da", func := "marline/marlinelaw03.RvDoes", spec := "rvDoes", unfollowed := true, recurses := true, named := ["marline/enc.sorts"], plainKeys := false, apart := false, laid := [("marline/enc.sorts", laid_marline_enc_sorts)] }
def RvDoesSaid : Prop := rvDoesRow.holds Tryd.pinned (OpenSpec.ofChange rvDoesSpec)

/-- ITS FALSE NEIGHBOUR: 'it returns false'. Refute it at one input. -/
def rvDoesWrong : ChangeSpec := { name := "rvDoes", fn := fun _ => fun
  | [d] => { results := [.lit (.bool false)], args := [d] }
  | _ => none }
def RvDoesWrongFalsely : Prop := rvDoesRow.holds Tryd.pinned (OpenSpec.ofChange rvDoesWrong)

/-- 'marlinelaw03.RvSteps': WHATEVER THE INPUT: true; the input reads as it did. -/
def rvStepsSpec : ChangeSpec := { name := "rvSteps", fn := fun _ => fun
  | [d] => { results := [.lit (.bool true)], args := [d] }
  | _ => none }
def rvStepsRow : OpenClaim := { program := "ytajhehmkdlebbaadoor", sum := "92f17ff4cfa96ad54b0d33e8dd5f2a6e2d167e8f2608332c2967bcec2d5244da", func := "marline/marlinelaw03.RvSteps", spec := "rvSteps", unfollowed := true, recurses := true, named := ["marline/enc.sorts"], plainKeys := false, apart := false, laid := [("marline/enc.sorts", laid_marline_enc_sorts)] }
def RvStepsSaid : Prop := rvStepsRow.holds Tryd.pinned (OpenSpec.ofChange rvStepsSpec)

/-- ITS FALSE NEIGHBOUR: 'it returns false'. Refute it at one input. -/
def rvStepsWrong : ChangeSpec := { name := "rvSteps", fn := fun _ => fun
  | [d] => { results := [.lit (.bool false)], args := [d] }
  | _ => none }
def RvStepsWrongFalsely : Prop := rvStepsRow.holds Tryd.pinned (OpenSpec.ofChange rvStepsWrong)

/-- 'marlinelaw03.RvRuns': WHATEVER THE INPUT: true; the input reads as it did. -/
def rvRunsSpec : ChangeSpec := { name := "rvRuns", fn := fun _ => fun
  | [d1, d2] => { results := [.lit (.bool true)], args := [d1, d2] }
  | _ => none }
def rvRunsRow : OpenClaim := { program := "ytajhehmkdlebbaadoor", sum := "92f17ff4cfa96ad54b0d33e8dd5f2a6e2d167e8f2608332c2967bcec2d5244da", func := "marline/marlinelaw03.RvRuns", spec := "rvRuns", unfollowed := true, recurses := true, named := ["marline/enc.sorts"], plainKeys := false, apart := false, laid := [("marline/enc.sorts", laid_marline_enc_sorts)] }
def RvRunsSaid : Prop := rvRunsRow.holds Tryd.pinned (OpenSpec.ofChange rvRunsSpec)

/-- ITS FALSE NEIGHBOUR: 'it returns false'. Refute it at one input. -/
def rvRunsWrong : ChangeSpec := { name := "rvRuns", fn := fun _ => fun
  | [d1, d2] => { results := [.lit (.bool false)], args := [d1, d2] }
  | _ => none }
def RvRunsWrongFalsely : Prop := rvRunsRow.holds Tryd.pinned (OpenSpec.ofChange rvRunsWrong)

/-- 'marlinelaw03.RvStays': WHATEVER THE INPUT: true; the input reads as it did. -/
def rvStaysSpec : ChangeSpec := { name := "rvStays", fn := fun _ => fun
  | [d] => { results := [.lit (.bool true)], args := [d] }
  | _ => none }
def rvStaysRow : OpenClaim := { program := "ytajhehmkdlebbaadoor", sum := "92f17ff4cfa96ad54b0d33e8dd5f2a6e2d167e8f2608332c2967bcec2d5244da", func := "marline/marlinelaw03.RvStays", spec := "rvStays", unfollowed := true, recurses := true, named := ["marline/enc.sorts"], plainKeys := false, apart := false, laid := [("marline/enc.sorts", laid_marline_enc_sorts)] }
def RvStaysSaid : Prop := rvStaysRow.holds Tryd.pinned (OpenSpec.ofChange rvStaysSpec)

/-- ITS FALSE NEIGHBOUR: 'it returns false'. Refute it at one input. -/
def rvStaysWrong : ChangeSpec := { name := "rvStays", fn := fun _ => fun
  | [d] => { results := [.lit (.bool false)], args := [d] }
  | _ => none }
def RvStaysWrongFalsely : Prop := rvStaysRow.holds Tryd.pinned (OpenSpec.ofChange rvStaysWrong)

/-- 'marlinelaw03.RvZero': WHATEVER THE INPUT: true; the input reads as it did. -/
def rvZeroSpec : ChangeSpec := { name := "rvZero", fn := fun _ => fun
  | [d] => { results := [.lit (.bool true)], args := [d] }
  | _ => none }
def rvZeroRow : OpenClaim := { program := "ytajhehmkdlebbaadoor", sum := "92f17ff4cfa96ad54b0d33e8dd5f2a6e2d167e8f2608332c2967bcec2d5244da", func := "marline/marlinelaw03.RvZero", spec := "rvZero", unfollowed := true, recurses := true, named := ["marline/enc.sorts"], plainKeys := false, apart := false, laid := [("marline/enc.sorts", laid_marline_enc_sorts)] }
def RvZeroSaid : Prop := rvZeroRow.holds Tryd.pinned (OpenSpec.ofChange rvZeroSpec)

/-- ITS FALSE NEIGHBOUR: 'it returns false'. Refute it at one input. -/
def rvZeroWrong : ChangeSpec := { name := "rvZero", fn := fun _ => fun
  | [d] => { results := [.lit (.bool false)], args := [d] }
  | _ => none }
def RvZeroWrongFalsely : Prop := rvZeroRow.holds Tryd.pinned (OpenSpec.ofChange rvZeroWrong)

/-- 'marlinelaw03.RvPages': WHATEVER THE INPUT: true; the input reads as it did. -/
def rvPagesSpec : ChangeSpec := { name := "rvPages", fn := fun _ => fun
  | [d] => { results := [.lit (.bool true)], args := [d] }
  | _ => none }
def rvPagesRow : OpenClaim := { program := "ytajhehmkdlebbaadoor", sum := "92f17ff4cfa96ad54b0d33e8dd5f2a6e2d167e8f2608332c2967bcec2d5244da", func := "marline/marlinelaw03.RvPages", spec := "rvPages", unfollowed := true, recurses := true, named := ["marline/enc.sorts"], plainKeys := false, apart := false, laid := [("marline/enc.sorts", laid_marline_enc_sorts)] }
def RvPagesSaid : Prop := rvPagesRow.holds Tryd.pinned (OpenSpec.ofChange rvPagesSpec)

/-- ITS FALSE NEIGHBOUR: 'it returns false'. Refute it at one input. -/
def rvPagesWrong : ChangeSpec := { name := "rvPages", fn := fun _ => fun
  | [d] => { results := [.lit (.bool false)], args := [d] }
  | _ => none }
def RvPagesWrongFalsely : Prop := rvPagesRow.holds Tryd.pinned (OpenSpec.ofChange rvPagesWrong)

/-- 'marlinelaw03.RvTraps': WHATEVER THE INPUT: true; the input reads as it did. -/
def rvTrapsSpec : ChangeSpec := { name := "rvTraps", fn := fun _ => fun
  | [d] => { results := [.lit (.bool true)], args := [d] }
  | _ => none }
def rvTrapsRow : OpenClaim := { program := "ytajhehmkdlebbaadoor", sum := "92f17ff4cfa96ad54b0d33e8dd5f2a6e2d167e8f2608332c2967bcec2d5244da", func := "marline/marlinelaw03.RvTraps", spec := "rvTraps", unfollowed := true, recurses := true, named := ["marline/enc.sorts"], plainKeys := false, apart := false, laid := [("marline/enc.sorts", laid_marline_enc_sorts)] }
def RvTrapsSaid : Prop := rvTrapsRow.holds Tryd.pinned (OpenSpec.ofChange rvTrapsSpec)

/-- ITS FALSE NEIGHBOUR: 'it returns false'. Refute it at one input. -/
def rvTrapsWrong : ChangeSpec := { name := "rvTraps", fn := fun _ => fun
  | [d] => { results := [.lit (.bool false)], args := [d] }
  | _ => none }
def RvTrapsWrongFalsely : Prop := rvTrapsRow.holds Tryd.pinned (OpenSpec.ofChange rvTrapsWrong)

/-- 'marlinelaw03.RvParts': WHATEVER THE INPUT: true; the input reads as it did. -/
def rvPartsSpec : ChangeSpec := { name := "rvParts", fn := fun _ => fun
  | [d1, d2, d3] => { results := [.lit (.bool true)], args := [d1, d2, d3] }
  | _ => none }
def rvPartsRow : OpenClaim := { program := "ytajhehmkdlebbaadoor", sum := "92f17ff4cfa96ad54b0d33e8dd5f2a6e2d167e8f2608332c2967bcec2d5244da", func := "marline/marlinelaw03.RvParts", spec := "rvParts", unfollowed := true, recurses := true, named := ["marline/enc.sorts"], plainKeys := false, apart := false, laid := [("marline/enc.sorts", laid_marline_enc_sorts)] }
def RvPartsSaid : Prop := rvPartsRow.holds Tryd.pinned (OpenSpec.ofChange rvPartsSpec)

/-- ITS FALSE NEIGHBOUR: 'it returns false'. Refute it at one input. -/
def rvPartsWrong : ChangeSpec := { name := "rvParts", fn := fun _ => fun
  | [d1, d2, d3] => { results := [.lit (.bool false)], args := [d1, d2, d3] }
  | _ => none }
def RvPartsWrongFalsely : Prop := rvPartsRow.holds Tryd.pinned (OpenSpec.ofChange rvPartsWrong)

/-- 'marlinelaw03.RvReckons': WHATEVER THE INPUT: true; the input reads as it did. -/
def rvReckonsSpec : ChangeSpec := { name := "rvReckons", fn := fun _ => fun
  | [d1, d2] => { results := [.lit (.bool true)], args := [d1, d2] }
  | _ => none }
def rvReckonsRow : OpenClaim := { program := "ytajhehmkdlebbaadoor", sum := "92f17ff4cfa96ad54b0d33e8dd5f2a6e2d167e8f2608332c2967bcec2d5244da", func := "marline/marlinelaw03.RvReckons", spec := "rvReckons", unfollowed := true, recurses := true, named := ["marline/enc.sorts"], plainKeys := false, apart := false, laid := [("marline/enc.sorts", laid_marline_enc_sorts)] }
def RvReckonsSaid : Prop := rvReckonsRow.holds Tryd.pinned (OpenSpec.ofChange rvReckonsSpec)

/-- ITS FALSE NEIGHBOUR: 'it returns false'. Refute it at one input. -/
def rvReckonsWrong : ChangeSpec := { name := "rvReckons", fn := fun _ => fun
  | [d1, d2] => { results := [.lit (.bool false)], args := [d1, d2] }
  | _ => none }
def RvReckonsWrongFalsely : Prop := rvReckonsRow.holds Tryd.pinned (OpenSpec.ofChange rvReckonsWrong)

/-- 'marlinelaw03.RvBranches': WHATEVER THE INPUT: true; the input reads as it did. -/
def rvBranchesSpec : ChangeSpec := { name := "rvBranches", fn := fun _ => fun
  | [d1, d2] => { results := [.lit (.bool true)], args := [d1, d2] }
  | _ => none }
def rvBranchesRow : OpenClaim := { program := "ytajhehmkdlebbaadoor", sum := "92f17ff4cfa96ad54b0d33e8dd5f2a6e2d167e8f2608332c2967bcec2d5244da", func := "marline/marlinelaw03.RvBranches", spec := "rvBranches", unfollowed := true, recurses := true, named := ["marline/enc.sorts"], plainKeys := false, apart := false, laid := [("marline/enc.sorts", laid_marline_enc_sorts)] }
def RvBranchesSaid : Prop := rvBranchesRow.holds Tryd.pinned (OpenSpec.ofChange rvBranchesSpec)

/-- ITS FALSE NEIGHBOUR: 'it returns false'. Refute it at one input. -/
def rvBranchesWrong : ChangeSpec := { name := "rvBranches", fn := fun _ => fun
  | [d1, d2] => { results := [.lit (.bool false)], args := [d1, d2] }
  | _ => none }
def RvBranchesWrongFalsely : Prop := rvBranchesRow.holds Tryd.pinned (OpenSpec.ofChange rvBranchesWrong)

/-- 'marlinelaw18.PlaceMay': WHATEVER THE INPUT: true; the input reads as it did. -/
def placeMaySpec : ChangeSpec := { name := "placeMay", fn := fun _ => fun
  | [d1, d2] => { results := [.lit (.bool true)], args := [d1, d2] }
  | _ => none }
def placeMayRow : OpenClaim := { program := "ytajhehmkdlebbaadoor", sum := "92f17ff4cfa96ad54b0d33e8dd5f2a6e2d167e8f2608332c2967bcec2d5244da", func := "marline/marlinelaw18.PlaceMay", spec := "placeMay", inPlace := ["internal/abi.NoEscape"], unfollowed := true, recurses := true, named := ["marline/enc.sorts"], plainKeys := false, apart := false, laid := [("marline/enc.sorts", laid_marline_enc_sorts)] }
def PlaceMaySaid : Prop := placeMayRow.holds Tryd.pinned (OpenSpec.ofChange placeMaySpec)

/-- ITS FALSE NEIGHBOUR: 'it returns false'. Refute it at one input. -/
def placeMayWrong : ChangeSpec := { name := "placeMay", fn := fun _ => fun
  | [d1, d2] => { results := [.lit (.bool false)], args := [d1, d2] }
  | _ => none }
def PlaceMayWrongFalsely : Prop := placeMayRow.holds Tryd.pinned (OpenSpec.ofChange placeMayWrong)

/-- 'marlinelaw18.PlaceHolds': WHATEVER THE INPUT: true; the input reads as it did. -/
def placeHoldsSpec : ChangeSpec := { name := "placeHolds", fn := fun _ => fun
  | [d1, d2, d3] => { results := [.lit (.bool true)], args := [d1, d2, d3] }
  | _ => none }
def placeHoldsRow : OpenClaim := { program := "ytajhehmkdlebbaadoor", sum := "92f17ff4cfa96ad54b0d33e8dd5f2a6e2d167e8f2608332c2967bcec2d5244da", func := "marline/marlinelaw18.PlaceHolds", spec := "placeHolds", inPlace := ["internal/abi.NoEscape"], unfollowed := true, recurses := true, named := ["marline/enc.sorts"], plainKeys := false, apart := false, laid := [("marline/enc.sorts", laid_marline_enc_sorts)] }
def PlaceHoldsSaid : Prop := placeHoldsRow.holds Tryd.pinned (OpenSpec.ofChange placeHoldsSpec)

/-- ITS FALSE NEIGHBOUR: 'it returns false'. Refute it at one input. -/
def placeHoldsWrong : ChangeSpec := { name := "placeHolds", fn := fun _ => fun
  | [d1, d2, d3] => { results := [.lit (.bool false)], args := [d1, d2, d3] }
  | _ => none }
def PlaceHoldsWrongFalsely : Prop := placeHoldsRow.holds Tryd.pinned (OpenSpec.ofChange placeHoldsWrong)

/- THE SECOND FORM. 'bulk': how many values and letters a reading holds, each counted each time it is reached (what is shared counts as often as it is met; a slice's spare places count too). A statement '..UptoSaid' is the law's where the arguments, and the package variables that the reading takes, are together of bulk at most 1048576: NARROWER than '..Said'. Prove '..Said' where nothing that the law and all that it calls make is longer than what came in: it says more and counts as full. Else prove '..UptoSaid'. A law counts once. -/
mutual
def uptoBulk {H : Type} : DataW H → Nat
  | .lit (.string bytes) => bytes.length + 1
  | .lit _ => 1
  | .nil => 1
  | .ptr d => uptoBulk d + 1
  | .slice elems spare => uptoBulkAll elems + uptoBulkAll spare + 1
  | .agg parts => uptoBulkAll parts + 1
  | .iface _ d => uptoBulk d + 1
  | .map entries => uptoBulkEntries entries + 1
  | .held _ => 1
def uptoBulkAll {H : Type} : List (DataW H) → Nat
  | [] => 0
  | d :: r => uptoBulk d + uptoBulkAll r
def uptoBulkEntries {H : Type} : List (Lit × DataW H) → Nat
  | [] => 0
  | x :: r => uptoBulkEntry x + uptoBulkEntries r
def uptoBulkEntry {H : Type} : Lit × DataW H → Nat
  | (.string bytes, d) => bytes.length + uptoBulk d + 1
  | (_, d) => uptoBulk d + 1
 end
def uptoSmall : (H : Type) → List (DataW H) → Bool := fun _ ds => decide (uptoBulkAll ds ≤ 1048576)
def OpenSpec.upto (s : _root_.Go.ChangeSpec) : _root_.Go.OpenSpec := { _root_.Go.OpenSpec.ofChange s with cond := some uptoSmall }

/-- 'marlinelaw03.RvDoes', WHERE WHAT IT READS IS OF BULK AT MOST 1048576: true; the input reads as it did. -/
def rvDoesUptoRow : OpenClaim := { program := "ytajhehmkdlebbaadoor", sum := "92f17ff4cfa96ad54b0d33e8dd5f2a6e2d167e8f2608332c2967bcec2d5244da", func := "marline/marlinelaw03.RvDoes", spec := "rvDoes", unfollowed := true, recurses := true, named := ["marline/enc.sorts"], plainKeys := false, apart := false, laid := [("marline/enc.sorts", laid_marline_enc_sorts)], narrowed := true }
def RvDoesUptoSaid : Prop := rvDoesUptoRow.holds Tryd.pinned (OpenSpec.upto rvDoesSpec)

/-- 'marlinelaw03.RvSteps', WHERE WHAT IT READS IS OF BULK AT MOST 1048576: true; the input reads as it did. -/
def rvStepsUptoRow : OpenClaim := { program := "ytajhehmkdlebbaadoor", sum := "92f17ff4cfa96ad54b0d33e8dd5f2a6e2d167e8f2608332c2967bcec2d5244da", func := "marline/marlinelaw03.RvSteps", spec := "rvSteps", unfollowed := true, recurses := true, named := ["marline/enc.sorts"], plainKeys := false, apart := false, laid := [("marline/enc.sorts", laid_marline_enc_sorts)], narrowed := true }
def RvStepsUptoSaid : Prop := rvStepsUptoRow.holds Tryd.pinned (OpenSpec.upto rvStepsSpec)

/-- 'marlinelaw03.RvRuns', WHERE WHAT IT READS IS OF BULK AT MOST 1048576: true; the input reads as it did. -/
def rvRunsUptoRow : OpenClaim := { program := "ytajhehmkdlebbaadoor", sum := "92f17ff4cfa96ad54b0d33e8dd5f2a6e2d167e8f2608332c2967bcec2d5244da", func := "marline/marlinelaw03.RvRuns", spec := "rvRuns", unfollowed := true, recurses := true, named := ["marline/enc.sorts"], plainKeys := false, apart := false, laid := [("marline/enc.sorts", laid_marline_enc_sorts)], narrowed := true }
def RvRunsUptoSaid : Prop := rvRunsUptoRow.holds Tryd.pinned (OpenSpec.upto rvRunsSpec)

/-- 'marlinelaw03.RvStays', WHERE WHAT IT READS IS OF BULK AT MOST 1048576: true; the input reads as it did. -/
def rvStaysUptoRow : OpenClaim := { program := "ytajhehmkdlebbaadoor", sum := "92f17ff4cfa96ad54b0d33e8dd5f2a6e2d167e8f2608332c2967bcec2d5244da", func := "marline/marlinelaw03.RvStays", spec := "rvStays", unfollowed := true, recurses := true, named := ["marline/enc.sorts"], plainKeys := false, apart := false, laid := [("marline/enc.sorts", laid_marline_enc_sorts)], narrowed := true }
def RvStaysUptoSaid : Prop := rvStaysUptoRow.holds Tryd.pinned (OpenSpec.upto rvStaysSpec)

/-- 'marlinelaw03.RvZero', WHERE WHAT IT READS IS OF BULK AT MOST 1048576: true; the input reads as it did. -/
def rvZeroUptoRow : OpenClaim := { program := "ytajhehmkdlebbaadoor", sum := "92f17ff4cfa96ad54b0d33e8dd5f2a6e2d167e8f2608332c2967bcec2d5244da", func := "marline/marlinelaw03.RvZero", spec := "rvZero", unfollowed := true, recurses := true, named := ["marline/enc.sorts"], plainKeys := false, apart := false, laid := [("marline/enc.sorts", laid_marline_enc_sorts)], narrowed := true }
def RvZeroUptoSaid : Prop := rvZeroUptoRow.holds Tryd.pinned (OpenSpec.upto rvZeroSpec)

/-- 'marlinelaw03.RvPages', WHERE WHAT IT READS IS OF BULK AT MOST 1048576: true; the input reads as it did. -/
def rvPagesUptoRow : OpenClaim := { program := "ytajhehmkdlebbaadoor", sum := "92f17ff4cfa96ad54b0d33e8dd5f2a6e2d167e8f2608332c2967bcec2d5244da", func := "marline/marlinelaw03.RvPages", spec := "rvPages", unfollowed := true, recurses := true, named := ["marline/enc.sorts"], plainKeys := false, apart := false, laid := [("marline/enc.sorts", laid_marline_enc_sorts)], narrowed := true }
def RvPagesUptoSaid : Prop := rvPagesUptoRow.holds Tryd.pinned (OpenSpec.upto rvPagesSpec)

/-- 'marlinelaw03.RvTraps', WHERE WHAT IT READS IS OF BULK AT MOST 1048576: true; the input reads as it did. -/
def rvTrapsUptoRow : OpenClaim := { program := "ytajhehmkdlebbaadoor", sum := "92f17ff4cfa96ad54b0d33e8dd5f2a6e2d167e8f2608332c2967bcec2d5244da", func := "marline/marlinelaw03.RvTraps", spec := "rvTraps", unfollowed := true, recurses := true, named := ["marline/enc.sorts"], plainKeys := false, apart := false, laid := [("marline/enc.sorts", laid_marline_enc_sorts)], narrowed := true }
def RvTrapsUptoSaid : Prop := rvTrapsUptoRow.holds Tryd.pinned (OpenSpec.upto rvTrapsSpec)

/-- 'marlinelaw03.RvParts', WHERE WHAT IT READS IS OF BULK AT MOST 1048576: true; the input reads as it did. -/
def rvPartsUptoRow : OpenClaim := { program := "ytajhehmkdlebbaadoor", sum := "92f17ff4cfa96ad54b0d33e8dd5f2a6e2d167e8f2608332c2967bcec2d5244da", func := "marline/marlinelaw03.RvParts", spec := "rvParts", unfollowed := true, recurses := true, named := ["marline/enc.sorts"], plainKeys := false, apart := false, laid := [("marline/enc.sorts", laid_marline_enc_sorts)], narrowed := true }
def RvPartsUptoSaid : Prop := rvPartsUptoRow.holds Tryd.pinned (OpenSpec.upto rvPartsSpec)

/-- 'marlinelaw03.RvReckons', WHERE WHAT IT READS IS OF BULK AT MOST 1048576: true; the input reads as it did. -/
def rvReckonsUptoRow : OpenClaim := { program := "ytajhehmkdlebbaadoor", sum := "92f17ff4cfa96ad54b0d33e8dd5f2a6e2d167e8f2608332c2967bcec2d5244da", func := "marline/marlinelaw03.RvReckons", spec := "rvReckons", unfollowed := true, recurses := true, named := ["marline/enc.sorts"], plainKeys := false, apart := false, laid := [("marline/enc.sorts", laid_marline_enc_sorts)], narrowed := true }
def RvReckonsUptoSaid : Prop := rvReckonsUptoRow.holds Tryd.pinned (OpenSpec.upto rvReckonsSpec)

/-- 'marlinelaw03.RvBranches', WHERE WHAT IT READS IS OF BULK AT MOST 1048576: true; the input reads as it did. -/
def rvBranchesUptoRow : OpenClaim := { program := "ytajhehmkdlebbaadoor", sum := "92f17ff4cfa96ad54b0d33e8dd5f2a6e2d167e8f2608332c2967bcec2d5244da", func := "marline/marlinelaw03.RvBranches", spec := "rvBranches", unfollowed := true, recurses := true, named := ["marline/enc.sorts"], plainKeys := false, apart := false, laid := [("marline/enc.sorts", laid_marline_enc_sorts)], narrowed := true }
def RvBranchesUptoSaid : Prop := rvBranchesUptoRow.holds Tryd.pinned (OpenSpec.upto rvBranchesSpec)

/-- 'marlinelaw18.PlaceMay', WHERE WHAT IT READS IS OF BULK AT MOST 1048576: true; the input reads as it did. -/
def placeMayUptoRow : OpenClaim := { program := "ytajhehmkdlebbaadoor", sum := "92f17ff4cfa96ad54b0d33e8dd5f2a6e2d167e8f2608332c2967bcec2d5244da", func := "marline/marlinelaw18.PlaceMay", spec := "placeMay", inPlace := ["internal/abi.NoEscape"], unfollowed := true, recurses := true, named := ["marline/enc.sorts"], plainKeys := false, apart := false, laid := [("marline/enc.sorts", laid_marline_enc_sorts)], narrowed := true }
def PlaceMayUptoSaid : Prop := placeMayUptoRow.holds Tryd.pinned (OpenSpec.upto placeMaySpec)

/-- 'marlinelaw18.PlaceHolds', WHERE WHAT IT READS IS OF BULK AT MOST 1048576: true; the input reads as it did. -/
def placeHoldsUptoRow : OpenClaim := { program := "ytajhehmkdlebbaadoor", sum := "92f17ff4cfa96ad54b0d33e8dd5f2a6e2d167e8f2608332c2967bcec2d5244da", func := "marline/marlinelaw18.PlaceHolds", spec := "placeHolds", inPlace := ["internal/abi.NoEscape"], unfollowed := true, recurses := true, named := ["marline/enc.sorts"], plainKeys := false, apart := false, laid := [("marline/enc.sorts", laid_marline_enc_sorts)], narrowed := true }
def PlaceHoldsUptoSaid : Prop := placeHoldsUptoRow.holds Tryd.pinned (OpenSpec.upto placeHoldsSpec)

end Rows
end Go.Proofs.YtajhehmkdlebbaaDoor
