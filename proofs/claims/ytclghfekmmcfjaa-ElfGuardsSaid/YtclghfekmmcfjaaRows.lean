/-
  No cell of these rows narrows 'for every input' (looked for: loops, veiled, ifaces, maps, wideKeys, modest, calm, conditions, laid).
  DERIVED. THE GIVEN ROWS OF THIS SEAT. 14 by the template 'for every input the law returns true; each argument reads behind the call as it read before'; 0 by the template 'total and deterministic' (their statements: YtclghfekmmcfjaaTotals.lean).
  GIVEN WITH THE SEED: the statements are not yours to turn. If you find one false, say at which input.
  Laid BY PROGRAM, IN A SANDBOX (cutbox-rows.mjs): the forced cells as the released guide's own fill.sh prints them over the translation 4064200b3c9926d1… (all of the seat's roots in one cut). By AI agents, Wed Nov 11 2026. No macro, syntax, notation, axiom, sorry.
-/
import Derived.Test.YtclghfekmmcfjaaChecked
import GoSem.Claim
import GoSem.ClaimJoined
import GoSem.ClaimMapViews
import Derived.JoinedTies
import Derived.KernelRfl
namespace Go.Proofs.Ytclghfekmmcfjaa
/- THE CELL 'sum', in the pinned program and in every row, IS THE sha256 OF THE DUMP (.gsa) THAT YtclghfekmmcfjaaProg.lean LOADS. Nothing in Lean hashes anything: it is a label: what it is worth is what the hold of that sum in a sandbox is worth. -/
noncomputable def Try.pinned : Pinned := { name := "ytclghfekmmcfjaa", sum := "4064200b3c9926d1bddc15e2a3b86c34750d68fbe410f194531ae869cb624894", checked := Try.checked }
namespace Rows
def none {H : Type} : Left H := { results := [], args := [] }

/-- 'marlinelaw04.ElfPlaces': WHATEVER THE INPUT: true; the input reads as it did. -/
def elfPlacesSpec : ChangeSpec := { name := "elfPlaces", fn := fun _ => fun
  | [d] => { results := [.lit (.bool true)], args := [d] }
  | _ => none }
def elfPlacesRow : OpenClaim := { program := "ytclghfekmmcfjaa", sum := "4064200b3c9926d1bddc15e2a3b86c34750d68fbe410f194531ae869cb624894", func := "marline/marlinelaw04.ElfPlaces", spec := "elfPlaces", inPlace := ["internal/abi.NoEscape"], unfollowed := true, recurses := true, plainKeys := false, apart := false }
def ElfPlacesSaid : Prop := elfPlacesRow.holds Try.pinned (OpenSpec.ofChange elfPlacesSpec)

/-- ITS FALSE NEIGHBOUR: 'it returns false'. Refute it at one input. -/
def elfPlacesWrong : ChangeSpec := { name := "elfPlaces", fn := fun _ => fun
  | [d] => { results := [.lit (.bool false)], args := [d] }
  | _ => none }
def ElfPlacesWrongFalsely : Prop := elfPlacesRow.holds Try.pinned (OpenSpec.ofChange elfPlacesWrong)

/-- 'marlinelaw04.ElfApart': WHATEVER THE INPUT: true; the input reads as it did. -/
def elfApartSpec : ChangeSpec := { name := "elfApart", fn := fun _ => fun
  | [d1, d2] => { results := [.lit (.bool true)], args := [d1, d2] }
  | _ => none }
def elfApartRow : OpenClaim := { program := "ytclghfekmmcfjaa", sum := "4064200b3c9926d1bddc15e2a3b86c34750d68fbe410f194531ae869cb624894", func := "marline/marlinelaw04.ElfApart", spec := "elfApart", inPlace := ["internal/abi.NoEscape"], unfollowed := true, recurses := true, plainKeys := false, apart := false }
def ElfApartSaid : Prop := elfApartRow.holds Try.pinned (OpenSpec.ofChange elfApartSpec)

/-- ITS FALSE NEIGHBOUR: 'it returns false'. Refute it at one input. -/
def elfApartWrong : ChangeSpec := { name := "elfApart", fn := fun _ => fun
  | [d1, d2] => { results := [.lit (.bool false)], args := [d1, d2] }
  | _ => none }
def ElfApartWrongFalsely : Prop := elfApartRow.holds Try.pinned (OpenSpec.ofChange elfApartWrong)

/-- 'marlinelaw04.ElfBack': WHATEVER THE INPUT: true; the input reads as it did. -/
def elfBackSpec : ChangeSpec := { name := "elfBack", fn := fun _ => fun
  | [d] => { results := [.lit (.bool true)], args := [d] }
  | _ => none }
def elfBackRow : OpenClaim := { program := "ytclghfekmmcfjaa", sum := "4064200b3c9926d1bddc15e2a3b86c34750d68fbe410f194531ae869cb624894", func := "marline/marlinelaw04.ElfBack", spec := "elfBack", inPlace := ["internal/abi.NoEscape"], unfollowed := true, recurses := true, plainKeys := false, apart := false }
def ElfBackSaid : Prop := elfBackRow.holds Try.pinned (OpenSpec.ofChange elfBackSpec)

/-- ITS FALSE NEIGHBOUR: 'it returns false'. Refute it at one input. -/
def elfBackWrong : ChangeSpec := { name := "elfBack", fn := fun _ => fun
  | [d] => { results := [.lit (.bool false)], args := [d] }
  | _ => none }
def ElfBackWrongFalsely : Prop := elfBackRow.holds Try.pinned (OpenSpec.ofChange elfBackWrong)

/-- 'marlinelaw04.ElfLoads': WHATEVER THE INPUT: true; the input reads as it did. -/
def elfLoadsSpec : ChangeSpec := { name := "elfLoads", fn := fun _ => fun
  | [d1, d2] => { results := [.lit (.bool true)], args := [d1, d2] }
  | _ => none }
def elfLoadsRow : OpenClaim := { program := "ytclghfekmmcfjaa", sum := "4064200b3c9926d1bddc15e2a3b86c34750d68fbe410f194531ae869cb624894", func := "marline/marlinelaw04.ElfLoads", spec := "elfLoads", inPlace := ["internal/abi.NoEscape", "internal/bytealg.MakeNoZero"], unfollowed := true, recurses := true, plainKeys := false, apart := false }
def ElfLoadsSaid : Prop := elfLoadsRow.holds Try.pinned (OpenSpec.ofChange elfLoadsSpec)

/-- ITS FALSE NEIGHBOUR: 'it returns false'. Refute it at one input. -/
def elfLoadsWrong : ChangeSpec := { name := "elfLoads", fn := fun _ => fun
  | [d1, d2] => { results := [.lit (.bool false)], args := [d1, d2] }
  | _ => none }
def ElfLoadsWrongFalsely : Prop := elfLoadsRow.holds Try.pinned (OpenSpec.ofChange elfLoadsWrong)

/-- 'marlinelaw04.ElfGuards': WHATEVER THE INPUT: true; the input reads as it did. -/
def elfGuardsSpec : ChangeSpec := { name := "elfGuards", fn := fun _ => fun
  | [d1, d2] => { results := [.lit (.bool true)], args := [d1, d2] }
  | _ => none }
def elfGuardsRow : OpenClaim := { program := "ytclghfekmmcfjaa", sum := "4064200b3c9926d1bddc15e2a3b86c34750d68fbe410f194531ae869cb624894", func := "marline/marlinelaw04.ElfGuards", spec := "elfGuards", inPlace := ["internal/abi.NoEscape", "internal/bytealg.MakeNoZero"], unfollowed := true, recurses := true, plainKeys := false, apart := false }
def ElfGuardsSaid : Prop := elfGuardsRow.holds Try.pinned (OpenSpec.ofChange elfGuardsSpec)

/-- ITS FALSE NEIGHBOUR: 'it returns false'. Refute it at one input. -/
def elfGuardsWrong : ChangeSpec := { name := "elfGuards", fn := fun _ => fun
  | [d1, d2] => { results := [.lit (.bool false)], args := [d1, d2] }
  | _ => none }
def ElfGuardsWrongFalsely : Prop := elfGuardsRow.holds Try.pinned (OpenSpec.ofChange elfGuardsWrong)

/-- 'marlinelaw04.ElfBytes': WHATEVER THE INPUT: true; the input reads as it did. -/
def elfBytesSpec : ChangeSpec := { name := "elfBytes", fn := fun _ => fun
  | [d1, d2, d3] => { results := [.lit (.bool true)], args := [d1, d2, d3] }
  | _ => none }
def elfBytesRow : OpenClaim := { program := "ytclghfekmmcfjaa", sum := "4064200b3c9926d1bddc15e2a3b86c34750d68fbe410f194531ae869cb624894", func := "marline/marlinelaw04.ElfBytes", spec := "elfBytes", inPlace := ["internal/abi.NoEscape", "internal/bytealg.MakeNoZero"], unfollowed := true, recurses := true, plainKeys := false, apart := false }
def ElfBytesSaid : Prop := elfBytesRow.holds Try.pinned (OpenSpec.ofChange elfBytesSpec)

/-- ITS FALSE NEIGHBOUR: 'it returns false'. Refute it at one input. -/
def elfBytesWrong : ChangeSpec := { name := "elfBytes", fn := fun _ => fun
  | [d1, d2, d3] => { results := [.lit (.bool false)], args := [d1, d2, d3] }
  | _ => none }
def ElfBytesWrongFalsely : Prop := elfBytesRow.holds Try.pinned (OpenSpec.ofChange elfBytesWrong)

/-- 'marlinelaw02.PageStays': WHATEVER THE INPUT: true; the input reads as it did. -/
def pageStaysSpec : ChangeSpec := { name := "pageStays", fn := fun _ => fun
  | [d] => { results := [.lit (.bool true)], args := [d] }
  | _ => none }
def pageStaysRow : OpenClaim := { program := "ytclghfekmmcfjaa", sum := "4064200b3c9926d1bddc15e2a3b86c34750d68fbe410f194531ae869cb624894", func := "marline/marlinelaw02.PageStays", spec := "pageStays", inPlace := ["internal/abi.NoEscape", "internal/bytealg.MakeNoZero"], unfollowed := true, recurses := true, plainKeys := false, apart := false }
def PageStaysSaid : Prop := pageStaysRow.holds Try.pinned (OpenSpec.ofChange pageStaysSpec)

/-- ITS FALSE NEIGHBOUR: 'it returns false'. Refute it at one input. -/
def pageStaysWrong : ChangeSpec := { name := "pageStays", fn := fun _ => fun
  | [d] => { results := [.lit (.bool false)], args := [d] }
  | _ => none }
def PageStaysWrongFalsely : Prop := pageStaysRow.holds Try.pinned (OpenSpec.ofChange pageStaysWrong)

/-- 'marlinelaw02.PageMaps': WHATEVER THE INPUT: true; the input reads as it did. -/
def pageMapsSpec : ChangeSpec := { name := "pageMaps", fn := fun _ => fun
  | [d] => { results := [.lit (.bool true)], args := [d] }
  | _ => none }
def pageMapsRow : OpenClaim := { program := "ytclghfekmmcfjaa", sum := "4064200b3c9926d1bddc15e2a3b86c34750d68fbe410f194531ae869cb624894", func := "marline/marlinelaw02.PageMaps", spec := "pageMaps", inPlace := ["internal/abi.NoEscape", "internal/bytealg.MakeNoZero"], unfollowed := true, recurses := true, plainKeys := false, apart := false }
def PageMapsSaid : Prop := pageMapsRow.holds Try.pinned (OpenSpec.ofChange pageMapsSpec)

/-- ITS FALSE NEIGHBOUR: 'it returns false'. Refute it at one input. -/
def pageMapsWrong : ChangeSpec := { name := "pageMaps", fn := fun _ => fun
  | [d] => { results := [.lit (.bool false)], args := [d] }
  | _ => none }
def PageMapsWrongFalsely : Prop := pageMapsRow.holds Try.pinned (OpenSpec.ofChange pageMapsWrong)

/-- 'marlinelaw02.PageGuards': WHATEVER THE INPUT: true; the input reads as it did. -/
def pageGuardsSpec : ChangeSpec := { name := "pageGuards", fn := fun _ => fun
  | [d] => { results := [.lit (.bool true)], args := [d] }
  | _ => none }
def pageGuardsRow : OpenClaim := { program := "ytclghfekmmcfjaa", sum := "4064200b3c9926d1bddc15e2a3b86c34750d68fbe410f194531ae869cb624894", func := "marline/marlinelaw02.PageGuards", spec := "pageGuards", inPlace := ["internal/abi.NoEscape", "internal/bytealg.MakeNoZero"], unfollowed := true, recurses := true, plainKeys := false, apart := false }
def PageGuardsSaid : Prop := pageGuardsRow.holds Try.pinned (OpenSpec.ofChange pageGuardsSpec)

/-- ITS FALSE NEIGHBOUR: 'it returns false'. Refute it at one input. -/
def pageGuardsWrong : ChangeSpec := { name := "pageGuards", fn := fun _ => fun
  | [d] => { results := [.lit (.bool false)], args := [d] }
  | _ => none }
def PageGuardsWrongFalsely : Prop := pageGuardsRow.holds Try.pinned (OpenSpec.ofChange pageGuardsWrong)

/-- 'marlinelaw02.PageBytes': WHATEVER THE INPUT: true; the input reads as it did. -/
def pageBytesSpec : ChangeSpec := { name := "pageBytes", fn := fun _ => fun
  | [d] => { results := [.lit (.bool true)], args := [d] }
  | _ => none }
def pageBytesRow : OpenClaim := { program := "ytclghfekmmcfjaa", sum := "4064200b3c9926d1bddc15e2a3b86c34750d68fbe410f194531ae869cb624894", func := "marline/marlinelaw02.PageBytes", spec := "pageBytes", inPlace := ["internal/abi.NoEscape", "internal/bytealg.MakeNoZero"], unfollowed := true, recurses := true, plainKeys := false, apart := false }
def PageBytesSaid : Prop := pageBytesRow.holds Try.pinned (OpenSpec.ofChange pageBytesSpec)

/-- ITS FALSE NEIGHBOUR: 'it returns false'. Refute it at one input. -/
def pageBytesWrong : ChangeSpec := { name := "pageBytes", fn := fun _ => fun
  | [d] => { results := [.lit (.bool false)], args := [d] }
  | _ => none }
def PageBytesWrongFalsely : Prop := pageBytesRow.holds Try.pinned (OpenSpec.ofChange pageBytesWrong)

/-- 'marlinelaw02.PageFills': WHATEVER THE INPUT: true; the input reads as it did. -/
def pageFillsSpec : ChangeSpec := { name := "pageFills", fn := fun _ => fun
  | [d] => { results := [.lit (.bool true)], args := [d] }
  | _ => none }
def pageFillsRow : OpenClaim := { program := "ytclghfekmmcfjaa", sum := "4064200b3c9926d1bddc15e2a3b86c34750d68fbe410f194531ae869cb624894", func := "marline/marlinelaw02.PageFills", spec := "pageFills", inPlace := ["internal/abi.NoEscape", "internal/bytealg.MakeNoZero"], unfollowed := true, recurses := true, plainKeys := false, apart := false }
def PageFillsSaid : Prop := pageFillsRow.holds Try.pinned (OpenSpec.ofChange pageFillsSpec)

/-- ITS FALSE NEIGHBOUR: 'it returns false'. Refute it at one input. -/
def pageFillsWrong : ChangeSpec := { name := "pageFills", fn := fun _ => fun
  | [d] => { results := [.lit (.bool false)], args := [d] }
  | _ => none }
def PageFillsWrongFalsely : Prop := pageFillsRow.holds Try.pinned (OpenSpec.ofChange pageFillsWrong)

/-- 'marlinelaw02.PageUses': WHATEVER THE INPUT: true; the input reads as it did. -/
def pageUsesSpec : ChangeSpec := { name := "pageUses", fn := fun _ => fun
  | [d] => { results := [.lit (.bool true)], args := [d] }
  | _ => none }
def pageUsesRow : OpenClaim := { program := "ytclghfekmmcfjaa", sum := "4064200b3c9926d1bddc15e2a3b86c34750d68fbe410f194531ae869cb624894", func := "marline/marlinelaw02.PageUses", spec := "pageUses", inPlace := ["internal/abi.NoEscape", "internal/bytealg.MakeNoZero"], unfollowed := true, recurses := true, plainKeys := false, apart := false }
def PageUsesSaid : Prop := pageUsesRow.holds Try.pinned (OpenSpec.ofChange pageUsesSpec)

/-- ITS FALSE NEIGHBOUR: 'it returns false'. Refute it at one input. -/
def pageUsesWrong : ChangeSpec := { name := "pageUses", fn := fun _ => fun
  | [d] => { results := [.lit (.bool false)], args := [d] }
  | _ => none }
def PageUsesWrongFalsely : Prop := pageUsesRow.holds Try.pinned (OpenSpec.ofChange pageUsesWrong)

/-- 'marlinelaw02.PageBack': WHATEVER THE INPUT: true; the input reads as it did. -/
def pageBackSpec : ChangeSpec := { name := "pageBack", fn := fun _ => fun
  | [d] => { results := [.lit (.bool true)], args := [d] }
  | _ => none }
def pageBackRow : OpenClaim := { program := "ytclghfekmmcfjaa", sum := "4064200b3c9926d1bddc15e2a3b86c34750d68fbe410f194531ae869cb624894", func := "marline/marlinelaw02.PageBack", spec := "pageBack", inPlace := ["internal/abi.NoEscape", "internal/bytealg.MakeNoZero"], unfollowed := true, recurses := true, plainKeys := false, apart := false }
def PageBackSaid : Prop := pageBackRow.holds Try.pinned (OpenSpec.ofChange pageBackSpec)

/-- ITS FALSE NEIGHBOUR: 'it returns false'. Refute it at one input. -/
def pageBackWrong : ChangeSpec := { name := "pageBack", fn := fun _ => fun
  | [d] => { results := [.lit (.bool false)], args := [d] }
  | _ => none }
def PageBackWrongFalsely : Prop := pageBackRow.holds Try.pinned (OpenSpec.ofChange pageBackWrong)

/-- 'marlinelaw02.PageNew': WHATEVER THE INPUT: true; the input reads as it did. -/
def pageNewSpec : ChangeSpec := { name := "pageNew", fn := fun _ => fun
  | [d] => { results := [.lit (.bool true)], args := [d] }
  | _ => none }
def pageNewRow : OpenClaim := { program := "ytclghfekmmcfjaa", sum := "4064200b3c9926d1bddc15e2a3b86c34750d68fbe410f194531ae869cb624894", func := "marline/marlinelaw02.PageNew", spec := "pageNew", inPlace := ["internal/abi.NoEscape", "internal/bytealg.MakeNoZero"], unfollowed := true, recurses := true, plainKeys := false, apart := false }
def PageNewSaid : Prop := pageNewRow.holds Try.pinned (OpenSpec.ofChange pageNewSpec)

/-- ITS FALSE NEIGHBOUR: 'it returns false'. Refute it at one input. -/
def pageNewWrong : ChangeSpec := { name := "pageNew", fn := fun _ => fun
  | [d] => { results := [.lit (.bool false)], args := [d] }
  | _ => none }
def PageNewWrongFalsely : Prop := pageNewRow.holds Try.pinned (OpenSpec.ofChange pageNewWrong)

/- THE SECOND FORM. 'bulk': how many values and letters a reading holds, each counted each time it is reached (what is shared counts as often as it is met; a slice's spare places count too). A statement '..UptoSaid' is the law's where the arguments, and the package variables that the reading takes, are together of bulk at most 1048576: NARROWER than '..Said'. Prove '..Said' where nothing that the law and all that it calls make is longer than what came in: it says more and counts as full. Else prove '..UptoSaid'. A law counts once. -/
mutual
def uptoBulk {H : Type} : DataW H → Nat
  | .lit (.string bytes) => bytes.length + 1
  | .lit _ => 1
  | .nil => 1
  | .ptr d => uptoBulk d + 1
  | .slice elems spare => uptoBulkAll elems + uptoBulkAll spare + 1
  | .agg parts => uptoBulkAll parts + 1
  | .iface _ d => uptoBulk d + 1
  | .map entries => uptoBulkEntries entries + 1
  | .held _ => 1
def uptoBulkAll {H : Type} : List (DataW H) → Nat
  | [] => 0
  | d :: r => uptoBulk d + uptoBulkAll r
def uptoBulkEntries {H : Type} : List (Lit × DataW H) → Nat
  | [] => 0
  | x :: r => uptoBulkEntry x + uptoBulkEntries r
def uptoBulkEntry {H : Type} : Lit × DataW H → Nat
  | (.string bytes, d) => bytes.length + uptoBulk d + 1
  | (_, d) => uptoBulk d + 1
 end
def uptoSmall : (H : Type) → List (DataW H) → Bool := fun _ ds => decide (uptoBulkAll ds ≤ 1048576)
def OpenSpec.upto (s : _root_.Go.ChangeSpec) : _root_.Go.OpenSpec := { _root_.Go.OpenSpec.ofChange s with cond := some uptoSmall }

/-- 'marlinelaw04.ElfPlaces', WHERE WHAT IT READS IS OF BULK AT MOST 1048576: true; the input reads as it did. -/
def elfPlacesUptoRow : OpenClaim := { program := "ytclghfekmmcfjaa", sum := "4064200b3c9926d1bddc15e2a3b86c34750d68fbe410f194531ae869cb624894", func := "marline/marlinelaw04.ElfPlaces", spec := "elfPlaces", inPlace := ["internal/abi.NoEscape"], unfollowed := true, recurses := true, plainKeys := false, apart := false, narrowed := true }
def ElfPlacesUptoSaid : Prop := elfPlacesUptoRow.holds Try.pinned (OpenSpec.upto elfPlacesSpec)

/-- 'marlinelaw04.ElfApart', WHERE WHAT IT READS IS OF BULK AT MOST 1048576: true; the input reads as it did. -/
def elfApartUptoRow : OpenClaim := { program := "ytclghfekmmcfjaa", sum := "4064200b3c9926d1bddc15e2a3b86c34750d68fbe410f194531ae869cb624894", func := "marline/marlinelaw04.ElfApart", spec := "elfApart", inPlace := ["internal/abi.NoEscape"], unfollowed := true, recurses := true, plainKeys := false, apart := false, narrowed := true }
def ElfApartUptoSaid : Prop := elfApartUptoRow.holds Try.pinned (OpenSpec.upto elfApartSpec)

/-- 'marlinelaw04.ElfBack', WHERE WHAT IT READS IS OF BULK AT MOST 1048576: true; the input reads as it did. -/
def elfBackUptoRow : OpenClaim := { program := "ytclghfekmmcfjaa", sum := "4064200b3c9926d1bddc15e2a3b86c34750d68fbe410f194531ae869cb624894", func := "marline/marlinelaw04.ElfBack", spec := "elfBack", inPlace := ["internal/abi.NoEscape"], unfollowed := true, recurses := true, plainKeys := false, apart := false, narrowed := true }
def ElfBackUptoSaid : Prop := elfBackUptoRow.holds Try.pinned (OpenSpec.upto elfBackSpec)

/-- 'marlinelaw04.ElfLoads', WHERE WHAT IT READS IS OF BULK AT MOST 1048576: true; the input reads as it did. -/
def elfLoadsUptoRow : OpenClaim := { program := "ytclghfekmmcfjaa", sum := "4064200b3c9926d1bddc15e2a3b86c34750d68fbe410f194531ae869cb624894", func := "marline/marlinelaw04.ElfLoads", spec := "elfLoads", inPlace := ["internal/abi.NoEscape", "internal/bytealg.MakeNoZero"], unfollowed := true, recurses := true, plainKeys := false, apart := false, narrowed := true }
def ElfLoadsUptoSaid : Prop := elfLoadsUptoRow.holds Try.pinned (OpenSpec.upto elfLoadsSpec)

/-- 'marlinelaw04.ElfGuards', WHERE WHAT IT READS IS OF BULK AT MOST 1048576: true; the input reads as it did. -/
def elfGuardsUptoRow : OpenClaim := { program := "ytclghfekmmcfjaa", sum := "4064200b3c9926d1bddc15e2a3b86c34750d68fbe410f194531ae869cb624894", func := "marline/marlinelaw04.ElfGuards", spec := "elfGuards", inPlace := ["internal/abi.NoEscape", "internal/bytealg.MakeNoZero"], unfollowed := true, recurses := true, plainKeys := false, apart := false, narrowed := true }
def ElfGuardsUptoSaid : Prop := elfGuardsUptoRow.holds Try.pinned (OpenSpec.upto elfGuardsSpec)

/-- 'marlinelaw04.ElfBytes', WHERE WHAT IT READS IS OF BULK AT MOST 1048576: true; the input reads as it did. -/
def elfBytesUptoRow : OpenClaim := { program := "ytclghfekmmcfjaa", sum := "4064200b3c9926d1bddc15e2a3b86c34750d68fbe410f194531ae869cb624894", func := "marline/marlinelaw04.ElfBytes", spec := "elfBytes", inPlace := ["internal/abi.NoEscape", "internal/bytealg.MakeNoZero"], unfollowed := true, recurses := true, plainKeys := false, apart := false, narrowed := true }
def ElfBytesUptoSaid : Prop := elfBytesUptoRow.holds Try.pinned (OpenSpec.upto elfBytesSpec)

/-- 'marlinelaw02.PageStays', WHERE WHAT IT READS IS OF BULK AT MOST 1048576: true; the input reads as it did. -/
def pageStaysUptoRow : OpenClaim := { program := "ytclghfekmmcfjaa", sum := "4064200b3c9926d1bddc15e2a3b86c34750d68fbe410f194531ae869cb624894", func := "marline/marlinelaw02.PageStays", spec := "pageStays", inPlace := ["internal/abi.NoEscape", "internal/bytealg.MakeNoZero"], unfollowed := true, recurses := true, plainKeys := false, apart := false, narrowed := true }
def PageStaysUptoSaid : Prop := pageStaysUptoRow.holds Try.pinned (OpenSpec.upto pageStaysSpec)

/-- 'marlinelaw02.PageMaps', WHERE WHAT IT READS IS OF BULK AT MOST 1048576: true; the input reads as it did. -/
def pageMapsUptoRow : OpenClaim := { program := "ytclghfekmmcfjaa", sum := "4064200b3c9926d1bddc15e2a3b86c34750d68fbe410f194531ae869cb624894", func := "marline/marlinelaw02.PageMaps", spec := "pageMaps", inPlace := ["internal/abi.NoEscape", "internal/bytealg.MakeNoZero"], unfollowed := true, recurses := true, plainKeys := false, apart := false, narrowed := true }
def PageMapsUptoSaid : Prop := pageMapsUptoRow.holds Try.pinned (OpenSpec.upto pageMapsSpec)

/-- 'marlinelaw02.PageGuards', WHERE WHAT IT READS IS OF BULK AT MOST 1048576: true; the input reads as it did. -/
def pageGuardsUptoRow : OpenClaim := { program := "ytclghfekmmcfjaa", sum := "4064200b3c9926d1bddc15e2a3b86c34750d68fbe410f194531ae869cb624894", func := "marline/marlinelaw02.PageGuards", spec := "pageGuards", inPlace := ["internal/abi.NoEscape", "internal/bytealg.MakeNoZero"], unfollowed := true, recurses := true, plainKeys := false, apart := false, narrowed := true }
def PageGuardsUptoSaid : Prop := pageGuardsUptoRow.holds Try.pinned (OpenSpec.upto pageGuardsSpec)

/-- 'marlinelaw02.PageBytes', WHERE WHAT IT READS IS OF BULK AT MOST 1048576: true; the input reads as it did. -/
def pageBytesUptoRow : OpenClaim := { program := "ytclghfekmmcfjaa", sum := "4064200b3c9926d1bddc15e2a3b86c34750d68fbe410f194531ae869cb624894", func := "marline/marlinelaw02.PageBytes", spec := "pageBytes", inPlace := ["internal/abi.NoEscape", "internal/bytealg.MakeNoZero"], unfollowed := true, recurses := true, plainKeys := false, apart := false, narrowed := true }
def PageBytesUptoSaid : Prop := pageBytesUptoRow.holds Try.pinned (OpenSpec.upto pageBytesSpec)

/-- 'marlinelaw02.PageFills', WHERE WHAT IT READS IS OF BULK AT MOST 1048576: true; the input reads as it did. -/
def pageFillsUptoRow : OpenClaim := { program := "ytclghfekmmcfjaa", sum := "4064200b3c9926d1bddc15e2a3b86c34750d68fbe410f194531ae869cb624894", func := "marline/marlinelaw02.PageFills", spec := "pageFills", inPlace := ["internal/abi.NoEscape", "internal/bytealg.MakeNoZero"], unfollowed := true, recurses := true, plainKeys := false, apart := false, narrowed := true }
def PageFillsUptoSaid : Prop := pageFillsUptoRow.holds Try.pinned (OpenSpec.upto pageFillsSpec)

/-- 'marlinelaw02.PageUses', WHERE WHAT IT READS IS OF BULK AT MOST 1048576: true; the input reads as it did. -/
def pageUsesUptoRow : OpenClaim := { program := "ytclghfekmmcfjaa", sum := "4064200b3c9926d1bddc15e2a3b86c34750d68fbe410f194531ae869cb624894", func := "marline/marlinelaw02.PageUses", spec := "pageUses", inPlace := ["internal/abi.NoEscape", "internal/bytealg.MakeNoZero"], unfollowed := true, recurses := true, plainKeys := false, apart := false, narrowed := true }
def PageUsesUptoSaid : Prop := pageUsesUptoRow.holds Try.pinned (OpenSpec.upto pageUsesSpec)

/-- 'marlinelaw02.PageBack', WHERE WHAT IT READS IS OF BULK AT MOST 1048576: true; the input reads as it did. -/
def pageBackUptoRow : OpenClaim := { program := "ytclghfekmmcfjaa", sum := "4064200b3c9926d1bddc15e2a3b86c34750d68fbe410f194531ae869cb624894", func := "marline/marlinelaw02.PageBack", spec := "pageBack", inPlace := ["internal/abi.NoEscape", "internal/bytealg.MakeNoZero"], unfollowed := true, recurses := true, plainKeys := false, apart := false, narrowed := true }
def PageBackUptoSaid : Prop := pageBackUptoRow.holds Try.pinned (OpenSpec.upto pageBackSpec)

/-- 'marlinelaw02.PageNew', WHERE WHAT IT READS IS OF BULK AT MOST 1048576: true; the input reads as it did. -/
def pageNewUptoRow : OpenClaim := { program := "ytclghfekmmcfjaa", sum := "4064200b3c9926d1bddc15e2a3b86c34750d68fbe410f194531ae869cb624894", func := "marline/marlinelaw02.PageNew", spec := "pageNew", inPlace := ["internal/abi.NoEscape", "internal/bytealg.MakeNoZero"], unfollowed := true, recurses := true, plainKeys := false, apart := false, narrowed := true }
def PageNewUptoSaid : Prop := pageNewUptoRow.holds Try.pinned (OpenSpec.upto pageNewSpec)

end Rows
end Go.Proofs.Ytclghfekmmcfjaa
