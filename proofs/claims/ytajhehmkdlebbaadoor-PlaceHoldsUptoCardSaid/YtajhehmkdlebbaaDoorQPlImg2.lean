/- place.Image: plain. -/
import Derived.Test.YtajhehmkdlebbaaDoorPlImg1
import Derived.Test.YtajhehmkdlebbaaDoorQPlJoin
import Derived.Test.YtajhehmkdlebbaaDoorPlLaws
import Derived.Test.YtajhehmkdlebbaaDoorElMay
namespace Go.Proofs.YtajhehmkdlebbaaDoor.Pl
open Go.ChangeShapes Go.WideShapes Go.ChangeAt Go.RowKit Go.Deep Go.Proofs.YtajhehmkdlebbaaDoor
set_option maxRecDepth 100000
def mainS : ByteArray := ⟨#[109, 97, 105, 110]⟩
/-- all symbols -/
def allS (L : List CodeD) (G : List GlobD) : List SymD := symsL L G L.length G.length
def paI (L : List CodeD) (k : Nat) : Int := (symF L k).at_
/-- the instructions of the first k codes, with what hangs on places -/
def bodyL (L : List CodeD) (S : List SymD) : Nat → List OpD
  | 0 => []
  | k + 1 => bodyL L S k ++ match L[k]? with
    | some c => fixO c.ops.l (paI L k) S c.rels.l
    | none => []
theorem bodyL_succ {L : List CodeD} (S : List SymD) {k : Nat} (hk : k < L.length) : bodyL L S (k + 1) = bodyL L S k ++ fixO (L[k]).ops.l (paI L k) S (L[k]).rels.l := by
  show bodyL L S k ++ (match L[k]? with | some c => _ | none => _) = _
  rw [List.getElem?_eq_getElem hk]
theorem bodyL_len {L : List CodeD} (S : List SymD) : ∀ {k : Nat}, k ≤ L.length → (bodyL L S k).length = sumOps (L.take k)
  | 0, _ => by simp [bodyL, sumOps]
  | k + 1, hk => by rw [bodyL_succ S hk, List.length_append, fixO_len, bodyL_len S (Nat.le_of_lt hk), sumOps_take hk]
/-- why code k's can't be -/
def codeE (L : List CodeD) (S : List SymD) (k : Nat) : Int := match L[k]? with
  | some c => fixE c.ops.l (paI L k) S c.rels.l
  | none => 0
theorem codeE_at {L : List CodeD} (S : List SymD) {k : Nat} (hk : k < L.length) : codeE L S k = fixE (L[k]).ops.l (paI L k) S (L[k]).rels.l := by
  unfold codeE; rw [List.getElem?_eq_getElem hk]
def opsA (L : List CodeD) (G : List GlobD) : List OpD := firstL (stackI L G.length) (atI (firstS (allS L G) mainS true)) ++ bodyL L (allS L G) L.length
theorem opsA_len (L : List CodeD) (G : List GlobD) : (opsA L G).length = 5 + sumOps L := by
  unfold opsA
  rw [List.length_append, bodyL_len _ (Nat.le_refl _), List.take_length]; rfl
/-- the segments -/
def segD (L : List CodeD) (G : List GlobD) : List Sg := if 0 < G.length then [⟨upI (textI L), 6, ⟨(globL G).toArray⟩, 8 * (G.length : Int)⟩] else []
def segL (L : List CodeD) (G : List GlobD) : List Sg := ⟨65536, 5, bytesS (opsA L G), ((bytesS (opsA L G)).size : Nat)⟩ :: (segD L G ++ [⟨upI (dataI L G.length), 6, ByteArray.empty, 8192⟩])
/-- it is small enough -/
def sizeB (L : List CodeD) (m : Nat) : Prop := textI L ≤ 81920 ∧ (8 * (m : Int) ≤ 16384 ∧ (stackI L m - 65536) / 256 ≤ 64)
structure ImgOk (L : List CodeD) (G : List GlobD) : Prop where
  may : imayB 65536 (segL L G) = true
  size : sizeB L G.length
  main : (firstS (allS L G) mainS true).isSome = true
  ops : ∀ o ∈ opsA L G, mayO o = true
  fix : ∀ k, k < L.length → codeE L (allS L G) k = 0
def ImgPost (w : World) (L : List CodeD) (G : List GlobD) (e : Ending) (w' : World) : Prop :=
  ∃ v E, e = .returned (.tuple #[v, .int .i64 E]) ∧ Below w.heap.size w w' ∧ (E ≠ 0 → v = .agg #[.int .u64 0, .slice none 0 0]) ∧
    (E = 0 → ∃ A cap, v = .agg #[.int .u64 65536, .slice A (segL L G).length cap] ∧ Sgs w' w'.heap.size A cap (segL L G) ∧ ImgOk L G)
theorem ImgPost.bad {w w' : World} {L : List CodeD} {G : List GlobD} {E : Int} (h : E ≠ 0) (hb : Below w.heap.size w w') {e : Ending} (he : e = .returned (.tuple #[.agg #[.int .u64 0, .slice none 0 0], .int .i64 E])) : ImgPost w L G e w' :=
  ⟨_, E, he, hb, fun _ => rfl, fun h' => absurd h' h⟩
theorem textI_nn (L : List CodeD) : 0 ≤ textI L := by unfold textI; omega
theorem text_exact {L : List CodeD} (h : sumOps L ≤ 1048576) : textI L = 65556 + 4 * (sumOps L : Int) := by unfold textI; omega
theorem data_exact {L : List CodeD} {m : Nat} (h : sumOps L ≤ 1048576) (hm : m ≤ 3518437208784) : dataI L m = upI (textI L) + 8 * (m : Int) ∧ upI (textI L) = (textI L + 255) / 256 * 256 := by
  have h1 := text_exact h
  have h2 : upI (textI L) = (textI L + 255) / 256 * 256 := by unfold upI; omega
  refine ⟨?_, h2⟩
  unfold dataI; omega
theorem stack_exact {L : List CodeD} {m : Nat} (h : sumOps L ≤ 1048576) (hm : m ≤ 3518437208784) : stackI L m = upI (dataI L m) + 8192 ∧ upI (dataI L m) = (dataI L m + 255) / 256 * 256 := by
  have h1 := text_exact h
  obtain ⟨h2, h3⟩ := data_exact h hm
  have h4 : upI (dataI L m) = (dataI L m + 255) / 256 * 256 := by unfold upI; omega
  refine ⟨?_, h4⟩
  unfold stackI; omega
end Go.Proofs.YtajhehmkdlebbaaDoor.Pl
