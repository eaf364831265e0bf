/- What the symbols are, in numbers: the plain law behind PlaceOwn and PlaceRises. -/
import Derived.Test.YtajhehmkdlebbaaDoorPlSyms
namespace Go.Proofs.YtajhehmkdlebbaaDoor.Pl
open Go.ChangeShapes Go.WideShapes Go.ChangeAt Go.RowKit
/-- up, where nothing wraps -/
theorem upI_small {v : Int} (h0 : 0 ≤ v) (h1 : v ≤ 9000000000) : upI v = (v + 255) / 256 * 256 := by
  unfold upI; omega
theorem sumOps_mono (L : List CodeD) {i k : Nat} (h : i ≤ k) : sumOps (L.take i) ≤ sumOps (L.take k) := by
  induction k with
  | zero => obtain rfl : i = 0 := by omega
            exact Nat.le_refl _
  | succ k ih =>
    by_cases hk : i = k + 1
    · subst hk; exact Nat.le_refl _
    · refine Nat.le_trans (ih (by omega)) ?_
      by_cases hl : k < L.length
      · rw [sumOps_take hl]; omega
      · rw [List.take_of_length_le (by omega), List.take_of_length_le (by omega)]; exact Nat.le_refl _
theorem sumOps_all (L : List CodeD) (i : Nat) : sumOps (L.take i) ≤ sumOps L := by
  by_cases h : i ≤ L.length
  · have := sumOps_mono L h; rwa [List.take_length] at this
  · rw [List.take_of_length_le (by omega)]; exact Nat.le_refl _
section
variable {L : List CodeD} {G : List GlobD}
theorem symsL_at_f {i : Nat} (hi : i < L.length) : (symsL L G L.length G.length)[i]? = some (symF L i) := by
  unfold symsL
  rw [List.getElem?_append_left (by simpa using hi)]
  simp [hi]
theorem symsL_at_g {j : Nat} (hj : j < G.length) : (symsL L G L.length G.length)[L.length + j]? = some (symG L G j) := by
  unfold symsL
  rw [List.getElem?_append_right (by simp)]
  simp [hj]
/-- the place of symbol i -/
def placeOf (L : List CodeD) (i : Nat) : Int := if i < L.length then 65556 + 4 * (sumOps (L.take i) : Int) else (65556 + 4 * (sumOps L : Int) + 255) / 256 * 256 + 8 * ((i - L.length : Nat) : Int)
theorem text_small (h : sumOps L ≤ 5000) : textI L = 65556 + 4 * (sumOps L : Int) := by unfold textI; omega
theorem data_small {m : Nat} (h : sumOps L ≤ 5000) (hm : m ≤ 3000) : dataI L m = (65556 + 4 * (sumOps L : Int) + 255) / 256 * 256 + 8 * (m : Int) := by
  unfold dataI
  rw [text_small h, upI_small (by omega) (by omega)]; omega
theorem stack_small {m : Nat} (h : sumOps L ≤ 5000) (hm : m ≤ 3000) : stackI L m = (dataI L m + 255) / 256 * 256 + 8192 := by
  have h2 := data_small h hm
  unfold stackI
  rw [upI_small (by omega) (by omega)]; omega
/-- what a symbol of few says -/
theorem sym_small (h : sumOps L ≤ 5000) (hg : G.length ≤ 3000) {i : Nat} (hi : i < L.length + G.length) :
    ∃ n, (symsL L G L.length G.length)[i]? = some ⟨n, placeOf L i, decide (i < L.length)⟩ := by
  have hs := sumOps_all L i
  by_cases hl : i < L.length
  · refine ⟨L[i].name, (symsL_at_f hl).trans (congrArg some ?_)⟩
    simp only [symF_at hl, placeOf, if_pos hl, decide_eq_true hl, SymD.mk.injEq, and_true, true_and]
    omega
  · have hj : i - L.length < G.length := by omega
    have := symsL_at_g (L := L) hj
    rw [show L.length + (i - L.length) = i by omega] at this
    refine ⟨G[i - L.length].name, this.trans (congrArg some ?_)⟩
    simp only [symG_at hj, placeOf, if_neg hl, decide_eq_false hl, SymD.mk.injEq, and_true, true_and]
    rw [text_small h, upI_small (by omega) (by omega)]; omega
theorem place_bd (h : sumOps L ≤ 5000) (hg : G.length ≤ 3000) {i : Nat} (hi : i < L.length + G.length) : 0 ≤ placeOf L i ∧ placeOf L i ≤ 200000 := by
  have hs := sumOps_all L i
  unfold placeOf
  split <;> omega
theorem place_text {i : Nat} (hi : i < L.length) : placeOf L i ≤ 65556 + 4 * (sumOps L : Int) := by
  have hs := sumOps_all L i
  unfold placeOf
  rw [if_pos hi]; omega
theorem place_next {i : Nat} (hi : i < L.length) : placeOf L i + 4 * (L[i].ops.l.length : Int) ≤ 65556 + 4 * (sumOps L : Int) := by
  have hs := sumOps_all L (i + 1)
  rw [sumOps_take hi] at hs
  unfold placeOf
  rw [if_pos hi]; omega
theorem place_rise {i k : Nat} (hik : i < k) : placeOf L i + (if h : i < L.length then 4 * (L[i].ops.l.length : Int) else 8) ≤ placeOf L k := by
  by_cases hi : i < L.length
  · rw [dif_pos hi]
    by_cases hk : k < L.length
    · have hs := sumOps_mono L (show i + 1 ≤ k by omega)
      rw [sumOps_take hi] at hs
      unfold placeOf
      rw [if_pos hi, if_pos hk]; omega
    · have := place_next hi
      have e : placeOf L k = (65556 + 4 * (sumOps L : Int) + 255) / 256 * 256 + 8 * ((k - L.length : Nat) : Int) := by unfold placeOf; rw [if_neg hk]
      omega
  · rw [dif_neg hi]
    unfold placeOf
    rw [if_neg hi, if_neg (by omega)]; omega
end
/-- place.Syms, read -/
theorem syms_read {B : Nat} {A A2 : Option Addr} {cap gc : Nat} {L : List CodeD} {G : List GlobD} {w : World} (hL : Codes w B A cap L) (hG : Globs w B A2 gc G) (hB : B ≤ w.heap.size) :
    Calls Tryd.prog 31 #[.slice A L.length cap, .slice A2 G.length gc] w fun e w' => ∃ S c, e = .returned (.slice S (L.length + G.length) c) ∧ (⟨S, c, symsL L G L.length G.length⟩ : Sl SymD).In w' w'.heap.size 3 SymD.cells ∧ Below w.heap.size w w' :=
  (syms_any hL hG hB).mono fun e w' ⟨v, he, hown, hb⟩ => by
    obtain ⟨S, c, rfl, hin⟩ := Sl.of_own (cells := SymD.cells) (fun _ => rfl) hown (symsL_len L G _ _)
    exact ⟨S, c, he, hin, hb⟩
/-- symbol i's cells -/
theorem sym_cells {w : World} {B : Nat} {S : Option Addr} {c : Nat} {l : List SymD} (h : (⟨S, c, l⟩ : Sl SymD).In w B 3 SymD.cells) {i : Nat} {x : SymD} (hi : l[i]? = some x) :
    ∃ b off, S = some ⟨b, off, none⟩ ∧ b < B ∧ w.cell? ⟨b, off + i * 3 + 1, none⟩ = some (.int .u64 x.at_) ∧ w.cell? ⟨b, off + i * 3 + 2, none⟩ = some (.bool x.fn) := by
  obtain ⟨b, off, h1, h2, h3⟩ := h.2 i x hi
  exact ⟨b, off, h1, h2, h3 1 _ rfl, h3 2 _ rfl⟩
end Go.Proofs.YtajhehmkdlebbaaDoor.Pl
