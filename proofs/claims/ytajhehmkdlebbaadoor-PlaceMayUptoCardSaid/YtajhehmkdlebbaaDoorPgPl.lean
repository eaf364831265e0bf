/- Plain facts on right memory: where a page stands; the bytes. -/
import Derived.Test.YtajhehmkdlebbaaDoorPgTab
namespace Go.Proofs.YtajhehmkdlebbaaDoor
open Go.ChangeShapes Go.WideShapes Go.ChangeAt Go.RowKit Go.Deep Go.Maps Go.WideMaps
theorem right_lt {l : List Pg} (h : RightP l) : ∀ {j i : Nat} (hij : i < j) (hj : j < l.length), (l[i]).at_ < (l[j]).at_
  | 0, i, hij, _ => absurd hij (Nat.not_lt_zero _)
  | j + 1, i, hij, hj => by
    have hjl : j < l.length := by omega
    have h1 : (l[j]).at_ < (l[j + 1]).at_ := (h.2 (j + 1) hj _ (List.getElem?_eq_getElem hj)).2.2.2.2 _ (Nat.succ_pos _) (by rw [Nat.add_sub_cancel]; exact List.getElem?_eq_getElem hjl)
    by_cases e : i = j
    · subst e; exact h1
    · exact Int.lt_trans (right_lt h (show i < j by omega) hjl) h1
theorem right_mod {l : List Pg} (h : RightP l) {i : Nat} (hi : i < l.length) : (l[i]).at_ % 256 = 0 := (h.2 i hi _ (List.getElem?_eq_getElem hi)).1
theorem right_size {l : List Pg} (h : RightP l) {i : Nat} (hi : i < l.length) : (l[i]).data.size = 256 := (h.2 i hi _ (List.getElem?_eq_getElem hi)).2.2.2.1
theorem lastIx_some {l : List Pg} {a : Int} {i : Nat} : ∀ {k : Nat}, lastIx l a k = some i → i < k ∧ (l[i]?).map Pg.at_ = some a
  | 0, h => by cases h
  | k + 1, h => by
    unfold lastIx at h
    split at h
    · rename_i hc; cases h; exact ⟨Nat.lt_succ_self _, hc⟩
    · have := lastIx_some h; exact ⟨by omega, this.2⟩
theorem lastIx_none {l : List Pg} {a : Int} : ∀ {k : Nat}, lastIx l a k = none → ∀ j, j < k → (l[j]?).map Pg.at_ ≠ some a
  | 0, _, j, hj => absurd hj (Nat.not_lt_zero _)
  | k + 1, h, j, hj => by
    unfold lastIx at h
    split at h
    · cases h
    · rename_i hc
      by_cases e : j = k
      · subst e; exact hc
      · exact lastIx_none h j (by omega)
theorem hasPg_iff {l : List Pg} (h : RightP l) {T : Int} {i : Nat} (hi : i < l.length) : hasPg T l[i] = true ↔ (l[i]).at_ = T - T % 256 := by
  have := right_mod h hi
  unfold hasPg
  rw [decide_eq_true_iff]
  omega
theorem ix_eq {l : List Pg} (h : RightP l) (T : Int) : lastIx l (T - T % 256) l.length = idxF l T := by
  cases hl : lastIx l (T - T % 256) l.length with
  | some i =>
    obtain ⟨hi, ha⟩ := lastIx_some hl
    rw [List.getElem?_eq_getElem hi] at ha
    have ha' : (l[i]).at_ = T - T % 256 := by simpa using ha
    refine (atI_hit hi ((hasPg_iff h hi).2 ha') (fun j hj hji => ?_)).symm
    cases hp : hasPg T l[j] with
    | false => rfl
    | true =>
      have h1 := (hasPg_iff h hj).1 hp
      have h2 := right_lt h hji hi
      omega
  | none =>
    refine (atI_none (fun j hj => ?_)).symm
    cases hp : hasPg T l[j] with
    | false => rfl
    | true =>
      have h1 := (hasPg_iff h hj).1 hp
      have := lastIx_none hl j hj
      rw [List.getElem?_eq_getElem hj] at this
      exact absurd (by simpa using h1) this
end Go.Proofs.YtajhehmkdlebbaaDoor
