/- Memory with more pages: plain law. -/
import Derived.Test.YtajhehmkdlebbaaDoorPgRStore
namespace Go.Proofs.YtajhehmkdlebbaaDoor
open Go.ChangeShapes Go.WideShapes Go.ChangeAt Go.RowKit Go.Deep Go.Maps Go.WideMaps
def newP (at_ perm : Int) (k : Nat) : Pg := ⟨at_ + 256 * k, perm, zerosB 256⟩
def newL (at_ perm : Int) (n : Nat) : List Pg := (List.range n).map (newP at_ perm)
def lowL (l : List Pg) (at_ : Int) : List Pg := l.filter fun p => decide (p.at_ < at_)
def highL (l : List Pg) (at_ : Int) : List Pg := l.filter fun p => decide (at_ < p.at_)
def mapOk (l : List Pg) (at_ n perm : Int) : Prop := rightB l = true ∧ at_ % 256 = 0 ∧ (1 ≤ n ∧ n ≤ 64) ∧ (0 ≤ perm ∧ perm ≤ 7) ∧ at_ + 256 * n ≤ 18446744073709551616
noncomputable instance (l : List Pg) (at_ n perm : Int) : Decidable (mapOk l at_ n perm) := Classical.propDecidable _
def twice (l : List Pg) (at_ : Int) : Nat → Bool
  | 0 => false
  | n + 1 => twice l at_ n || (idxF l (at_ + 256 * n)).isSome
noncomputable def mapE (l : List Pg) (at_ n perm : Int) : Int := if mapOk l at_ n perm then (if twice l at_ n.toNat then 9 else if 64 < l.length + n.toNat then 4 else 0) else 1
noncomputable def mapX (l : List Pg) (at_ n perm : Int) : List Pg := if mapE l at_ n perm = 0 then lowL l at_ ++ (newL at_ perm n.toNat ++ highL l at_) else l
theorem newL_len (at_ perm : Int) (n : Nat) : (newL at_ perm n).length = n := by simp [newL]
theorem newL_succ (at_ perm : Int) (n : Nat) : newL at_ perm (n + 1) = newL at_ perm n ++ [newP at_ perm n] := by simp [newL, List.range_succ]
theorem zerosB_size (n : Nat) : (zerosB n).size = n := by rw [ba_size]; simp [zerosB]
theorem twice_false {l : List Pg} {at_ : Int} : ∀ {n : Nat}, twice l at_ n = false → ∀ k : Nat, k < n → idxF l (at_ + 256 * k) = none
  | 0, _, k, hk => absurd hk (Nat.not_lt_zero _)
  | n + 1, h, k, hk => by
    simp only [twice, Bool.or_eq_false_iff] at h
    by_cases e : k = n
    · subst e
      cases hx : idxF l (at_ + 256 * k) with
      | none => rfl
      | some i => rw [hx] at h; cases h.2
    · exact twice_false h.1 k (by omega)
theorem twice_true {l : List Pg} {at_ : Int} {k : Nat} (h : (idxF l (at_ + 256 * k)).isSome = true) : ∀ {n : Nat}, k < n → twice l at_ n = true
  | 0, hk => absurd hk (Nat.not_lt_zero _)
  | n + 1, hk => by
    simp only [twice, Bool.or_eq_true]
    by_cases e : k = n
    · subst e; exact .inr h
    · exact .inl (twice_true h (by omega))
theorem idxF_none_at {l : List Pg} {T : Int} (h : idxF l T = none) : ∀ p ∈ l, ¬ (p.at_ ≤ T ∧ T - p.at_ < 256) := by
  intro p hp
  unfold idxF at h
  rw [List.findIdx?_eq_none_iff] at h
  have := h p hp
  unfold hasPg at this
  exact of_decide_eq_false this
section
variable {l : List Pg} {at_ perm : Int} {n : Nat}
theorem right_pairwise (h : RightP l) : l.Pairwise (fun p q => p.at_ < q.at_) := by
  rw [List.pairwise_iff_getElem]
  exact fun i j hi hj hij => right_lt h hij hj
theorem high_far (h : RightP l) (ha : at_ % 256 = 0) (ht : twice l at_ n = false) (hn : 1 ≤ n) : ∀ p ∈ l, at_ ≤ p.at_ → at_ + 256 * n ≤ p.at_ := by
  intro p hp hat
  obtain ⟨i, hi, rfl⟩ := List.getElem_of_mem hp
  have hm := right_mod h hi
  refine Classical.byContradiction fun hlt => ?_
  have hk : (((l[i]).at_ - at_) / 256).toNat < n := by omega
  have hno := idxF_none_at (twice_false ht _ hk) _ (List.getElem_mem hi)
  apply hno
  omega
theorem newL_mem {p : Pg} (h : p ∈ newL at_ perm n) : ∃ k, k < n ∧ p = newP at_ perm k := by
  simp only [newL, List.mem_map, List.mem_range] at h
  obtain ⟨k, hk, rfl⟩ := h
  exact ⟨k, hk, rfl⟩
theorem mapX_pairwise (h : RightP l) (ha : at_ % 256 = 0) (ht : twice l at_ n = false) (hn : 1 ≤ n) : (lowL l at_ ++ (newL at_ perm n ++ highL l at_)).Pairwise (fun p q => p.at_ < q.at_) := by
  have hp := right_pairwise h
  have hnew : (newL at_ perm n).Pairwise (fun p q => p.at_ < q.at_) := by
    rw [List.pairwise_iff_getElem]
    intro i j hi hj hij
    simp only [newL, List.getElem_map, List.getElem_range, newP]
    omega
  refine List.pairwise_append.2 ⟨hp.filter _, List.pairwise_append.2 ⟨hnew, hp.filter _, ?_⟩, ?_⟩
  · intro p hp q hq
    obtain ⟨k, hk, rfl⟩ := newL_mem hp
    obtain ⟨hq1, hq2⟩ := List.mem_filter.1 hq
    have := high_far h ha ht hn q hq1 (by have := of_decide_eq_true hq2; omega)
    simp only [newP]
    omega
  · intro p hp q hq
    obtain ⟨hp1, hp2⟩ := List.mem_filter.1 hp
    have hp3 := of_decide_eq_true hp2
    rcases List.mem_append.1 hq with hq | hq
    · obtain ⟨k, hk, rfl⟩ := newL_mem hq
      simp only [newP]
      omega
    · obtain ⟨_, hq2⟩ := List.mem_filter.1 hq
      have := of_decide_eq_true hq2
      omega
theorem mapX_perm (ht : twice l at_ n = false) (hn : 1 ≤ n) : (lowL l at_ ++ (newL at_ perm n ++ highL l at_)).Perm (l ++ newL at_ perm n) := by
  have hno := idxF_none_at (twice_false ht 0 (by omega))
  have hhigh : highL l at_ = l.filter (fun p => !decide (p.at_ < at_)) := by
    unfold highL
    refine List.filter_congr fun p hp => ?_
    have := hno p hp
    by_cases h : p.at_ < at_
    · simp [h]; omega
    · simp [h]; omega
  have h1 := List.filter_append_perm (fun p : Pg => decide (p.at_ < at_)) l
  rw [← hhigh] at h1
  have h2 : (lowL l at_ ++ (newL at_ perm n ++ highL l at_)).Perm (lowL l at_ ++ (highL l at_ ++ newL at_ perm n)) := List.Perm.append_left _ List.perm_append_comm
  refine h2.trans ?_
  rw [← List.append_assoc]
  exact List.Perm.append_right _ h1
theorem mapX_sort (h : RightP l) (ha : at_ % 256 = 0) (ht : twice l at_ n = false) (hn : 1 ≤ n) {l' : List Pg} (hp : l'.Perm (l ++ newL at_ perm n))
    (hs : ∀ i j : Nat, ∀ hi : i < l'.length, ∀ hj : j < l'.length, i < j → ¬ (l'[j]).at_ < (l'[i]).at_) : l' = lowL l at_ ++ (newL at_ perm n ++ highL l at_) := by
  have hpw := mapX_pairwise (perm := perm) h ha ht hn
  have hpx := hp.trans (mapX_perm (perm := perm) ht hn).symm
  refine List.Perm.eq_of_pairwise (le := fun p q => p.at_ ≤ q.at_) ?_ ?_ ?_ hpx
  · intro a b ha' hb hab hba
    have ha2 := hpx.mem_iff.1 ha'
    have hat : a.at_ = b.at_ := by omega
    generalize lowL l at_ ++ (newL at_ perm n ++ highL l at_) = X at *
    obtain ⟨i, hi, rfl⟩ := List.getElem_of_mem ha2
    obtain ⟨j, hj, rfl⟩ := List.getElem_of_mem hb
    rw [List.pairwise_iff_getElem] at hpw
    rcases Nat.lt_trichotomy i j with h3 | h3 | h3
    · have := hpw i j hi hj h3; omega
    · subst h3; rfl
    · have := hpw j i hj hi h3; omega
  · rw [List.pairwise_iff_getElem]
    intro i j hi hj hij
    have := hs i j hi hj hij
    omega
  · exact hpw.imp (fun h => Int.le_of_lt h)
theorem mapX_len (ht : twice l at_ n = false) (hn : 1 ≤ n) : (lowL l at_ ++ (newL at_ perm n ++ highL l at_)).length = l.length + n := by
  rw [(mapX_perm (perm := perm) ht hn).length_eq, List.length_append, newL_len]
theorem mapX_mem (ht : twice l at_ n = false) (hn : 1 ≤ n) {p : Pg} (hp : p ∈ lowL l at_ ++ (newL at_ perm n ++ highL l at_)) : p ∈ l ∨ ∃ k, k < n ∧ p = newP at_ perm k := by
  rcases List.mem_append.1 ((mapX_perm (perm := perm) ht hn).mem_iff.1 hp) with h | h
  · exact .inl h
  · exact .inr (newL_mem h)
theorem mapX_right (h : RightP l) (ha : at_ % 256 = 0) (ht : twice l at_ n = false) (hn : 1 ≤ n) (hpm : 0 ≤ perm ∧ perm ≤ 7) (hl : l.length + n ≤ 64) : RightP (lowL l at_ ++ (newL at_ perm n ++ highL l at_)) := by
  have hpw := mapX_pairwise (perm := perm) h ha ht hn
  have hlen := mapX_len (perm := perm) ht hn
  refine ⟨by rw [hlen]; exact hl, fun k hk p hp => ?_⟩
  have hmem := mapX_mem ht hn (List.mem_of_getElem? hp)
  have hlast : ∀ q, 0 < k → (lowL l at_ ++ (newL at_ perm n ++ highL l at_))[k - 1]? = some q → q.at_ < p.at_ := by
    intro q hk0 hq
    rw [List.pairwise_iff_getElem] at hpw
    rw [List.getElem?_eq_getElem hk] at hp
    rw [List.getElem?_eq_getElem (show k - 1 < _ by omega)] at hq
    have := hpw (k - 1) k (by omega) hk (by omega)
    rw [Option.some.inj hp, Option.some.inj hq] at this
    exact this
  rcases hmem with hm | ⟨j, hj, rfl⟩
  · obtain ⟨i, hi, rfl⟩ := List.getElem_of_mem hm
    obtain ⟨h1, h2, h3, h4, _⟩ := h.2 i hi _ (List.getElem?_eq_getElem hi)
    exact ⟨h1, h2, h3, h4, hlast⟩
  · exact ⟨by simp only [newP]; omega, hpm.1, hpm.2, zerosB_size 256, hlast⟩
theorem mapX_ok (hwf : ∀ p ∈ l, p.ok) (ht : twice l at_ n = false) (hn : 1 ≤ n) (hat : 0 ≤ at_) (hpm : 0 ≤ perm ∧ perm ≤ 7) (hend : at_ + 256 * n ≤ 18446744073709551616) : ∀ p ∈ lowL l at_ ++ (newL at_ perm n ++ highL l at_), p.ok := by
  intro p hp
  rcases mapX_mem ht hn hp with h | ⟨j, hj, rfl⟩
  · exact hwf p h
  · exact ⟨by simp only [newP]; omega, by simp only [newP]; omega, by simp only [newP, zerosB_size]; omega⟩
end
/-- one page more -/
theorem one_more {w : World} {base m : Nat} {X : List Pg} {p : Pg} {v' : Value} (h : w.ownsRow base 41 3 v' (m + [p].length) (X.flatMap Pg.cells ++ p.cells)) : w.ownsRow base 41 3 v' (m + 1) ((X ++ [p]).flatMap Pg.cells) := by
  rw [List.flatMap_append]; simpa using h
theorem map_bad {l : List Pg} {at_ n perm : Int} (h : ¬ mapOk l at_ n perm) : rightB l = false ∨ (rightB l = true ∧ (¬ at_ % 256 = 0 ∨ (at_ % 256 = 0 ∧ (n < 1 ∨ (1 ≤ n ∧ (64 < n ∨ (n ≤ 64 ∧ (perm < 0 ∨ (0 ≤ perm ∧ (7 < perm ∨ (perm ≤ 7 ∧ 18446744073709551616 < at_ + 256 * n)))))))))))  := by
  cases hR : rightB l
  · exact .inl rfl
  · refine .inr ⟨rfl, ?_⟩
    by_cases h1 : at_ % 256 = 0
    · refine .inr ⟨h1, ?_⟩
      by_cases h2 : n < 1
      · exact .inl h2
      · refine .inr ⟨by omega, ?_⟩
        by_cases h3 : 64 < n
        · exact .inl h3
        · refine .inr ⟨by omega, ?_⟩
          by_cases h4 : perm < 0
          · exact .inl h4
          · refine .inr ⟨by omega, ?_⟩
            by_cases h5 : 7 < perm
            · exact .inl h5
            · refine .inr ⟨by omega, ?_⟩
              refine Classical.byContradiction fun h6 => h ⟨hR, h1, ⟨by omega, by omega⟩, ⟨by omega, by omega⟩, by omega⟩
    · exact .inl h1
end Go.Proofs.YtajhehmkdlebbaaDoor
