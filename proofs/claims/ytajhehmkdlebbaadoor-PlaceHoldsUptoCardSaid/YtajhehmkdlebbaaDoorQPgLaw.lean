/- Memory with more pages: plain law. Plain laws of memory: what was written is loaded, what is new is nought, all else stays. Plain laws of memory: what the statements ask of what is stored and filled in. -/
import Derived.Test.YtajhehmkdlebbaaDoorQPgRStore
import Derived.Test.YtajhehmkdlebbaaDoorQPgSame
namespace Go.Proofs.YtajhehmkdlebbaaDoor
open Go.ChangeShapes Go.WideShapes Go.ChangeAt Go.RowKit Go.Deep Go.Maps Go.WideMaps
def newP (at_ perm : Int) (k : Nat) : Pg := ⟨at_ + 256 * k, perm, zerosB 256⟩
def newL (at_ perm : Int) (n : Nat) : List Pg := (List.range n).map (newP at_ perm)
def lowL (l : List Pg) (at_ : Int) : List Pg := l.filter fun p => decide (p.at_ < at_)
def highL (l : List Pg) (at_ : Int) : List Pg := l.filter fun p => decide (at_ < p.at_)
def mapOk (l : List Pg) (at_ n perm : Int) : Prop := rightB l = true ∧ at_ % 256 = 0 ∧ (1 ≤ n ∧ n ≤ 64) ∧ (0 ≤ perm ∧ perm ≤ 7) ∧ at_ + 256 * n ≤ 18446744073709551616
noncomputable instance (l : List Pg) (at_ n perm : Int) : Decidable (mapOk l at_ n perm) := Classical.propDecidable _
def twice (l : List Pg) (at_ : Int) : Nat → Bool
  | 0 => false
  | n + 1 => twice l at_ n || (idxF l (at_ + 256 * n)).isSome
noncomputable def mapE (l : List Pg) (at_ n perm : Int) : Int := if mapOk l at_ n perm then (if twice l at_ n.toNat then 9 else if 64 < l.length + n.toNat then 4 else 0) else 1
noncomputable def mapX (l : List Pg) (at_ n perm : Int) : List Pg := if mapE l at_ n perm = 0 then lowL l at_ ++ (newL at_ perm n.toNat ++ highL l at_) else l
theorem newL_len (at_ perm : Int) (n : Nat) : (newL at_ perm n).length = n := by simp [newL]
theorem newL_succ (at_ perm : Int) (n : Nat) : newL at_ perm (n + 1) = newL at_ perm n ++ [newP at_ perm n] := by simp [newL, List.range_succ]
theorem zerosB_size (n : Nat) : (zerosB n).size = n := by rw [ba_size]; simp [zerosB]
theorem twice_false {l : List Pg} {at_ : Int} : ∀ {n : Nat}, twice l at_ n = false → ∀ k : Nat, k < n → idxF l (at_ + 256 * k) = none
  | 0, _, k, hk => absurd hk (Nat.not_lt_zero _)
  | n + 1, h, k, hk => by
    simp only [twice, Bool.or_eq_false_iff] at h
    by_cases e : k = n
    · subst e
      cases hx : idxF l (at_ + 256 * k) with
      | none => rfl
      | some i => rw [hx] at h; cases h.2
    · exact twice_false h.1 k (by omega)
theorem twice_true {l : List Pg} {at_ : Int} {k : Nat} (h : (idxF l (at_ + 256 * k)).isSome = true) : ∀ {n : Nat}, k < n → twice l at_ n = true
  | 0, hk => absurd hk (Nat.not_lt_zero _)
  | n + 1, hk => by
    simp only [twice, Bool.or_eq_true]
    by_cases e : k = n
    · subst e; exact .inr h
    · exact .inl (twice_true h (by omega))
theorem idxF_none_at {l : List Pg} {T : Int} (h : idxF l T = none) : ∀ p ∈ l, ¬ (p.at_ ≤ T ∧ T - p.at_ < 256) := by
  intro p hp
  unfold idxF at h
  rw [List.findIdx?_eq_none_iff] at h
  have := h p hp
  unfold hasPg at this
  exact of_decide_eq_false this
section
variable {l : List Pg} {at_ perm : Int} {n : Nat}
theorem right_pairwise (h : RightP l) : l.Pairwise (fun p q => p.at_ < q.at_) := by
  rw [List.pairwise_iff_getElem]
  exact fun i j hi hj hij => right_lt h hij hj
theorem high_far (h : RightP l) (ha : at_ % 256 = 0) (ht : twice l at_ n = false) (hn : 1 ≤ n) : ∀ p ∈ l, at_ ≤ p.at_ → at_ + 256 * n ≤ p.at_ := by
  intro p hp hat
  obtain ⟨i, hi, rfl⟩ := List.getElem_of_mem hp
  have hm := right_mod h hi
  refine Classical.byContradiction fun hlt => ?_
  have hk : (((l[i]).at_ - at_) / 256).toNat < n := by omega
  have hno := idxF_none_at (twice_false ht _ hk) _ (List.getElem_mem hi)
  apply hno
  omega
theorem newL_mem {p : Pg} (h : p ∈ newL at_ perm n) : ∃ k, k < n ∧ p = newP at_ perm k := by
  simp only [newL, List.mem_map, List.mem_range] at h
  obtain ⟨k, hk, rfl⟩ := h
  exact ⟨k, hk, rfl⟩
theorem mapX_pairwise (h : RightP l) (ha : at_ % 256 = 0) (ht : twice l at_ n = false) (hn : 1 ≤ n) : (lowL l at_ ++ (newL at_ perm n ++ highL l at_)).Pairwise (fun p q => p.at_ < q.at_) := by
  have hp := right_pairwise h
  have hnew : (newL at_ perm n).Pairwise (fun p q => p.at_ < q.at_) := by
    rw [List.pairwise_iff_getElem]
    intro i j hi hj hij
    simp only [newL, List.getElem_map, List.getElem_range, newP]
    omega
  refine List.pairwise_append.2 ⟨hp.filter _, List.pairwise_append.2 ⟨hnew, hp.filter _, ?_⟩, ?_⟩
  · intro p hp q hq
    obtain ⟨k, hk, rfl⟩ := newL_mem hp
    obtain ⟨hq1, hq2⟩ := List.mem_filter.1 hq
    have := high_far h ha ht hn q hq1 (by have := of_decide_eq_true hq2; omega)
    simp only [newP]
    omega
  · intro p hp q hq
    obtain ⟨hp1, hp2⟩ := List.mem_filter.1 hp
    have hp3 := of_decide_eq_true hp2
    rcases List.mem_append.1 hq with hq | hq
    · obtain ⟨k, hk, rfl⟩ := newL_mem hq
      simp only [newP]
      omega
    · obtain ⟨_, hq2⟩ := List.mem_filter.1 hq
      have := of_decide_eq_true hq2
      omega
theorem mapX_perm (ht : twice l at_ n = false) (hn : 1 ≤ n) : (lowL l at_ ++ (newL at_ perm n ++ highL l at_)).Perm (l ++ newL at_ perm n) := by
  have hno := idxF_none_at (twice_false ht 0 (by omega))
  have hhigh : highL l at_ = l.filter (fun p => !decide (p.at_ < at_)) := by
    unfold highL
    refine List.filter_congr fun p hp => ?_
    have := hno p hp
    by_cases h : p.at_ < at_
    · simp [h]; omega
    · simp [h]; omega
  have h1 := List.filter_append_perm (fun p : Pg => decide (p.at_ < at_)) l
  rw [← hhigh] at h1
  have h2 : (lowL l at_ ++ (newL at_ perm n ++ highL l at_)).Perm (lowL l at_ ++ (highL l at_ ++ newL at_ perm n)) := List.Perm.append_left _ List.perm_append_comm
  refine h2.trans ?_
  rw [← List.append_assoc]
  exact List.Perm.append_right _ h1
theorem mapX_sort (h : RightP l) (ha : at_ % 256 = 0) (ht : twice l at_ n = false) (hn : 1 ≤ n) {l' : List Pg} (hp : l'.Perm (l ++ newL at_ perm n))
    (hs : ∀ i j : Nat, ∀ hi : i < l'.length, ∀ hj : j < l'.length, i < j → ¬ (l'[j]).at_ < (l'[i]).at_) : l' = lowL l at_ ++ (newL at_ perm n ++ highL l at_) := by
  have hpw := mapX_pairwise (perm := perm) h ha ht hn
  have hpx := hp.trans (mapX_perm (perm := perm) ht hn).symm
  refine List.Perm.eq_of_pairwise (le := fun p q => p.at_ ≤ q.at_) ?_ ?_ ?_ hpx
  · intro a b ha' hb hab hba
    have ha2 := hpx.mem_iff.1 ha'
    have hat : a.at_ = b.at_ := by omega
    generalize lowL l at_ ++ (newL at_ perm n ++ highL l at_) = X at *
    obtain ⟨i, hi, rfl⟩ := List.getElem_of_mem ha2
    obtain ⟨j, hj, rfl⟩ := List.getElem_of_mem hb
    rw [List.pairwise_iff_getElem] at hpw
    rcases Nat.lt_trichotomy i j with h3 | h3 | h3
    · have := hpw i j hi hj h3; omega
    · subst h3; rfl
    · have := hpw j i hj hi h3; omega
  · rw [List.pairwise_iff_getElem]
    intro i j hi hj hij
    have := hs i j hi hj hij
    omega
  · exact hpw.imp (fun h => Int.le_of_lt h)
theorem mapX_len (ht : twice l at_ n = false) (hn : 1 ≤ n) : (lowL l at_ ++ (newL at_ perm n ++ highL l at_)).length = l.length + n := by
  rw [(mapX_perm (perm := perm) ht hn).length_eq, List.length_append, newL_len]
theorem mapX_mem (ht : twice l at_ n = false) (hn : 1 ≤ n) {p : Pg} (hp : p ∈ lowL l at_ ++ (newL at_ perm n ++ highL l at_)) : p ∈ l ∨ ∃ k, k < n ∧ p = newP at_ perm k := by
  rcases List.mem_append.1 ((mapX_perm (perm := perm) ht hn).mem_iff.1 hp) with h | h
  · exact .inl h
  · exact .inr (newL_mem h)
theorem mapX_right (h : RightP l) (ha : at_ % 256 = 0) (ht : twice l at_ n = false) (hn : 1 ≤ n) (hpm : 0 ≤ perm ∧ perm ≤ 7) (hl : l.length + n ≤ 64) : RightP (lowL l at_ ++ (newL at_ perm n ++ highL l at_)) := by
  have hpw := mapX_pairwise (perm := perm) h ha ht hn
  have hlen := mapX_len (perm := perm) ht hn
  refine ⟨by rw [hlen]; exact hl, fun k hk p hp => ?_⟩
  have hmem := mapX_mem ht hn (List.mem_of_getElem? hp)
  have hlast : ∀ q, 0 < k → (lowL l at_ ++ (newL at_ perm n ++ highL l at_))[k - 1]? = some q → q.at_ < p.at_ := by
    intro q hk0 hq
    rw [List.pairwise_iff_getElem] at hpw
    rw [List.getElem?_eq_getElem hk] at hp
    rw [List.getElem?_eq_getElem (show k - 1 < _ by omega)] at hq
    have := hpw (k - 1) k (by omega) hk (by omega)
    rw [Option.some.inj hp, Option.some.inj hq] at this
    exact this
  rcases hmem with hm | ⟨j, hj, rfl⟩
  · obtain ⟨i, hi, rfl⟩ := List.getElem_of_mem hm
    obtain ⟨h1, h2, h3, h4, _⟩ := h.2 i hi _ (List.getElem?_eq_getElem hi)
    exact ⟨h1, h2, h3, h4, hlast⟩
  · exact ⟨by simp only [newP]; omega, hpm.1, hpm.2, zerosB_size 256, hlast⟩
theorem mapX_ok (hwf : ∀ p ∈ l, p.ok) (ht : twice l at_ n = false) (hn : 1 ≤ n) (hat : 0 ≤ at_) (hpm : 0 ≤ perm ∧ perm ≤ 7) (hend : at_ + 256 * n ≤ 18446744073709551616) : ∀ p ∈ lowL l at_ ++ (newL at_ perm n ++ highL l at_), p.ok := by
  intro p hp
  rcases mapX_mem ht hn hp with h | ⟨j, hj, rfl⟩
  · exact hwf p h
  · exact ⟨by simp only [newP]; omega, by simp only [newP]; omega, by simp only [newP, zerosB_size]; omega⟩
end
/-- one page more -/
theorem one_more {w : World} {base m : Nat} {X : List Pg} {p : Pg} {v' : Value} (h : w.ownsRow base 41 3 v' (m + [p].length) (X.flatMap Pg.cells ++ p.cells)) : w.ownsRow base 41 3 v' (m + 1) ((X ++ [p]).flatMap Pg.cells) := by
  rw [List.flatMap_append]; simpa using h
theorem map_bad {l : List Pg} {at_ n perm : Int} (h : ¬ mapOk l at_ n perm) : rightB l = false ∨ (rightB l = true ∧ (¬ at_ % 256 = 0 ∨ (at_ % 256 = 0 ∧ (n < 1 ∨ (1 ≤ n ∧ (64 < n ∨ (n ≤ 64 ∧ (perm < 0 ∨ (0 ≤ perm ∧ (7 < perm ∨ (perm ≤ 7 ∧ 18446744073709551616 < at_ + 256 * n)))))))))))  := by
  cases hR : rightB l
  · exact .inl rfl
  · refine .inr ⟨rfl, ?_⟩
    by_cases h1 : at_ % 256 = 0
    · refine .inr ⟨h1, ?_⟩
      by_cases h2 : n < 1
      · exact .inl h2
      · refine .inr ⟨by omega, ?_⟩
        by_cases h3 : 64 < n
        · exact .inl h3
        · refine .inr ⟨by omega, ?_⟩
          by_cases h4 : perm < 0
          · exact .inl h4
          · refine .inr ⟨by omega, ?_⟩
            by_cases h5 : 7 < perm
            · exact .inl h5
            · refine .inr ⟨by omega, ?_⟩
              refine Classical.byContradiction fun h6 => h ⟨hR, h1, ⟨by omega, by omega⟩, ⟨by omega, by omega⟩, by omega⟩
    · exact .inl h1
end Go.Proofs.YtajhehmkdlebbaaDoor
namespace Go.Proofs.YtajhehmkdlebbaaDoor
open Go.ChangeShapes Go.WideShapes Go.ChangeAt Go.RowKit Go.Deep Go.Maps Go.WideMaps
theorem byteI_list (s : ByteArray) (q : Nat) : byteI s q = (((s.data.toList[q]?).getD 0).toNat : Int) := by
  unfold byteI; rw [Array.getElem?_toList]
theorem byteI_wrB (a : Int) (d : ByteArray) (at_ : Int) (s : ByteArray) (n j : Nat) (hj : j < d.size) :
    byteI (wrB a d at_ s n) j = if at_ ≤ a + j ∧ a + j < at_ + n then byteI s (a + j - at_).toNat else byteI d j := by
  have hj' : j < d.data.toList.length := by rw [← ba_size]; exact hj
  rw [byteI_list, wrB_at, List.getElem?_eq_getElem hj', Option.map_some, Option.getD_some, byteI_list d, List.getElem?_eq_getElem hj', Option.getD_some]
  split
  · unfold byteI; rfl
  · rfl
/-- what a place holds behind a writing -/
theorem byteAt_wr {L : List Pg} (h : RightP L) (at_ : Int) (s : ByteArray) (n : Nat) (a perm : Int) (k : Nat) :
    byteAt (wrL L at_ s n) a perm k = (byteAt L a perm k).map fun b => if at_ ≤ (a + k) % 18446744073709551616 ∧ (a + k) % 18446744073709551616 < at_ + n then byteI s ((a + k) % 18446744073709551616 - at_).toNat else b := by
  generalize hT : (a + (k : Int)) % 18446744073709551616 = T
  by_cases hlow : T < a
  · rw [byteAt_low hT.symm hlow, byteAt_low hT.symm hlow]; rfl
  · cases hx : idxF L T with
    | none => rw [byteAt_far hT.symm hx, byteAt_far hT.symm (by rw [wrL_idx]; exact hx)]; rfl
    | some i =>
      have hi := idxF_lt hx
      have hh := idxF_has hx hi
      have hs := right_size h hi
      rw [byteAt_some hT.symm (by omega) hx hi, byteAt_some hT.symm (by omega) (by rw [wrL_idx]; exact hx) (by rw [wrL_len]; exact hi), wrL_get]
      have hg : grantB (wrP at_ s n L[i]) perm = grantB L[i] perm := rfl
      rw [hg]
      by_cases hgr : grantB L[i] perm = true
      · rw [if_pos hgr, if_pos hgr, Option.map_some]
        congr 1
        show byteI (wrB (L[i]).at_ (L[i]).data at_ s n) (T - (L[i]).at_).toNat = _
        rw [byteI_wrB _ _ _ _ _ _ (by omega)]
        have e : (L[i]).at_ + ((T - (L[i]).at_).toNat : Int) = T := by omega
        rw [e]
      · rw [if_neg hgr, if_neg hgr]; rfl
theorem byteAt_mono {L : List Pg} {a perm : Int} {k : Nat} (h : (byteAt L a perm k).isSome = true) : (byteAt L a 0 k).isSome = true := by
  by_cases hlow : (a + (k : Int)) % 18446744073709551616 < a
  · rw [byteAt_low rfl hlow] at h; cases h
  · cases hx : idxF L ((a + (k : Int)) % 18446744073709551616) with
    | none => rw [byteAt_far rfl hx] at h; cases h
    | some i => rw [byteAt_some rfl (by omega) hx (idxF_lt hx), grant0]; rfl
theorem byteAt_wr_some {L : List Pg} (h : RightP L) (at_ : Int) (s : ByteArray) (n : Nat) (a perm : Int) (k : Nat) : (byteAt (wrL L at_ s n) a perm k).isSome = (byteAt L a perm k).isSome := by
  rw [byteAt_wr h]; cases byteAt L a perm k <;> rfl
theorem loadN_some_iff {l : List Pg} {a perm : Int} : ∀ {n : Nat}, (∀ k, k < n → (byteAt l a perm k).isSome = true) → (loadN l a perm n).isSome = true
  | 0, _ => rfl
  | n + 1, h => by
    have h1 := loadN_some_iff (fun k hk => h k (by omega) : ∀ k, k < n → _)
    have h2 := h n (Nat.lt_succ_self n)
    simp only [loadN]
    cases hl : loadN l a perm n with
    | none => rw [hl] at h1; cases h1
    | some v =>
      cases hb : byteAt l a perm n with
      | none => rw [hb] at h2; cases h2
      | some b => rfl
theorem loadN_mono {L : List Pg} {a perm : Int} {n : Nat} (h : (loadN L a perm n).isSome = true) : (loadN L a 0 n).isSome = true :=
  loadN_some_iff fun k hk => byteAt_mono (loadN_byte h k hk)
theorem loadN_one (l : List Pg) (a perm : Int) : loadN l a perm 1 = byteAt l a perm 0 := by
  simp only [loadN, Option.bind_some]
  cases byteAt l a perm 0 <;> simp
/-- a number's bytes, from all of it -/
theorem loadN_digit {l : List Pg} {a perm : Int} : ∀ {n : Nat} {V : Int}, loadN l a perm n = some V → ∀ k, k < n → byteAt l a perm k = some (V / 256 ^ k % 256)
  | 0, _, _, k, hk => absurd hk (Nat.not_lt_zero _)
  | n + 1, V, h, k, hk => by
    simp only [loadN, Option.bind_eq_some_iff, Option.map_eq_some_iff] at h
    obtain ⟨u, hu, b, hb, rfl⟩ := h
    have h1 := loadN_bd hu
    have h2 := byteAt_bd hb
    have hp := pow256_pos n
    by_cases e : k = n
    · subst e
      rw [hb, Int.add_mul_ediv_left _ _ (by omega), Int.ediv_eq_zero_of_lt h1.1 h1.2]
      congr 1; omega
    · have hk' : k < n := by omega
      rw [loadN_digit hu k hk']
      congr 1
      obtain ⟨d, rfl⟩ : ∃ d, n = k + 1 + d := ⟨n - (k + 1), by omega⟩
      have hk0 := pow256_pos k
      have e1 : u + (256 : Int) ^ (k + 1 + d) * b = u + 256 ^ k * (256 * (256 ^ d * b)) := by
        rw [Int.pow_add, Int.pow_succ]; simp only [Int.mul_assoc]
      rw [e1, Int.add_mul_ediv_left _ _ (by omega), Int.add_mul_emod_self_left]
/-- what was stored is loaded -/
theorem mod_pow_step (v : Int) (m : Nat) : v % 256 ^ (m + 1) = v % 256 ^ m + 256 ^ m * (v / 256 ^ m % 256) := by
  have hp := pow256_pos m
  rw [Int.pow_succ]
  have h1 := Int.emod_add_mul_ediv v (256 ^ m)
  have h2 := Int.emod_add_mul_ediv (v / 256 ^ m) 256
  have h3 := Int.emod_nonneg v (show (256 : Int) ^ m ≠ 0 by omega)
  have h4 := Int.emod_lt_of_pos v hp
  have h5 := Int.emod_nonneg (v / 256 ^ m) (show (256 : Int) ≠ 0 by omega)
  have h6 := Int.emod_lt_of_pos (v / 256 ^ m) (show (0 : Int) < 256 by omega)
  generalize hr : v % 256 ^ m = r at *
  generalize hq : v / 256 ^ m = q at *
  generalize hd : q % 256 = d at *
  generalize hq' : q / 256 = q' at *
  generalize (256 : Int) ^ m = P at *
  have e : v = (r + P * d) + P * 256 * q' := by
    rw [← h1, ← h2, Int.mul_add]; simp only [Int.mul_assoc, Int.add_assoc]
  have hm : P * d ≤ P * 255 := Int.mul_le_mul_of_nonneg_left (by omega) (by omega)
  have hm0 : 0 ≤ P * d := Int.mul_nonneg (by omega) h5
  rw [e, Int.add_mul_emod_self_left]
  exact Int.emod_eq_of_lt (by omega) (by omega)
theorem bytesV_byte (v : Int) {n k : Nat} (h : k < n) : byteI (bytesV v n) k = v / 256 ^ k % 256 := by
  rw [byteI_list]
  simp only [bytesV, List.getElem?_map, List.getElem?_range h, Option.map_some, Option.getD_some]
  rw [byte_val]
theorem loadN_stored {L : List Pg} (h : RightP L) (hwf : ∀ p ∈ L, p.ok) {at_ v : Int} {n : Nat} (hat : 0 ≤ at_) (hn : n ≤ 8) (hok : (loadN L at_ 2 n).isSome = true) :
    ∀ m, m ≤ n → loadN (wrL L at_ (bytesV v n) n) at_ 0 m = some (v % 256 ^ m)
  | 0, _ => by simp [loadN, Int.emod_one]
  | m + 1, hm => by
    have ih := loadN_stored h hwf (v := v) hat hn hok m (by omega)
    obtain ⟨i, hi, _, hT, _, _, _, hle⟩ := pg_hit h hwf (loadN_byte hok m (by omega)) hat (by omega)
    have hb := byteAt_mono (loadN_byte hok m (by omega))
    simp only [loadN, ih, Option.bind_some]
    rw [byteAt_wr h]
    unfold toI at hT
    rw [hT]
    cases hx : byteAt L at_ 0 m with
    | none => rw [hx] at hb; cases hb
    | some b =>
      rw [Option.map_some, Option.map_some, if_pos ⟨by omega, by omega⟩]
      have e : (at_ + (m : Int) - at_).toNat = m := by omega
      rw [e, bytesV_byte v (show m < n by omega), mod_pow_step]
/-! ### a single byte -/
/-- the page that has a place -/
theorem byteAt_page {l : List Pg} (h : RightP l) {T perm : Int} (hT : 0 ≤ T ∧ T ≤ 18446744073709551615) {p : Pg} (hp : p ∈ l) (h1 : p.at_ ≤ T ∧ T - p.at_ < 256) :
    byteAt l T perm 0 = if grantB p perm then some (byteI p.data (T - p.at_).toNat) else none := by
  obtain ⟨i, hi, rfl⟩ := List.getElem_of_mem hp
  have hx : idxF l T = some i := by
    refine atI_hit hi (decide_eq_true h1) (fun j hj hji => ?_)
    cases hh : hasPg T l[j] with
    | false => rfl
    | true =>
      have h2 := of_decide_eq_true hh
      have := right_apart h hj hi (by omega)
      omega
  have e : (T + ((0 : Nat) : Int)) % 18446744073709551616 = T := by omega
  exact byteAt_some e.symm (Int.le_refl _) hx hi
theorem byteAt_nopage {l : List Pg} {T perm : Int} (hT : 0 ≤ T ∧ T ≤ 18446744073709551615) (hno : ∀ p ∈ l, ¬ (p.at_ ≤ T ∧ T - p.at_ < 256)) : byteAt l T perm 0 = none := by
  have hx : idxF l T = none := atI_none fun j hj => decide_eq_false (hno _ (List.getElem_mem hj))
  have e : (T + ((0 : Nat) : Int)) % 18446744073709551616 = T := by omega
  exact byteAt_far e.symm hx
/-- a byte of some is that byte by itself -/
theorem byteAt_alone {l : List Pg} {a perm : Int} {k : Nat} (h : (byteAt l a perm k).isSome = true) : byteAt l (IntKind.u64.wrap (a + k)) perm 0 = byteAt l a perm k := by
  rw [IntKind.wrap_u64]
  generalize hT : (a + (k : Int)) % 18446744073709551616 = T
  have e : (T + ((0 : Nat) : Int)) % 18446744073709551616 = T := by omega
  by_cases hlow : T < a
  · rw [byteAt_low hT.symm hlow] at h; cases h
  · cases hx : idxF l T with
    | none => rw [byteAt_far hT.symm hx] at h; cases h
    | some i =>
      have hi := idxF_lt hx
      rw [byteAt_some hT.symm (by omega) hx hi, byteAt_some e.symm (Int.le_refl _) hx hi]
section
variable {l : List Pg} {at_ n perm : Int}
theorem mapE_zero (h : mapE l at_ n perm = 0) : mapOk l at_ n perm ∧ twice l at_ n.toNat = false ∧ l.length + n.toNat ≤ 64 := by
  unfold mapE at h
  split at h
  · rename_i hok
    refine ⟨hok, ?_⟩
    split at h
    · cases h
    · rename_i ht
      split at h
      · cases h
      · exact ⟨by simpa using ht, by omega⟩
  · cases h
theorem mapX_zero (h : mapE l at_ n perm = 0) : mapX l at_ n perm = lowL l at_ ++ (newL at_ perm n.toNat ++ highL l at_) := by unfold mapX; rw [if_pos h]
theorem mapX_ne (h : mapE l at_ n perm ≠ 0) : mapX l at_ n perm = l := by unfold mapX; rw [if_neg h]
theorem mapX_rightP (hr : RightP l) : RightP (mapX l at_ n perm) := by
  by_cases h : mapE l at_ n perm = 0
  · obtain ⟨⟨_, h1, h2, h3, _⟩, h4, h5⟩ := mapE_zero h
    rw [mapX_zero h]
    exact mapX_right hr h1 h4 (by omega) h3 h5
  · rw [mapX_ne h]; exact hr
theorem mapX_okP (hwf : ∀ p ∈ l, p.ok) (hat : 0 ≤ at_) : ∀ p ∈ mapX l at_ n perm, p.ok := by
  by_cases h : mapE l at_ n perm = 0
  · obtain ⟨⟨_, h1, h2, h3, h6⟩, h4, h5⟩ := mapE_zero h
    rw [mapX_zero h]
    exact mapX_ok hwf h4 (by omega) hat h3 (by rw [Int.toNat_of_nonneg (by omega)]; exact h6)
  · rw [mapX_ne h]; exact hwf
theorem mapX_lenE (h : mapE l at_ n perm = 0) : ((mapX l at_ n perm).length : Int) = l.length + n := by
  obtain ⟨⟨_, h1, h2, h3, _⟩, h4, h5⟩ := mapE_zero h
  rw [mapX_zero h, mapX_len h4 (by omega)]
  omega
theorem zerosB_byte (n k : Nat) : byteI (zerosB n) k = 0 := by
  rw [byteI_list]
  simp only [zerosB, List.getElem?_replicate]
  split <;> rfl
/-- a new page's bytes are nought; there was none -/
theorem mapX_new (hr : RightP l) (h : mapE l at_ n perm = 0) {T : Int} (hT : 0 ≤ T ∧ T ≤ 18446744073709551615) (h1 : at_ ≤ T) (h2 : (T - at_) / 256 < n) :
    byteAt (mapX l at_ n perm) T 0 0 = some 0 ∧ byteAt l T 0 0 = none := by
  have hrx := mapX_rightP (at_ := at_) (n := n) (perm := perm) hr
  obtain ⟨⟨_, hm, hn, hp, _⟩, h4, h5⟩ := mapE_zero h
  have hk : ((T - at_) / 256).toNat < n.toNat := by omega
  constructor
  · have hmem : newP at_ perm ((T - at_) / 256).toNat ∈ mapX l at_ n perm := by
      rw [mapX_zero h]
      refine List.mem_append.2 (.inr (List.mem_append.2 (.inl ?_)))
      unfold newL
      exact List.mem_map.2 ⟨_, List.mem_range.2 hk, rfl⟩
    rw [byteAt_page hrx hT hmem (by simp only [newP]; omega), grant0, if_pos rfl]
    simp only [newP, zerosB_byte]
  · have hno := idxF_none_at (twice_false h4 _ hk)
    refine byteAt_nopage hT fun p hp' hc => ?_
    obtain ⟨i, hi, rfl⟩ := List.getElem_of_mem hp'
    have := right_mod hr hi
    exact hno _ hp' (by omega)
theorem mapX_old (hr : RightP l) (h : mapE l at_ n perm = 0) {T perm' : Int} (hT : 0 ≤ T ∧ T ≤ 18446744073709551615) (hno : ¬ (at_ ≤ T ∧ (T - at_) / 256 < n)) :
    byteAt (mapX l at_ n perm) T perm' 0 = byteAt l T perm' 0 := by
  have hrx := mapX_rightP (at_ := at_) (n := n) (perm := perm) hr
  obtain ⟨⟨_, hm, hn, hp, _⟩, h4, h5⟩ := mapE_zero h
  have hmem : ∀ p : Pg, p ∈ mapX l at_ n perm ↔ p ∈ l ∨ p ∈ newL at_ perm n.toNat := fun p => by
    rw [mapX_zero h, (mapX_perm h4 (by omega)).mem_iff, List.mem_append]
  by_cases hex : ∃ p ∈ l, p.at_ ≤ T ∧ T - p.at_ < 256
  · obtain ⟨p, hp1, hp2⟩ := hex
    rw [byteAt_page hr hT hp1 hp2, byteAt_page hrx hT ((hmem p).2 (.inl hp1)) hp2]
  · rw [byteAt_nopage hT (fun p hp1 hp2 => hex ⟨p, hp1, hp2⟩)]
    refine byteAt_nopage hT fun p hp1 hp2 => ?_
    rcases (hmem p).1 hp1 with hp3 | hp3
    · exact hex ⟨p, hp3, hp2⟩
    · obtain ⟨k, hk, rfl⟩ := newL_mem hp3
      simp only [newP] at hp2
      omega
end
/-! ### loads of one byte, and of what was stored, as the functions answer -/
theorem loadV_one {l : List Pg} (h : rightB l = true) (T perm : Int) : loadV l T 1 perm = (byteAt l T perm 0).getD 0 := by
  unfold loadV; rw [if_pos ⟨by omega, h⟩]
  show (loadN l T perm 1).getD 0 = _
  rw [loadN_one]
theorem loadE_one {l : List Pg} (h : rightB l = true) (T perm : Int) : loadE l T 1 perm = if (byteAt l T perm 0).isSome then 0 else 6 := by
  unfold loadE; rw [if_pos ⟨by omega, h⟩]
  show (if (loadN l T perm 1).isSome then _ else _) = _
  rw [loadN_one]
theorem rightB_in {l : List Pg} (h : RightP l) : rightB l = true := decide_eq_true h
/-- memory among a law's arguments -/
def MemG (w : World) (A : Option Addr) (cap : Nat) (L : List Pg) : Prop := Mem w w.heap.size A cap L ∧ (A = none → cap = 0) ∧ (∀ p ∈ L, p.ok) ∧ L.length ≤ 140737488351232
theorem MemG.of {w : World} {s : Sl Pg} (h : Sl.Good w w.heap.size 3 32 Pg.cells Pg.ok s ∧ (s.a = none → s.cap = 0)) : MemG w s.a s.cap s.l := by
  refine ⟨h.1.1, h.2, h.1.2.2.2, ?_⟩
  have h1 := h.1.1.1
  have h2 := h.1.2.1
  omega
theorem Mem.step {w w' : World} {A : Option Addr} {cap : Nat} {L : List Pg} (h : Mem w w.heap.size A cap L) (hb : Below w.heap.size w w') : Mem w' w'.heap.size A cap L := (Sl.In.below h hb).more hb.size
end Go.Proofs.YtajhehmkdlebbaaDoor
namespace Go.Proofs.YtajhehmkdlebbaaDoor
open Go.ChangeShapes Go.WideShapes Go.ChangeAt Go.RowKit Go.Deep Go.Maps Go.WideMaps
section
variable {M : List Pg} {at_ n perm v : Int} {s : ByteArray}
theorem loadE_zero (h : loadE M at_ n perm = 0) : ((1 ≤ n ∧ n ≤ 8) ∧ rightB M = true) ∧ (loadN M at_ perm n.toNat).isSome = true := by
  unfold loadE at h
  split at h
  · rename_i hc
    refine ⟨hc, ?_⟩
    split at h
    · assumption
    · cases h
  · cases h
theorem loadE_none_V (h : loadE M at_ n perm ≠ 0) : loadV M at_ n perm = 0 := by
  unfold loadE at h
  unfold loadV
  split
  · rename_i hc
    rw [if_pos hc] at h
    cases hl : loadN M at_ perm n.toNat with
    | none => rfl
    | some x => rw [hl] at h; exact absurd rfl h
  · rfl
theorem store_fail (h : loadE M at_ n 2 ≠ 0) : storeX M at_ n v = M := by
  unfold storeX
  rw [if_neg]
  rintro ⟨hc, hl⟩
  apply h
  unfold loadE
  rw [if_pos hc, hl]; rfl
theorem store_ok (h : loadE M at_ n 2 = 0) : storeX M at_ n v = wrL M at_ (bytesV v n.toNat) n.toNat := by
  unfold storeX; rw [if_pos (loadE_zero h)]
theorem storeX_len : (storeX M at_ n v).length = M.length := by
  unfold storeX; split
  · exact wrL_len _ _ _ _
  · rfl
theorem storeX_rightP (h : RightP M) : RightP (storeX M at_ n v) := by
  unfold storeX; split
  · exact wrL_right h _ _ _
  · exact h
theorem storeX_okP (h : ∀ p ∈ M, p.ok) : ∀ p ∈ storeX M at_ n v, p.ok := by
  unfold storeX; split
  · exact wrL_ok h _ _ _
  · exact h
theorem fillE_zero (h : fillE M at_ s = 0) : rightB M = true ∧ (loadN M at_ 0 s.size).isSome = true := by
  unfold fillE at h
  split at h
  · rename_i hc
    refine ⟨hc, ?_⟩
    split at h
    · assumption
    · cases h
  · cases h
theorem fill_fail (h : fillE M at_ s ≠ 0) : fillX M at_ s = M := by
  unfold fillX
  rw [if_neg]
  rintro ⟨hc, hl⟩
  apply h
  unfold fillE
  rw [if_pos hc, hl]; rfl
theorem fill_ok (h : fillE M at_ s = 0) : fillX M at_ s = wrL M at_ s s.size := by
  unfold fillX; rw [if_pos (fillE_zero h)]
theorem fillX_len : (fillX M at_ s).length = M.length := by
  unfold fillX; split
  · exact wrL_len _ _ _ _
  · rfl
theorem fillX_rightP (h : RightP M) : RightP (fillX M at_ s) := by
  unfold fillX; split
  · exact wrL_right h _ _ _
  · exact h
theorem fillX_okP (h : ∀ p ∈ M, p.ok) : ∀ p ∈ fillX M at_ s, p.ok := by
  unfold fillX; split
  · exact wrL_ok h _ _ _
  · exact h
/-- a byte behind a writing -/
theorem one_wr (hr : rightB M = true) (o : Int) (ho : 0 ≤ o ∧ o ≤ 18446744073709551615) (t : ByteArray) (m : Nat) :
    loadE (wrL M at_ t m) o 1 0 = loadE M o 1 0 ∧ (¬ (at_ ≤ o ∧ o < at_ + m) → loadV (wrL M at_ t m) o 1 0 = loadV M o 1 0) ∧ (loadE M o 1 0 = 0 → (at_ ≤ o ∧ o < at_ + m) → loadV (wrL M at_ t m) o 1 0 = byteI t (o - at_).toNat) := by
  have hR := rightB_out hr
  have hw := rightB_in (wrL_right hR at_ t m)
  have e : (o + ((0 : Nat) : Int)) % 18446744073709551616 = o := by omega
  refine ⟨?_, fun hno => ?_, fun h0 hin => ?_⟩
  · rw [loadE_one hw, loadE_one hr, byteAt_wr_some hR]
  · rw [loadV_one hw, loadV_one hr, byteAt_wr hR, e]
    cases byteAt M o 0 0 with
    | none => rfl
    | some b => rw [Option.map_some, if_neg hno]
  · rw [loadE_one hr] at h0
    rw [loadV_one hw, byteAt_wr hR, e]
    cases hb : byteAt M o 0 0 with
    | none => rw [hb] at h0; cases h0
    | some b => rw [Option.map_some, if_pos hin]; rfl
/-- what was stored is loaded; the bytes at other places are as they were -/
theorem back_law (hwf : ∀ p ∈ M, p.ok) (hat : 0 ≤ at_ ∧ at_ ≤ 18446744073709551615) (hv : 0 ≤ v ∧ v ≤ 18446744073709551615) (h : loadE M at_ 8 2 = 0) :
    loadV (storeX M at_ 8 v) at_ 8 0 = v ∧ loadE (storeX M at_ 8 v) at_ 8 0 = 0 ∧ ∀ o, 0 ≤ o ∧ o ≤ 18446744073709551615 → loadE (storeX M at_ 8 v) o 1 0 = loadE M o 1 0 ∧ (¬ (at_ ≤ o ∧ o - at_ < 8) → loadV (storeX M at_ 8 v) o 1 0 = loadV M o 1 0) := by
  rw [store_ok h]
  obtain ⟨⟨_, hr⟩, hl⟩ := loadE_zero h
  have hR := rightB_out hr
  have e8 : (8 : Int).toNat = 8 := rfl
  rw [e8] at hl ⊢
  have hs := loadN_stored hR hwf (v := v) hat.1 (Nat.le_refl 8) hl 8 (Nat.le_refl 8)
  have hw := rightB_in (wrL_right hR at_ (bytesV v 8) 8)
  refine ⟨?_, ?_, fun o ho => ?_⟩
  · unfold loadV
    rw [if_pos ⟨by omega, hw⟩, e8, hs]
    show v % 256 ^ 8 = v
    have : (256 : Int) ^ 8 = 18446744073709551616 := by decide
    rw [this]; omega
  · unfold loadE
    rw [if_pos ⟨by omega, hw⟩, e8, hs]; rfl
  · obtain ⟨h1, h2, _⟩ := one_wr (at_ := at_) hr o ho (bytesV v 8) 8
    exact ⟨h1, fun hno => h2 (by omega)⟩
/-! ### which page a place is of -/
theorem guard_byte (hR : RightP M) {i : Nat} (hi : i < M.length) {r : Int} (hr : 0 ≤ r ∧ r < 256) (hwf : ∀ p ∈ M, p.ok) (perm : Int) : (byteAt M ((M[i]).at_ + r) perm 0).isSome = grantB M[i] perm := by
  have ho := (hwf _ (List.getElem_mem hi)).1
  have hm := right_mod hR hi
  rw [byteAt_page hR (by omega) (List.getElem_mem hi) (by omega)]
  cases grantB M[i] perm <;> rfl
theorem and_or_all : ∀ a ∈ List.range 8, ∀ b ∈ List.range 8, (bits .and .i64 (a : Int) (b : Int) == (b : Int)) = (bits .or .i64 (a : Int) (b : Int) == (a : Int)) := by decide +kernel
theorem and_two_all : ∀ a ∈ List.range 8, (bits .and .i64 (a : Int) 2 == 2) = ((a : Int) / 2 % 2 == 1) := by decide +kernel
theorem grant_or {p : Pg} (h : 0 ≤ p.perm ∧ p.perm ≤ 7) {q : Int} (hq : 0 ≤ q ∧ q ≤ 7) : grantB p q = (bits .or .i64 p.perm q == p.perm) := by
  obtain ⟨a, ha⟩ := Int.eq_ofNat_of_zero_le h.1
  obtain ⟨b, rfl⟩ := Int.eq_ofNat_of_zero_le hq.1
  unfold grantB
  rw [ha]
  exact and_or_all a (List.mem_range.2 (by omega)) b (List.mem_range.2 (by omega))
theorem grant_two {p : Pg} (h : 0 ≤ p.perm ∧ p.perm ≤ 7) : grantB p 2 = (p.perm / 2 % 2 == 1) := by
  obtain ⟨a, ha⟩ := Int.eq_ofNat_of_zero_le h.1
  unfold grantB
  rw [ha]
  exact and_two_all a (List.mem_range.2 (by omega))
theorem right_perm (hR : RightP M) {i : Nat} (hi : i < M.length) : 0 ≤ (M[i]).perm ∧ (M[i]).perm ≤ 7 := by
  obtain ⟨_, h1, h2, _⟩ := hR.2 i hi _ (List.getElem?_eq_getElem hi)
  exact ⟨h1, h2⟩
end
end Go.Proofs.YtajhehmkdlebbaaDoor
