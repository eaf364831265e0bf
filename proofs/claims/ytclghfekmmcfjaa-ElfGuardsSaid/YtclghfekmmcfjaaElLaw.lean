/- What memory with an image holds: plain law. -/
import Derived.Test.YtclghfekmmcfjaaElLd
import Derived.Test.YtclghfekmmcfjaaPgPl3
namespace Go.Proofs.Ytclghfekmmcfjaa
open Go.ChangeShapes Go.WideShapes Go.ChangeAt Go.RowKit Go.Deep Go.Maps Go.WideMaps
section
variable {l : List Sg}
/-- all segments may be -/
def SegsP (l : List Sg) : Prop := ∀ k, k < l.length → SegAt l k
theorem SegsP.at_ (h : SegsP l) {k : Nat} (hk : k < l.length) : SegA l[k] := (h k hk _ (List.getElem?_eq_getElem hk)).1
theorem SegsP.apart (h : SegsP l) {i : Nat} : ∀ {j : Nat}, (hij : i < j) → (hj : j < l.length) → endI (l[i]'(Nat.lt_trans hij hj)) ≤ (l[j]).at_
  | j + 1, hij, hj => by
    have h1 := (h (j + 1) hj _ (List.getElem?_eq_getElem hj)).2
    rw [behI_succ (show j < l.length by omega)] at h1
    by_cases e : i = j
    · subst e; exact h1
    · have h2 := h.apart (i := i) (j := j) (by omega) (by omega)
      have h3 := (h.at_ (show j < l.length by omega))
      have h4 : (l[j]).at_ ≤ endI l[j] := by unfold endI pagesI; have := h3.2.2.2.2.1; omega
      omega
theorem fillX_mem {M : List Pg} {at_ : Int} {s : ByteArray} {p : Pg} (h : p ∈ fillX M at_ s) : ∃ q ∈ M, q.at_ = p.at_ ∧ q.perm = p.perm := by
  unfold fillX at h
  split at h
  · unfold wrL at h
    obtain ⟨q, hq, rfl⟩ := List.mem_map.1 h
    exact ⟨q, hq, rfl, rfl⟩
  · exact ⟨p, h, rfl, rfl⟩
theorem fillX_mem' {M : List Pg} {at_ : Int} {s : ByteArray} {q : Pg} (h : q ∈ M) : ∃ p ∈ fillX M at_ s, p.at_ = q.at_ ∧ p.perm = q.perm := by
  unfold fillX
  split
  · exact ⟨wrP at_ s s.size q, List.mem_map.2 ⟨q, h, rfl⟩, rfl, rfl⟩
  · exact ⟨q, h, rfl, rfl⟩
theorem mapX_mem_iff {M : List Pg} {at_ n perm : Int} (h : mapE M at_ n perm = 0) (p : Pg) : p ∈ mapX M at_ n perm ↔ p ∈ M ∨ p ∈ newL at_ perm n.toNat := by
  obtain ⟨⟨_, hm, hn, hp, _⟩, h4, h5⟩ := mapE_zero h
  rw [mapX_zero h, (mapX_perm h4 (by omega)).mem_iff, List.mem_append]
theorem ldErr_le {k n : Nat} (hkn : k ≤ n) (h : ldErr l n = 0) : ldErr l k = 0 := by
  induction n with
  | zero => obtain rfl : k = 0 := by omega
            exact h
  | succ n ih =>
    by_cases e : k = n + 1
    · subst e; exact h
    · refine ih (by omega) ?_
      change (if ldErr l n = 0 then ldE l n else ldErr l n) = 0 at h
      split at h
      · assumption
      · rename_i hn; exact absurd h hn
theorem ldE_of {n : Nat} (h : ldErr l (n + 1) = 0) : ldE l n = 0 := by
  have h0 := ldErr_le (Nat.le_succ n) h
  change (if ldErr l n = 0 then ldE l n else ldErr l n) = 0 at h
  rw [if_pos h0] at h
  exact h
/-- whose a page is -/
theorem ldM_page (hS : SegsP l) : ∀ {k : Nat}, k ≤ l.length → ldErr l k = 0 → ∀ p ∈ ldM l k, ∃ (j : Nat) (hj : j < l.length), j < k ∧ p.perm = (l[j]).perm ∧ (l[j]).at_ ≤ p.at_ ∧ p.at_ + 256 ≤ endI l[j]
  | 0, _, _, p, hp => by cases hp
  | k + 1, hk, h, p, hp => by
    have hlt : k < l.length := hk
    have h0 := ldErr_le (Nat.le_succ k) h
    have hE := ldE_of h
    rw [ldE_at hlt] at hE
    rw [ldM_succ hlt] at hp
    obtain ⟨q, hq, e1, e2⟩ := fillX_mem hp
    rw [← e1, ← e2]
    rcases (mapX_mem_iff hE q).1 hq with hq | hq
    · obtain ⟨j, hj, hjk, h1⟩ := ldM_page hS (Nat.le_of_lt hlt) h0 q hq
      exact ⟨j, hj, by omega, h1⟩
    · obtain ⟨i, hi, rfl⟩ := newL_mem hq
      have hsz := (hS.at_ hlt).2.2.2.2.1
      refine ⟨k, hlt, by omega, rfl, ?_, ?_⟩
      · simp only [newP]; omega
      · unfold endI
        have : 0 ≤ pagesI (l[k]).size := by unfold pagesI; omega
        simp only [newP]; omega
/-- each place of a segment has a page of its perm -/
theorem ldM_cover (hS : SegsP l) : ∀ {k : Nat}, k ≤ l.length → ldErr l k = 0 → ∀ {j : Nat} (hj : j < l.length), j < k → ∀ {T : Int}, (l[j]).at_ ≤ T → T < (l[j]).at_ + (l[j]).size → ∃ p ∈ ldM l k, p.perm = (l[j]).perm ∧ p.at_ ≤ T ∧ T - p.at_ < 256
  | k + 1, hk, h, j, hj, hjk, T, h1, h2 => by
    have hlt : k < l.length := hk
    have h0 := ldErr_le (Nat.le_succ k) h
    have hE := ldE_of h
    rw [ldE_at hlt] at hE
    rw [ldM_succ hlt]
    have key : ∃ q ∈ mapX (ldM l k) (l[k]).at_ (pagesI (l[k]).size) (l[k]).perm, q.perm = (l[j]).perm ∧ q.at_ ≤ T ∧ T - q.at_ < 256 := by
      by_cases e : j = k
      · subst e
        refine ⟨newP (l[j]).at_ (l[j]).perm ((T - (l[j]).at_) / 256).toNat, (mapX_mem_iff hE _).2 (.inr ?_), rfl, ?_, ?_⟩
        · unfold newL
          refine List.mem_map.2 ⟨_, List.mem_range.2 ?_, rfl⟩
          unfold pagesI
          omega
        · simp only [newP]; omega
        · simp only [newP]; omega
      · obtain ⟨q, hq, h3⟩ := ldM_cover hS (Nat.le_of_lt hlt) h0 hj (by omega) h1 h2
        exact ⟨q, (mapX_mem_iff hE q).2 (.inl hq), h3⟩
    obtain ⟨q, hq, h3, h4, h5⟩ := key
    obtain ⟨p, hp, e1, e2⟩ := fillX_mem' (at_ := (l[k]).at_) (s := (l[k]).data) hq
    exact ⟨p, hp, e2.trans h3, by omega, by omega⟩
theorem byteAt_off {M : List Pg} {a : Int} {q : Nat} (h0 : 0 ≤ a) (h1 : a + q ≤ 18446744073709551615) (h : (byteAt M (a + q) 0 0).isSome = true) : (byteAt M a 0 q).isSome = true := by
  have e1 : (a + (q : Int)) % 18446744073709551616 = a + q := by omega
  have e0 : (a + (q : Int) + ((0 : Nat) : Int)) % 18446744073709551616 = a + q := by omega
  cases hx : idxF M (a + q) with
  | none => rw [byteAt_far e0.symm hx] at h; cases h
  | some i => rw [byteAt_some e1.symm (by omega) hx (idxF_lt hx), grant0]; rfl
/-- each byte of a segment -/
theorem ldM_byte (hS : SegsP l) (hwf : ∀ s ∈ l, s.ok) : ∀ {k : Nat}, k ≤ l.length → ldErr l k = 0 → ∀ {j : Nat} (hj : j < l.length), j < k → ∀ {T : Int}, (l[j]).at_ ≤ T → T < (l[j]).at_ + (l[j]).size →
    byteAt (ldM l k) T 0 0 = some (if T - (l[j]).at_ < ((l[j]).data.size : Int) then byteI (l[j]).data (T - (l[j]).at_).toNat else 0)
  | k + 1, hk, h, j, hj, hjk, T, h1, h2 => by
    have hlt : k < l.length := hk
    have h0 := ldErr_le (Nat.le_succ k) h
    have hE := ldE_of h
    rw [ldE_at hlt] at hE
    rw [ldM_succ hlt]
    obtain ⟨a1, a2, a3, a4, a5, a6⟩ := hS.at_ hlt
    have w1 := (hwf _ (List.getElem_mem hlt)).1
    have wj := (hwf _ (List.getElem_mem hj)).1
    obtain ⟨b1, b2, b3, b4, b5, b6⟩ := hS.at_ hj
    have hT : 0 ≤ T ∧ T ≤ 18446744073709551615 := by omega
    have hr := ldM_right l k
    have hrx : RightP (mapX (ldM l k) (l[k]).at_ (pagesI (l[k]).size) (l[k]).perm) := mapX_rightP hr
    have hf : fillE (mapX (ldM l k) (l[k]).at_ (pagesI (l[k]).size) (l[k]).perm) (l[k]).at_ (l[k]).data = 0 := by
      unfold fillE
      rw [if_pos (rightB_in hrx)]
      rw [loadN_some_iff (fun q hq => byteAt_off w1.1 (by omega) (by
        rw [(mapX_new hr hE (T := (l[k]).at_ + q) (by omega) (by omega) (by unfold pagesI; omega)).1]; rfl))]
      rfl
    rw [fill_ok hf, byteAt_wr hrx]
    have eT : (T + ((0 : Nat) : Int)) % 18446744073709551616 = T := by omega
    rw [eT]
    by_cases e : j = k
    · subst e
      rw [(mapX_new hr hE hT h1 (by unfold pagesI; omega)).1, Option.map_some]
      congr 1
      by_cases hd : T - (l[j]).at_ < ((l[j]).data.size : Int)
      · rw [if_pos hd, if_pos (by omega)]
      · rw [if_neg hd, if_neg (by omega)]
    · have hap := hS.apart (show j < k by omega) hlt
      have hend : (l[j]).at_ + (l[j]).size ≤ endI l[j] := by unfold endI pagesI; omega
      rw [mapX_old hr hE hT (by omega), ldM_byte hS hwf (Nat.le_of_lt hlt) h0 hj (by omega) h1 h2, Option.map_some, if_neg (by omega)]
/-! ### when they are laid out -/
def pagesN (l : List Sg) : Nat → Int
  | 0 => 0
  | k + 1 => pagesN l k + match l[k]? with
    | some s => pagesI s.size
    | none => 0
theorem pagesN_succ {k : Nat} (hk : k < l.length) : pagesN l (k + 1) = pagesN l k + pagesI (l[k]).size := by
  show pagesN l k + (match l[k]? with | some s => pagesI s.size | none => 0) = _
  rw [List.getElem?_eq_getElem hk]
theorem ldM_len : ∀ {k : Nat}, k ≤ l.length → ldErr l k = 0 → ((ldM l k).length : Int) = pagesN l k
  | 0, _, _ => rfl
  | k + 1, hk, h => by
    have hlt : k < l.length := hk
    have hE := ldE_of h
    rw [ldE_at hlt] at hE
    rw [ldM_succ hlt, fillX_len, mapX_lenE hE, pagesN_succ hlt, ldM_len (Nat.le_of_lt hlt) (ldErr_le (Nat.le_succ k) h)]
theorem twice_no {M : List Pg} {at_ : Int} : ∀ {n : Nat}, (∀ p ∈ M, p.at_ + 256 ≤ at_) → twice M at_ n = false
  | 0, _ => rfl
  | n + 1, h => by
    have hx : idxF M (at_ + 256 * n) = none := atI_none fun j hj => decide_eq_false (by have := h _ (List.getElem_mem hj); omega)
    simp only [twice, twice_no h, hx]
    rfl
theorem ldE_good (hS : SegsP l) {k : Nat} (hk : k < l.length) (h : ldErr l k = 0) (hp : pagesN l (k + 1) ≤ 64) : ldE l k = 0 := by
  rw [ldE_at hk]
  obtain ⟨a1, a2, a3, a4, a5, a6⟩ := hS.at_ hk
  have hpg : 1 ≤ pagesI (l[k]).size ∧ pagesI (l[k]).size ≤ 64 := by unfold pagesI; omega
  have hlen := ldM_len (Nat.le_of_lt hk) h
  rw [pagesN_succ hk] at hp
  unfold mapE
  rw [if_pos ⟨rightB_in (ldM_right l k), a1, hpg, by omega, by omega⟩]
  rw [twice_no (fun p hpm => by
    obtain ⟨j, hj, hjk, _, _, h3⟩ := ldM_page hS (Nat.le_of_lt hk) h p hpm
    have := hS.apart hjk hk
    omega)]
  rw [if_neg (by decide), if_neg (by omega)]
theorem pagesN_mono (hS : SegsP l) {k : Nat} : ∀ {n : Nat}, k ≤ n → n ≤ l.length → pagesN l k ≤ pagesN l n
  | 0, h, _ => by obtain rfl : k = 0 := by omega
                  exact Int.le_refl _
  | n + 1, h, hn => by
    by_cases e : k = n + 1
    · subst e; exact Int.le_refl _
    · have h1 := pagesN_mono hS (show k ≤ n by omega) (by omega)
      rw [pagesN_succ (show n < l.length by omega)]
      have := (hS.at_ (show n < l.length by omega)).2.2.2.2.1
      unfold pagesI
      omega
theorem ldErr_zero (hS : SegsP l) (hp : pagesN l l.length ≤ 64) : ∀ {k : Nat}, k ≤ l.length → ldErr l k = 0
  | 0, _ => rfl
  | _ + 1, hk => ldErr_good (ldErr_zero hS hp (Nat.le_of_lt hk)) (ldE_good hS hk (ldErr_zero hS hp (Nat.le_of_lt hk)) (Int.le_trans (pagesN_mono hS hk (Nat.le_refl _)) hp))
theorem imE_zero {e : Int} (h : imE e l = 0) : IMayP e l ∧ ldErr l l.length = 0 := by
  unfold imE at h
  split at h
  · rename_i hm; exact ⟨imayB_out hm, h⟩
  · cases h
theorem imE_segs {e : Int} (h : imE e l = 0) : SegsP l := fun k hk => (imE_zero h).1.2.1 k hk
/-- where it begins a page holds instructions -/
theorem imE_entry {e : Int} (h : imE e l = 0) : ∃ p ∈ ldM l l.length, p.perm % 2 = 1 ∧ p.at_ ≤ e ∧ e - p.at_ < 256 := by
  obtain ⟨s, hs, hb⟩ := List.any_eq_true.1 (imE_zero h).1.2.2
  obtain ⟨j, hj, rfl⟩ := List.mem_iff_getElem.1 hs
  obtain ⟨h1, h2, h3⟩ := of_decide_eq_true hb
  obtain ⟨p, hp, e1, e2, e3⟩ := ldM_cover (imE_segs h) (Nat.le_refl _) (imE_zero h).2 hj hj h2 h3
  exact ⟨p, hp, by rw [e1]; exact h1, e2, e3⟩
/-- no page is written and holds instructions -/
theorem imE_page {e : Int} (h : imE e l = 0) {p : Pg} (hp : p ∈ ldM l l.length) : p.perm % 4 ≠ 3 := by
  obtain ⟨j, hj, _, e1, _⟩ := ldM_page (imE_segs h) (Nat.le_refl _) (imE_zero h).2 p hp
  rw [e1]
  exact ((imE_segs h).at_ hj).2.2.2.1
theorem imE_byte {e : Int} (h : imE e l = 0) (hwf : ∀ s ∈ l, s.ok) {j : Nat} (hj : j < l.length) {k : Nat} (hk : (k : Int) < (l[j]).size) :
    loadE (ldM l l.length) ((l[j]).at_ + k) 1 0 = 0 ∧ loadV (ldM l l.length) ((l[j]).at_ + k) 1 0 = if k < (l[j]).data.size then byteI (l[j]).data k else 0 := by
  have hb := ldM_byte (imE_segs h) hwf (Nat.le_refl _) (imE_zero h).2 hj hj (T := (l[j]).at_ + k) (by omega) (by omega)
  have e1 : (l[j]).at_ + (k : Int) - (l[j]).at_ = k := by omega
  have hr := rightB_in (ldM_right l l.length)
  rw [e1] at hb
  rw [loadE_one hr, loadV_one hr, hb]
  refine ⟨rfl, ?_⟩
  by_cases hd : k < (l[j]).data.size
  · rw [if_pos hd, if_pos (by omega)]; rfl
  · rw [if_neg hd, if_neg (by omega)]; rfl
theorem imMc_mem {e : Int} {inp : ByteArray} (h : imE e l = 0) : (imMc e l inp).mem = ldM l l.length := by unfold imMc; rw [if_pos h]
end
end Go.Proofs.Ytclghfekmmcfjaa
