/- Plain law: memory with bytes written, page by page as byte by byte. -/
import Derived.Test.YtajhehmkdlebbaaDoorPgIt
import Derived.Test.YtajhehmkdlebbaaDoorPgPl
namespace Go.Proofs.YtajhehmkdlebbaaDoor
open Go.ChangeShapes Go.WideShapes Go.ChangeAt Go.RowKit Go.Deep Go.Maps Go.WideMaps
/-- a page's bytes, place a on, where the first n bytes of s lie from at_ on -/
def wrB (a : Int) (d : ByteArray) (at_ : Int) (s : ByteArray) (n : Nat) : ByteArray := ⟨(d.data.toList.mapIdx fun j b => if at_ ≤ a + j ∧ a + j < at_ + n then (s.data[(a + j - at_).toNat]?).getD 0 else b).toArray⟩
def wrP (at_ : Int) (s : ByteArray) (n : Nat) (p : Pg) : Pg := { p with data := wrB p.at_ p.data at_ s n }
def wrL (l : List Pg) (at_ : Int) (s : ByteArray) (n : Nat) : List Pg := l.map (wrP at_ s n)
/-- bytes t from place o on -/
def spl (d : ByteArray) (o : Nat) (t : List UInt8) : ByteArray := ⟨(d.data.toList.take o ++ t ++ d.data.toList.drop (o + t.length)).toArray⟩
theorem ba_size (d : ByteArray) : d.size = d.data.toList.length := by rw [Array.length_toList]; rfl
theorem wrB_size (a : Int) (d : ByteArray) (at_ : Int) (s : ByteArray) (n : Nat) : (wrB a d at_ s n).size = d.size := by
  rw [ba_size, ba_size]; simp [wrB]
theorem spl_size {d : ByteArray} {o : Nat} {t : List UInt8} (h : o + t.length ≤ d.size) : (spl d o t).size = d.size := by
  rw [ba_size] at h
  rw [ba_size, ba_size]
  simp [spl] at *
  omega
theorem wrB_at (a : Int) (d : ByteArray) (at_ : Int) (s : ByteArray) (n j : Nat) : (wrB a d at_ s n).data.toList[j]? = (d.data.toList[j]?).map fun b => if at_ ≤ a + j ∧ a + j < at_ + n then (s.data[(a + j - at_).toNat]?).getD 0 else b := by
  simp [wrB]
theorem spl_at {d : ByteArray} {o : Nat} {t : List UInt8} (h : o + t.length ≤ d.size) (j : Nat) : (spl d o t).data.toList[j]? = if o ≤ j ∧ j < o + t.length then t[j - o]? else d.data.toList[j]? := by
  rw [ba_size] at h
  have hto : (d.data.toList.take o).length = o := by rw [List.length_take]; omega
  simp only [spl]
  by_cases h1 : j < o
  · rw [if_neg (by omega), List.append_assoc, List.getElem?_append_left (by omega), List.getElem?_take, if_pos h1]
  · by_cases h2 : j < o + t.length
    · rw [if_pos ⟨by omega, h2⟩, List.getElem?_append_left (by rw [List.length_append]; omega), List.getElem?_append_right (by omega), hto]
    · rw [if_neg (by omega), List.getElem?_append_right (by rw [List.length_append]; omega), List.length_append, hto, List.getElem?_drop]
      congr 1
      omega
theorem ba_ext {d e : ByteArray} (h : ∀ j : Nat, d.data.toList[j]? = e.data.toList[j]?) : d = e := by
  have : d.data.toList = e.data.toList := List.ext_getElem? h
  cases d; cases e
  simpa using this
theorem wrB_zero (a : Int) (d : ByteArray) (at_ : Int) (s : ByteArray) : wrB a d at_ s 0 = d := by
  refine ba_ext fun j => ?_
  rw [wrB_at]
  cases h : d.data.toList[j]? with
  | none => rfl
  | some b => simp only [Option.map_some]; rw [if_neg (by omega)]
theorem wrL_zero (l : List Pg) (at_ : Int) (s : ByteArray) : wrL l at_ s 0 = l := by
  unfold wrL
  have : wrP at_ s 0 = id := by funext p; simp [wrP, wrB_zero]
  rw [this, List.map_id]
theorem wrL_len (l : List Pg) (at_ : Int) (s : ByteArray) (n : Nat) : (wrL l at_ s n).length = l.length := by simp [wrL]
theorem wrL_get (l : List Pg) (at_ : Int) (s : ByteArray) (n : Nat) {i : Nat} (h : i < (wrL l at_ s n).length) : (wrL l at_ s n)[i] = wrP at_ s n (l[i]'(by rw [wrL_len] at h; exact h)) := by simp [wrL]
theorem wrL_get? (l : List Pg) (at_ : Int) (s : ByteArray) (n i : Nat) : (wrL l at_ s n)[i]? = (l[i]?).map (wrP at_ s n) := by simp [wrL]
theorem wrL_right {l : List Pg} (h : RightP l) (at_ : Int) (s : ByteArray) (n : Nat) : RightP (wrL l at_ s n) := by
  refine ⟨by rw [wrL_len]; exact h.1, fun k hk => ?_⟩
  rw [wrL_len] at hk
  intro p hp
  rw [wrL_get?, List.getElem?_eq_getElem hk] at hp
  obtain rfl : wrP at_ s n l[k] = p := by simpa using hp
  obtain ⟨h1, h2, h3, h4, h5⟩ := h.2 k hk _ (List.getElem?_eq_getElem hk)
  refine ⟨h1, h2, h3, by simpa [wrP, wrB_size] using h4, fun q hk0 hq => ?_⟩
  rw [wrL_get?, List.getElem?_eq_getElem (show k - 1 < l.length by omega)] at hq
  obtain rfl : wrP at_ s n l[k - 1] = q := by simpa using hq
  exact h5 (l[k - 1]'(by omega)) hk0 (List.getElem?_eq_getElem _)
theorem wrL_ok {l : List Pg} (h : ∀ p ∈ l, p.ok) (at_ : Int) (s : ByteArray) (n : Nat) : ∀ p ∈ wrL l at_ s n, p.ok := by
  intro p hp
  obtain ⟨q, hq, rfl⟩ := List.mem_map.1 hp
  obtain ⟨h1, h2, h3⟩ := h q hq
  exact ⟨h1, h2, by simpa [wrP, wrB_size] using h3⟩
theorem wrL_idx (l : List Pg) (at_ : Int) (s : ByteArray) (n : Nat) (T : Int) : idxF (wrL l at_ s n) T = idxF l T := by
  unfold idxF wrL
  rw [List.findIdx?_map]
  rfl
theorem right_apart {l : List Pg} (h : RightP l) {i j : Nat} (hi : i < l.length) (hj : j < l.length) (hne : i ≠ j) : (l[i]).at_ + 256 ≤ (l[j]).at_ ∨ (l[j]).at_ + 256 ≤ (l[i]).at_ := by
  have h1 := right_mod h hi
  have h2 := right_mod h hj
  rcases Nat.lt_or_gt_of_ne hne with h3 | h3
  · have := right_lt h h3 hj; omega
  · have := right_lt h h3 hi; omega
/-- the bytes from n up to n' written into the page that has them all -/
theorem wrL_spl {l : List Pg} (h : RightP l) {i : Nat} (hi : i < l.length) {at_ : Int} {s : ByteArray} {n n' o : Nat} (hn : n ≤ n') (hs : n' ≤ s.size) (h0 : (l[i]).at_ + o = at_ + n) (h1 : at_ + n' ≤ (l[i]).at_ + 256) :
    (wrL l at_ s n).modify i (fun p => { p with data := spl p.data o ((s.data.toList.drop n).take (n' - n)) }) = wrL l at_ s n' := by
  have hsz := right_size h hi
  have hst : s.data.toList.length = s.size := (ba_size s).symm
  have htl : ((s.data.toList.drop n).take (n' - n)).length = n' - n := by rw [List.length_take, List.length_drop, hst]; omega
  refine List.ext_getElem? fun j => ?_
  rw [List.getElem?_modify, wrL_get?, wrL_get?, Option.map_eq_map]
  by_cases hj : j < l.length
  · rw [List.getElem?_eq_getElem hj]
    by_cases hij : i = j
    · subst hij
      simp only [if_true, Option.map_some, Option.some.injEq, wrP, Pg.mk.injEq, true_and]
      refine ba_ext fun q => ?_
      rw [spl_at (by rw [wrB_size, hsz, htl]; omega), wrB_at, wrB_at, htl]
      cases hq : (l[i]).data.data.toList[q]? with
      | none =>
        have : (l[i]).data.data.toList.length ≤ q := List.getElem?_eq_none_iff.1 hq
        rw [← ba_size, hsz] at this
        rw [if_neg (by omega)]; rfl
      | some b =>
        simp only [Option.map_some]
        by_cases hin : o ≤ q ∧ q < o + (n' - n)
        · rw [if_pos hin, if_pos (by omega), List.getElem?_take, if_pos (by omega), List.getElem?_drop]
          have e1 : ((l[i]).at_ + (q : Int) - at_).toNat = n + (q - o) := by omega
          rw [e1]
          have hlt : n + (q - o) < s.data.toList.length := by rw [hst]; omega
          rw [List.getElem?_eq_getElem hlt]
          have : s.data[n + (q - o)]? = some (s.data.toList[n + (q - o)]) := by
            rw [← Array.getElem?_toList, List.getElem?_eq_getElem hlt]
          rw [this]; rfl
        · rw [if_neg hin]
          congr 1
          by_cases hb : at_ ≤ (l[i]).at_ + (q : Int) ∧ (l[i]).at_ + (q : Int) < at_ + n
          · rw [if_pos hb, if_pos (by omega)]
          · rw [if_neg hb, if_neg (by omega)]
    · simp only [if_neg hij, Option.map_some, Option.some.injEq, wrP, Pg.mk.injEq, true_and]
      have hap := right_apart h hi hj hij
      have hszj := right_size h hj
      refine ba_ext fun q => ?_
      rw [wrB_at, wrB_at]
      cases hq : (l[j]).data.data.toList[q]? with
      | none => rfl
      | some b =>
        have : q < (l[j]).data.data.toList.length := (List.getElem?_eq_some_iff.1 hq).1
        rw [← ba_size, hszj] at this
        simp only [Option.map_some]
        congr 1
        by_cases hb : at_ ≤ (l[j]).at_ + (q : Int) ∧ (l[j]).at_ + (q : Int) < at_ + n
        · rw [if_pos hb, if_pos (by omega)]
        · rw [if_neg hb, if_neg (by omega)]
  · rw [List.getElem?_eq_none (by omega)]; simp
/-! ### page by page -/
def setStep (l : List Pg) (at_ : Int) (s : ByteArray) (M : List Pg) (k x : Nat) : List Pg :=
  if 0 < k ∧ toI at_ x % 256 ≠ 0 then M
  else M.modify (pgI l at_ x).toNat (fun p => { p with data := spl p.data (toI at_ x % 256).toNat ((s.data.toList.drop k).take (256 - (toI at_ x % 256).toNat)) })
def setF (l : List Pg) (at_ : Int) (s : ByteArray) (pre : List Nat) : List Pg × Nat := pre.foldl (fun M x => (setStep l at_ s M.1 M.2 x, M.2 + 1)) (l, 0)
theorem setF_snoc (l : List Pg) (at_ : Int) (s : ByteArray) (pre : List Nat) (x : Nat) : setF l at_ s (pre ++ [x]) = (setStep l at_ s (setF l at_ s pre).1 (setF l at_ s pre).2 x, (setF l at_ s pre).2 + 1) := by
  simp [setF, List.foldl_append]
theorem setF_fold (l : List Pg) (at_ : Int) (s : ByteArray) : ∀ (pre : List Nat) (M : List Pg × Nat), (pre.foldl (fun M x => (setStep l at_ s M.1 M.2 x, M.2 + 1)) M).2 = M.2 + pre.length
  | [], M => rfl
  | k :: pre, M => by rw [List.foldl_cons, setF_fold l at_ s pre, List.length_cons]; simp only; omega
theorem setF_len (l : List Pg) (at_ : Int) (s : ByteArray) (pre : List Nat) : (setF l at_ s pre).2 = pre.length := by
  unfold setF; rw [setF_fold]; exact Nat.zero_add _
def Sz (n : Nat) (M : List Pg) : Prop := M.length = n ∧ ∀ p ∈ M, p.data.size = 256 ∧ p.ok
theorem setStep_sz {n : Nat} {l : List Pg} {at_ : Int} {s : ByteArray} {M : List Pg} {k x : Nat} (h : Sz n M) : Sz n (setStep l at_ s M k x) := by
  unfold setStep
  split
  · exact h
  · refine ⟨by simpa using h.1, fun p hp => ?_⟩
    obtain ⟨j, hj, rfl⟩ := List.getElem_of_mem hp
    have hj' : j < M.length := by simpa using hj
    obtain ⟨h1, h2⟩ := h.2 _ (List.getElem_mem hj')
    rw [List.getElem_modify]
    split
    · have hs : (spl (M[j]).data (toI at_ x % 256).toNat ((s.data.toList.drop k).take (256 - (toI at_ x % 256).toNat))).size = 256 := by
        rw [spl_size ?_, h1]
        rw [List.length_take, List.length_drop, h1]; omega
      exact ⟨hs, h2.1, h2.2.1, by simp only [hs]; omega⟩
    · exact ⟨h1, h2⟩
theorem setF_sz {n : Nat} {l : List Pg} (at_ : Int) (s : ByteArray) (h : Sz n l) (pre : List Nat) : Sz n (setF l at_ s pre).1 := by
  unfold setF
  have : ∀ (pre : List Nat) (M : List Pg × Nat), Sz n M.1 → Sz n (pre.foldl (fun M x => (setStep l at_ s M.1 M.2 x, M.2 + 1)) M).1 := by
    intro pre
    induction pre with
    | nil => exact fun _ h => h
    | cons x pre ih => exact fun M h => ih _ (setStep_sz h)
  exact this pre _ h
theorem right_sz {l : List Pg} (h : RightP l) (hwf : ∀ p ∈ l, p.ok) : Sz l.length l :=
  ⟨rfl, fun p hp => by obtain ⟨j, hj, rfl⟩ := List.getElem_of_mem hp; exact ⟨right_size h hj, hwf _ hp⟩⟩
theorem pg_hit {l : List Pg} (h : RightP l) (hwf : ∀ p ∈ l, p.ok) {at_ perm : Int} {k : Nat} (hk : (byteAt l at_ perm k).isSome = true) (hat : 0 ≤ at_) (hkl : k ≤ 140737488351232) :
    ∃ i, ∃ hi : i < l.length, pgI l at_ k = i ∧ toI at_ k = at_ + k ∧ idxF l (at_ + k) = some i ∧ (l[i]).at_ = (at_ + k) - (at_ + k) % 256 ∧ grantB l[i] perm = true ∧ at_ + k ≤ 18446744073709551615 := by
  have hix := ix_eq h (toI at_ k)
  by_cases hlow : toI at_ k < at_
  · rw [byteAt_low (T := toI at_ k) rfl hlow] at hk; cases hk
  · cases hx : idxF l (toI at_ k) with
    | none => rw [byteAt_far (T := toI at_ k) rfl hx] at hk; cases hk
    | some i =>
      have hi := idxF_lt hx
      have hh := idxF_has hx hi
      have hm := right_mod h hi
      have ho := (hwf _ (List.getElem_mem hi)).1
      have hT : toI at_ k = at_ + k := by
        unfold toI at hlow ⊢; omega
      rw [byteAt_some (T := toI at_ k) rfl (by omega) hx hi] at hk
      refine ⟨i, hi, ?_, hT, hT ▸ hx, by omega, ?_, by unfold toI at hT; omega⟩
      · unfold pgI ixI; rw [if_neg hlow, hix, hx]; rfl
      · cases hg : grantB l[i] perm
        · rw [hg] at hk; cases hk
        · rfl
theorem loadN_byte {l : List Pg} {at_ perm : Int} : ∀ {n : Nat}, (loadN l at_ perm n).isSome = true → ∀ k, k < n → (byteAt l at_ perm k).isSome = true
  | 0, _, k, hk => absurd hk (Nat.not_lt_zero _)
  | n + 1, h, k, hk => by
    simp only [loadN, Option.isSome_bind, Option.any_eq_true, Option.isSome_map] at h
    obtain ⟨u, hu, hb⟩ := h
    by_cases e : k = n
    · subst e; exact hb
    · exact loadN_byte (by rw [hu]; rfl) k (by omega)
def setE (at_ : Int) (N : Nat) : Nat → Nat
  | 0 => 0
  | k + 1 => min N (k + 256 - ((at_ + k) % 256).toNat)
theorem setF_range {l : List Pg} (h : RightP l) (hwf : ∀ p ∈ l, p.ok) {at_ perm : Int} {s : ByteArray} (hat : 0 ≤ at_) (hs : s.size ≤ 140737488351232) (hok : (loadN l at_ perm s.size).isSome = true) :
    ∀ k, k ≤ s.size → (setF l at_ s (List.range k)).1 = wrL l at_ s (setE at_ s.size k)
  | 0, _ => by simp [setF, setE, wrL_zero]
  | k + 1, hk => by
    have ih := setF_range h hwf hat hs hok k (by omega)
    obtain ⟨i, hi, h1, h2, _, h4, _, _⟩ := pg_hit h hwf (loadN_byte hok k (by omega)) hat (by omega)
    rw [List.range_succ, setF_snoc, setF_len, List.length_range, ih]
    show setStep l at_ s _ k k = _
    unfold setStep
    rw [h1, h2]
    cases k with
    | zero =>
      rw [if_neg (by simp)]
      simp only [setE, Int.toNat_natCast, Int.natCast_zero, Int.add_zero] at *
      have := wrL_spl h hi (at_ := at_) (s := s) (n := 0) (n' := min s.size (0 + 256 - (at_ % 256).toNat)) (o := (at_ % 256).toNat) (Nat.zero_le _) (by omega) (by omega) (by omega)
      rw [← this]
      congr 1
      funext p
      have e : List.take (256 - (at_ % 256).toNat) (List.drop 0 s.data.toList) = List.take (min s.size (0 + 256 - (at_ % 256).toNat) - 0) (List.drop 0 s.data.toList) := by
        rw [List.take_eq_take_iff, List.length_drop, ← ba_size]; omega
      rw [e]
    | succ k =>
      by_cases hz : (at_ + ((k + 1 : Nat) : Int)) % 256 = 0
      · rw [if_neg (fun hc => hc.2 hz)]
        have e0 : setE at_ s.size (k + 1) = k + 1 := by simp only [setE]; omega
        rw [e0, hz]
        simp only [setE, Int.toNat_natCast]
        have := wrL_spl h hi (at_ := at_) (s := s) (n := k + 1) (n' := min s.size (k + 1 + 256 - ((at_ + ((k + 1 : Nat) : Int)) % 256).toNat)) (o := 0) (by omega) (by omega) (by omega) (by omega)
        rw [← this]
        congr 1
        funext p
        have e : List.take (256 - (0 : Int).toNat) (List.drop (k + 1) s.data.toList) = List.take (min s.size (k + 1 + 256 - ((at_ + ((k + 1 : Nat) : Int)) % 256).toNat) - (k + 1)) (List.drop (k + 1) s.data.toList) := by
          rw [List.take_eq_take_iff, List.length_drop, ← ba_size]; omega
        rw [e]; rfl
      · rw [if_pos ⟨Nat.succ_pos _, hz⟩]
        congr 1
        simp only [setE]
        omega
theorem setF_all {l : List Pg} (h : RightP l) (hwf : ∀ p ∈ l, p.ok) {at_ perm : Int} {s : ByteArray} (hat : 0 ≤ at_) (hs : s.size ≤ 140737488351232) (hok : (loadN l at_ perm s.size).isSome = true) :
    (setF l at_ s (List.range s.size)).1 = wrL l at_ s s.size := by
  rw [setF_range h hwf hat hs hok _ (Nat.le_refl _)]
  congr 1
  cases hn : s.size with
  | zero => rfl
  | succ k => simp only [setE]; omega
end Go.Proofs.YtajhehmkdlebbaaDoor
