/- Plain law: memory with bytes written, page by page as byte by byte. slices.Clone at memory: a copy of the call's own. Bytes of the call's own: '[]byte(s)', 'copy(b[o:], t)', 'string(b)'. -/
import Derived.Test.YtajhehmkdlebbaaDoorQPgIt
import Derived.Test.YtajhehmkdlebbaaDoorQPgLd
import Derived.Lib.LazyBuf
import Derived.Laws.IdiomStrings
import Derived.Laws.IdiomCopy
namespace Go.Proofs.YtajhehmkdlebbaaDoor
open Go.ChangeShapes Go.WideShapes Go.ChangeAt Go.RowKit Go.Deep Go.Maps Go.WideMaps
/-- a page's bytes, place a on, where the first n bytes of s lie from at_ on -/
def wrB (a : Int) (d : ByteArray) (at_ : Int) (s : ByteArray) (n : Nat) : ByteArray := ⟨(d.data.toList.mapIdx fun j b => if at_ ≤ a + j ∧ a + j < at_ + n then (s.data[(a + j - at_).toNat]?).getD 0 else b).toArray⟩
def wrP (at_ : Int) (s : ByteArray) (n : Nat) (p : Pg) : Pg := { p with data := wrB p.at_ p.data at_ s n }
def wrL (l : List Pg) (at_ : Int) (s : ByteArray) (n : Nat) : List Pg := l.map (wrP at_ s n)
/-- bytes t from place o on -/
def spl (d : ByteArray) (o : Nat) (t : List UInt8) : ByteArray := ⟨(d.data.toList.take o ++ t ++ d.data.toList.drop (o + t.length)).toArray⟩
theorem ba_size (d : ByteArray) : d.size = d.data.toList.length := by rw [Array.length_toList]; rfl
theorem wrB_size (a : Int) (d : ByteArray) (at_ : Int) (s : ByteArray) (n : Nat) : (wrB a d at_ s n).size = d.size := by
  rw [ba_size, ba_size]; simp [wrB]
theorem spl_size {d : ByteArray} {o : Nat} {t : List UInt8} (h : o + t.length ≤ d.size) : (spl d o t).size = d.size := by
  rw [ba_size] at h
  rw [ba_size, ba_size]
  simp [spl] at *
  omega
theorem wrB_at (a : Int) (d : ByteArray) (at_ : Int) (s : ByteArray) (n j : Nat) : (wrB a d at_ s n).data.toList[j]? = (d.data.toList[j]?).map fun b => if at_ ≤ a + j ∧ a + j < at_ + n then (s.data[(a + j - at_).toNat]?).getD 0 else b := by
  simp [wrB]
theorem spl_at {d : ByteArray} {o : Nat} {t : List UInt8} (h : o + t.length ≤ d.size) (j : Nat) : (spl d o t).data.toList[j]? = if o ≤ j ∧ j < o + t.length then t[j - o]? else d.data.toList[j]? := by
  rw [ba_size] at h
  have hto : (d.data.toList.take o).length = o := by rw [List.length_take]; omega
  simp only [spl]
  by_cases h1 : j < o
  · rw [if_neg (by omega), List.append_assoc, List.getElem?_append_left (by omega), List.getElem?_take, if_pos h1]
  · by_cases h2 : j < o + t.length
    · rw [if_pos ⟨by omega, h2⟩, List.getElem?_append_left (by rw [List.length_append]; omega), List.getElem?_append_right (by omega), hto]
    · rw [if_neg (by omega), List.getElem?_append_right (by rw [List.length_append]; omega), List.length_append, hto, List.getElem?_drop]
      congr 1
      omega
theorem ba_ext {d e : ByteArray} (h : ∀ j : Nat, d.data.toList[j]? = e.data.toList[j]?) : d = e := by
  have : d.data.toList = e.data.toList := List.ext_getElem? h
  cases d; cases e
  simpa using this
theorem wrB_zero (a : Int) (d : ByteArray) (at_ : Int) (s : ByteArray) : wrB a d at_ s 0 = d := by
  refine ba_ext fun j => ?_
  rw [wrB_at]
  cases h : d.data.toList[j]? with
  | none => rfl
  | some b => simp only [Option.map_some]; rw [if_neg (by omega)]
theorem wrL_zero (l : List Pg) (at_ : Int) (s : ByteArray) : wrL l at_ s 0 = l := by
  unfold wrL
  have : wrP at_ s 0 = id := by funext p; simp [wrP, wrB_zero]
  rw [this, List.map_id]
theorem wrL_len (l : List Pg) (at_ : Int) (s : ByteArray) (n : Nat) : (wrL l at_ s n).length = l.length := by simp [wrL]
theorem wrL_get (l : List Pg) (at_ : Int) (s : ByteArray) (n : Nat) {i : Nat} (h : i < (wrL l at_ s n).length) : (wrL l at_ s n)[i] = wrP at_ s n (l[i]'(by rw [wrL_len] at h; exact h)) := by simp [wrL]
theorem wrL_get? (l : List Pg) (at_ : Int) (s : ByteArray) (n i : Nat) : (wrL l at_ s n)[i]? = (l[i]?).map (wrP at_ s n) := by simp [wrL]
theorem wrL_right {l : List Pg} (h : RightP l) (at_ : Int) (s : ByteArray) (n : Nat) : RightP (wrL l at_ s n) := by
  refine ⟨by rw [wrL_len]; exact h.1, fun k hk => ?_⟩
  rw [wrL_len] at hk
  intro p hp
  rw [wrL_get?, List.getElem?_eq_getElem hk] at hp
  obtain rfl : wrP at_ s n l[k] = p := by simpa using hp
  obtain ⟨h1, h2, h3, h4, h5⟩ := h.2 k hk _ (List.getElem?_eq_getElem hk)
  refine ⟨h1, h2, h3, by simpa [wrP, wrB_size] using h4, fun q hk0 hq => ?_⟩
  rw [wrL_get?, List.getElem?_eq_getElem (show k - 1 < l.length by omega)] at hq
  obtain rfl : wrP at_ s n l[k - 1] = q := by simpa using hq
  exact h5 (l[k - 1]'(by omega)) hk0 (List.getElem?_eq_getElem _)
theorem wrL_ok {l : List Pg} (h : ∀ p ∈ l, p.ok) (at_ : Int) (s : ByteArray) (n : Nat) : ∀ p ∈ wrL l at_ s n, p.ok := by
  intro p hp
  obtain ⟨q, hq, rfl⟩ := List.mem_map.1 hp
  obtain ⟨h1, h2, h3⟩ := h q hq
  exact ⟨h1, h2, by simpa [wrP, wrB_size] using h3⟩
theorem wrL_idx (l : List Pg) (at_ : Int) (s : ByteArray) (n : Nat) (T : Int) : idxF (wrL l at_ s n) T = idxF l T := by
  unfold idxF wrL
  rw [List.findIdx?_map]
  rfl
theorem right_apart {l : List Pg} (h : RightP l) {i j : Nat} (hi : i < l.length) (hj : j < l.length) (hne : i ≠ j) : (l[i]).at_ + 256 ≤ (l[j]).at_ ∨ (l[j]).at_ + 256 ≤ (l[i]).at_ := by
  have h1 := right_mod h hi
  have h2 := right_mod h hj
  rcases Nat.lt_or_gt_of_ne hne with h3 | h3
  · have := right_lt h h3 hj; omega
  · have := right_lt h h3 hi; omega
/-- the bytes from n up to n' written into the page that has them all -/
theorem wrL_spl {l : List Pg} (h : RightP l) {i : Nat} (hi : i < l.length) {at_ : Int} {s : ByteArray} {n n' o : Nat} (hn : n ≤ n') (hs : n' ≤ s.size) (h0 : (l[i]).at_ + o = at_ + n) (h1 : at_ + n' ≤ (l[i]).at_ + 256) :
    (wrL l at_ s n).modify i (fun p => { p with data := spl p.data o ((s.data.toList.drop n).take (n' - n)) }) = wrL l at_ s n' := by
  have hsz := right_size h hi
  have hst : s.data.toList.length = s.size := (ba_size s).symm
  have htl : ((s.data.toList.drop n).take (n' - n)).length = n' - n := by rw [List.length_take, List.length_drop, hst]; omega
  refine List.ext_getElem? fun j => ?_
  rw [List.getElem?_modify, wrL_get?, wrL_get?, Option.map_eq_map]
  by_cases hj : j < l.length
  · rw [List.getElem?_eq_getElem hj]
    by_cases hij : i = j
    · subst hij
      simp only [if_true, Option.map_some, Option.some.injEq, wrP, Pg.mk.injEq, true_and]
      refine ba_ext fun q => ?_
      rw [spl_at (by rw [wrB_size, hsz, htl]; omega), wrB_at, wrB_at, htl]
      cases hq : (l[i]).data.data.toList[q]? with
      | none =>
        have : (l[i]).data.data.toList.length ≤ q := List.getElem?_eq_none_iff.1 hq
        rw [← ba_size, hsz] at this
        rw [if_neg (by omega)]; rfl
      | some b =>
        simp only [Option.map_some]
        by_cases hin : o ≤ q ∧ q < o + (n' - n)
        · rw [if_pos hin, if_pos (by omega), List.getElem?_take, if_pos (by omega), List.getElem?_drop]
          have e1 : ((l[i]).at_ + (q : Int) - at_).toNat = n + (q - o) := by omega
          rw [e1]
          have hlt : n + (q - o) < s.data.toList.length := by rw [hst]; omega
          rw [List.getElem?_eq_getElem hlt]
          have : s.data[n + (q - o)]? = some (s.data.toList[n + (q - o)]) := by
            rw [← Array.getElem?_toList, List.getElem?_eq_getElem hlt]
          rw [this]; rfl
        · rw [if_neg hin]
          congr 1
          by_cases hb : at_ ≤ (l[i]).at_ + (q : Int) ∧ (l[i]).at_ + (q : Int) < at_ + n
          · rw [if_pos hb, if_pos (by omega)]
          · rw [if_neg hb, if_neg (by omega)]
    · simp only [if_neg hij, Option.map_some, Option.some.injEq, wrP, Pg.mk.injEq, true_and]
      have hap := right_apart h hi hj hij
      have hszj := right_size h hj
      refine ba_ext fun q => ?_
      rw [wrB_at, wrB_at]
      cases hq : (l[j]).data.data.toList[q]? with
      | none => rfl
      | some b =>
        have : q < (l[j]).data.data.toList.length := (List.getElem?_eq_some_iff.1 hq).1
        rw [← ba_size, hszj] at this
        simp only [Option.map_some]
        congr 1
        by_cases hb : at_ ≤ (l[j]).at_ + (q : Int) ∧ (l[j]).at_ + (q : Int) < at_ + n
        · rw [if_pos hb, if_pos (by omega)]
        · rw [if_neg hb, if_neg (by omega)]
  · rw [List.getElem?_eq_none (by omega)]; simp
/-! ### page by page -/
def setStep (l : List Pg) (at_ : Int) (s : ByteArray) (M : List Pg) (k x : Nat) : List Pg :=
  if 0 < k ∧ toI at_ x % 256 ≠ 0 then M
  else M.modify (pgI l at_ x).toNat (fun p => { p with data := spl p.data (toI at_ x % 256).toNat ((s.data.toList.drop k).take (256 - (toI at_ x % 256).toNat)) })
def setF (l : List Pg) (at_ : Int) (s : ByteArray) (pre : List Nat) : List Pg × Nat := pre.foldl (fun M x => (setStep l at_ s M.1 M.2 x, M.2 + 1)) (l, 0)
theorem setF_snoc (l : List Pg) (at_ : Int) (s : ByteArray) (pre : List Nat) (x : Nat) : setF l at_ s (pre ++ [x]) = (setStep l at_ s (setF l at_ s pre).1 (setF l at_ s pre).2 x, (setF l at_ s pre).2 + 1) := by
  simp [setF, List.foldl_append]
theorem setF_fold (l : List Pg) (at_ : Int) (s : ByteArray) : ∀ (pre : List Nat) (M : List Pg × Nat), (pre.foldl (fun M x => (setStep l at_ s M.1 M.2 x, M.2 + 1)) M).2 = M.2 + pre.length
  | [], M => rfl
  | k :: pre, M => by rw [List.foldl_cons, setF_fold l at_ s pre, List.length_cons]; simp only; omega
theorem setF_len (l : List Pg) (at_ : Int) (s : ByteArray) (pre : List Nat) : (setF l at_ s pre).2 = pre.length := by
  unfold setF; rw [setF_fold]; exact Nat.zero_add _
def Sz (n : Nat) (M : List Pg) : Prop := M.length = n ∧ ∀ p ∈ M, p.data.size = 256 ∧ p.ok
theorem setStep_sz {n : Nat} {l : List Pg} {at_ : Int} {s : ByteArray} {M : List Pg} {k x : Nat} (h : Sz n M) : Sz n (setStep l at_ s M k x) := by
  unfold setStep
  split
  · exact h
  · refine ⟨by simpa using h.1, fun p hp => ?_⟩
    obtain ⟨j, hj, rfl⟩ := List.getElem_of_mem hp
    have hj' : j < M.length := by simpa using hj
    obtain ⟨h1, h2⟩ := h.2 _ (List.getElem_mem hj')
    rw [List.getElem_modify]
    split
    · have hs : (spl (M[j]).data (toI at_ x % 256).toNat ((s.data.toList.drop k).take (256 - (toI at_ x % 256).toNat))).size = 256 := by
        rw [spl_size ?_, h1]
        rw [List.length_take, List.length_drop, h1]; omega
      exact ⟨hs, h2.1, h2.2.1, by simp only [hs]; omega⟩
    · exact ⟨h1, h2⟩
theorem setF_sz {n : Nat} {l : List Pg} (at_ : Int) (s : ByteArray) (h : Sz n l) (pre : List Nat) : Sz n (setF l at_ s pre).1 := by
  unfold setF
  have : ∀ (pre : List Nat) (M : List Pg × Nat), Sz n M.1 → Sz n (pre.foldl (fun M x => (setStep l at_ s M.1 M.2 x, M.2 + 1)) M).1 := by
    intro pre
    induction pre with
    | nil => exact fun _ h => h
    | cons x pre ih => exact fun M h => ih _ (setStep_sz h)
  exact this pre _ h
theorem right_sz {l : List Pg} (h : RightP l) (hwf : ∀ p ∈ l, p.ok) : Sz l.length l :=
  ⟨rfl, fun p hp => by obtain ⟨j, hj, rfl⟩ := List.getElem_of_mem hp; exact ⟨right_size h hj, hwf _ hp⟩⟩
theorem pg_hit {l : List Pg} (h : RightP l) (hwf : ∀ p ∈ l, p.ok) {at_ perm : Int} {k : Nat} (hk : (byteAt l at_ perm k).isSome = true) (hat : 0 ≤ at_) (hkl : k ≤ 140737488351232) :
    ∃ i, ∃ hi : i < l.length, pgI l at_ k = i ∧ toI at_ k = at_ + k ∧ idxF l (at_ + k) = some i ∧ (l[i]).at_ = (at_ + k) - (at_ + k) % 256 ∧ grantB l[i] perm = true ∧ at_ + k ≤ 18446744073709551615 := by
  have hix := ix_eq h (toI at_ k)
  by_cases hlow : toI at_ k < at_
  · rw [byteAt_low (T := toI at_ k) rfl hlow] at hk; cases hk
  · cases hx : idxF l (toI at_ k) with
    | none => rw [byteAt_far (T := toI at_ k) rfl hx] at hk; cases hk
    | some i =>
      have hi := idxF_lt hx
      have hh := idxF_has hx hi
      have hm := right_mod h hi
      have ho := (hwf _ (List.getElem_mem hi)).1
      have hT : toI at_ k = at_ + k := by
        unfold toI at hlow ⊢; omega
      rw [byteAt_some (T := toI at_ k) rfl (by omega) hx hi] at hk
      refine ⟨i, hi, ?_, hT, hT ▸ hx, by omega, ?_, by unfold toI at hT; omega⟩
      · unfold pgI ixI; rw [if_neg hlow, hix, hx]; rfl
      · cases hg : grantB l[i] perm
        · rw [hg] at hk; cases hk
        · rfl
theorem loadN_byte {l : List Pg} {at_ perm : Int} : ∀ {n : Nat}, (loadN l at_ perm n).isSome = true → ∀ k, k < n → (byteAt l at_ perm k).isSome = true
  | 0, _, k, hk => absurd hk (Nat.not_lt_zero _)
  | n + 1, h, k, hk => by
    simp only [loadN, Option.isSome_bind, Option.any_eq_true, Option.isSome_map] at h
    obtain ⟨u, hu, hb⟩ := h
    by_cases e : k = n
    · subst e; exact hb
    · exact loadN_byte (by rw [hu]; rfl) k (by omega)
def setE (at_ : Int) (N : Nat) : Nat → Nat
  | 0 => 0
  | k + 1 => min N (k + 256 - ((at_ + k) % 256).toNat)
theorem setF_range {l : List Pg} (h : RightP l) (hwf : ∀ p ∈ l, p.ok) {at_ perm : Int} {s : ByteArray} (hat : 0 ≤ at_) (hs : s.size ≤ 140737488351232) (hok : (loadN l at_ perm s.size).isSome = true) :
    ∀ k, k ≤ s.size → (setF l at_ s (List.range k)).1 = wrL l at_ s (setE at_ s.size k)
  | 0, _ => by simp [setF, setE, wrL_zero]
  | k + 1, hk => by
    have ih := setF_range h hwf hat hs hok k (by omega)
    obtain ⟨i, hi, h1, h2, _, h4, _, _⟩ := pg_hit h hwf (loadN_byte hok k (by omega)) hat (by omega)
    rw [List.range_succ, setF_snoc, setF_len, List.length_range, ih]
    show setStep l at_ s _ k k = _
    unfold setStep
    rw [h1, h2]
    cases k with
    | zero =>
      rw [if_neg (by simp)]
      simp only [setE, Int.toNat_natCast, Int.natCast_zero, Int.add_zero] at *
      have := wrL_spl h hi (at_ := at_) (s := s) (n := 0) (n' := min s.size (0 + 256 - (at_ % 256).toNat)) (o := (at_ % 256).toNat) (Nat.zero_le _) (by omega) (by omega) (by omega)
      rw [← this]
      congr 1
      funext p
      have e : List.take (256 - (at_ % 256).toNat) (List.drop 0 s.data.toList) = List.take (min s.size (0 + 256 - (at_ % 256).toNat) - 0) (List.drop 0 s.data.toList) := by
        rw [List.take_eq_take_iff, List.length_drop, ← ba_size]; omega
      rw [e]
    | succ k =>
      by_cases hz : (at_ + ((k + 1 : Nat) : Int)) % 256 = 0
      · rw [if_neg (fun hc => hc.2 hz)]
        have e0 : setE at_ s.size (k + 1) = k + 1 := by simp only [setE]; omega
        rw [e0, hz]
        simp only [setE, Int.toNat_natCast]
        have := wrL_spl h hi (at_ := at_) (s := s) (n := k + 1) (n' := min s.size (k + 1 + 256 - ((at_ + ((k + 1 : Nat) : Int)) % 256).toNat)) (o := 0) (by omega) (by omega) (by omega) (by omega)
        rw [← this]
        congr 1
        funext p
        have e : List.take (256 - (0 : Int).toNat) (List.drop (k + 1) s.data.toList) = List.take (min s.size (k + 1 + 256 - ((at_ + ((k + 1 : Nat) : Int)) % 256).toNat) - (k + 1)) (List.drop (k + 1) s.data.toList) := by
          rw [List.take_eq_take_iff, List.length_drop, ← ba_size]; omega
        rw [e]; rfl
      · rw [if_pos ⟨Nat.succ_pos _, hz⟩]
        congr 1
        simp only [setE]
        omega
theorem setF_all {l : List Pg} (h : RightP l) (hwf : ∀ p ∈ l, p.ok) {at_ perm : Int} {s : ByteArray} (hat : 0 ≤ at_) (hs : s.size ≤ 140737488351232) (hok : (loadN l at_ perm s.size).isSome = true) :
    (setF l at_ s (List.range s.size)).1 = wrL l at_ s s.size := by
  rw [setF_range h hwf hat hs hok _ (Nat.le_refl _)]
  congr 1
  cases hn : s.size with
  | zero => rfl
  | succ k => simp only [setE]; omega
end Go.Proofs.YtajhehmkdlebbaaDoor
namespace Go.Proofs.YtajhehmkdlebbaaDoor
open Go.ChangeShapes Go.WideShapes Go.ChangeAt Go.RowKit Go.Deep Go.Maps Go.WideMaps
set_option maxRecDepth 100000
/-- memory as a slice value: where its pages lie -/
def MemV (w : World) (v : Value) (L : List Pg) : Prop := ∃ A cap, v = .slice A L.length cap ∧ Mem w w.heap.size A cap L ∧ (A = none → cap = 0)
theorem pgCells_len (p : Pg) : p.cells.length = 3 := rfl
/-- .. a row of the call's own -/
def OwnV (w : World) (base : Nat) (v : Value) (L : List Pg) : Prop := w.ownsRow base 41 3 v L.length (L.flatMap Pg.cells)
theorem own_nil_cap {w : World} {base : Nat} {e : TypeId} {size n : Nat} {v : Value} {xs : List Value} (h : w.ownsRow base e size v n xs) : ∀ {A cap}, v = .slice A n cap → A = none → cap = 0 := by
  rintro A cap rfl rfl
  obtain ⟨_, ⟨e, rfl⟩ | ⟨g, c, cur, e, _⟩⟩ := h
  · cases e; rfl
  · cases e
theorem OwnV.mem {w : World} {base : Nat} {v : Value} {L : List Pg} (h : OwnV w base v L) : MemV w v L := by
  obtain ⟨S, cap, rfl, hin⟩ := Sl.of_own pgCells_len h rfl
  exact ⟨S, cap, rfl, hin, own_nil_cap h rfl⟩
theorem clone_any {A : Option Addr} {cap : Nat} {L : List Pg} {w : World} {B : Nat} (hL : Mem w B A cap L) (h0 : A = none → cap = 0) (hlen : L.length ≤ 64) :
    Calls Tryd.prog 97 #[.slice A L.length cap] w fun e w' => ∃ v, e = .returned v ∧ OwnV w' w.heap.size v L ∧ Below w.heap.size w w' := by
  have q37 : ∀ (w : World) (a : Option Addr) (n c : Nat), (binOp .eql 32 (.slice a n c) (.slice none 0 0)).run Tryd.prog w = .ok (.bool a.isNone) w := fun w a n c => run_eql_slice_nil w _ _ a n c Tryd.underlying32
  cases A with
  | none =>
    obtain rfl : L = [] := by
      cases L with
      | nil => rfl
      | cons y l => obtain ⟨b, off, hb, _⟩ := hL.2 0 y rfl; cases hb
    obtain rfl := h0 rfl
    go_enter Tryd.func97, Tryd.ntmps97
    go_wp2
    go_ret
    exact ⟨_, rfl, World.ownsRow_nil _ _ _ _, Below.refl _ _⟩
  | some ad =>
    obtain ⟨i0, hi, hz0, hz1, hz2⟩ := info_parts Tryd.info41
    have HL := Lib.hid (Sl.In.flat pgCells_len (by omega) hL)
    have h1 : ∀ u ∈ L.flatMap Pg.cells, u.oneCell' = true := fun u hu => by
      obtain ⟨y, _, hy⟩ := List.mem_flatMap.1 hu
      exact Pg.one y u hy
    have H1 := Lib.hid h1
    clear hL h1
    go_enter Tryd.func97, Tryd.ntmps97
    go_wp2_with
      (at_builtin
       refine wpList_append_own_wide _ rfl (.tmp 5) (.tmp 6) 32 rfl w.heap.size 41 i0 _ 3 32 Tryd.underlying32 hi hz0 hz1 hz2 rfl (by omega) _ 0 _ rfl (World.ownsRow_made w #[] 0 (Nat.le_refl _) (Nat.zero_le _) (by simp)) ad L.length cap _ rfl (flat_len pgCells_len L) ?_ H1.out ?_ ?_ ?_ ?_
       rotate_right
       intro v1 w1 hown hg _)
    go_ret
    refine ⟨v1, rfl, ?_, ((Below.refl _ _).alloc (Nat.le_refl _) _).grown hg (by simp) (fun k hk => ?_)⟩
    · unfold OwnV; simpa using hown
    · exact Nat.le_of_eq (Option.some.inj hk)
    case refine_1 =>
      intro j u hu
      have := HL.out j u hu
      exact ((((Below.refl w.heap.size w).alloc (Nat.le_refl _) _).cell (p := ad.add j) (cell_block_lt this).1)).trans this
    case refine_2 => unfold maxLen; omega
    case refine_3 => omega
    case refine_4 => simp
end Go.Proofs.YtajhehmkdlebbaaDoor
namespace Go.Proofs.YtajhehmkdlebbaaDoor
open Go.ChangeShapes Go.WideShapes Go.ChangeAt Go.RowKit Go.Deep Go.Maps Go.WideMaps
/-- block b begins with the bytes l, and they may be written -/
def BytesAt (w : World) (b : Nat) (l : List UInt8) : Prop := ∀ j (hj : j < l.length), w.cell? ⟨b, j, none⟩ = some (.int .u8 (l[j].toNat : Int)) ∧ w.frozen? ⟨b, j, none⟩ = false
theorem BytesAt.block {w w' : World} {b : Nat} {l : List UInt8} (h : BytesAt w b l) (hb : w'.heap[b]? = w.heap[b]?) : BytesAt w' b l := fun j hj =>
  ⟨(World.cell?_of_block (w := w) hb).trans (h j hj).1, (World.frozen?_of_block (w := w) hb).trans (h j hj).2⟩
theorem bytesAt_new (w : World) (d : ByteArray) (cap : Nat) (e : TypeId) : BytesAt (w.alloc (.cells (bytesRow d cap) e ((bytesRow d cap).size, (bytesRow d cap).size + 1))) w.heap.size d.data.toList := by
  intro j hj
  have hg := heap_alloc_new w (.cells (bytesRow d cap) e ((bytesRow d cap).size, (bytesRow d cap).size + 1))
  have hs : d.data.toList.length ≤ (bytesRow d cap).size := by simp [bytesRow]
  constructor
  · rw [cell_of_row _ _ _ _ _ _ hg]
    have hj' : j < d.data.size := by simpa using hj
    unfold bytesRow
    rw [Array.getElem?_append_left (by simpa using hj')]
    simp only [Array.getElem?_map, Array.getElem?_eq_getElem hj', Option.map_some, Array.getElem_toList]
  · unfold World.frozen?
    simp only [hg]
    simp
    omega
def u8L (t : List UInt8) : List Value := t.map fun x => Value.int .u8 (x.toNat : Int)
theorem u8L_len (t : List UInt8) : (u8L t).length = t.length := by simp [u8L]
theorem splice_at {l t : List UInt8} {o : Nat} (h : o + t.length ≤ l.length) (j : Nat) : (l.take o ++ t ++ l.drop (o + t.length))[j]? = if o ≤ j ∧ j < o + t.length then t[j - o]? else l[j]? := by
  have := spl_at (d := ⟨l.toArray⟩) (o := o) (t := t) (by rw [ba_size]; simpa using h) j
  simpa [spl] using this
theorem bytesAt_copy {w : World} {b o : Nat} {l t : List UInt8} (h : BytesAt w b l) (ho : o + t.length ≤ l.length) : BytesAt (w.setCells b o (u8L t)) b (l.take o ++ t ++ l.drop (o + t.length)) := by
  intro j hj
  have hto : (l.take o).length = o := by rw [List.length_take]; omega
  have hlen : (l.take o ++ t ++ l.drop (o + t.length)).length = l.length := by simp; omega
  have hjl : j < l.length := by rw [hlen] at hj; exact hj
  have hsp := splice_at ho j
  rw [List.getElem?_eq_getElem hj, List.getElem?_eq_getElem hjl] at hsp
  have hfr : (w.setCells b o (u8L t)).frozen? ⟨b, j, none⟩ = false := (World.frozen?_setCells b _ _ _ _).trans (h j hjl).2
  refine ⟨?_, hfr⟩
  by_cases h1 : o ≤ j ∧ j < o + t.length
  · have := World.cell?_setCells_in b (u8L t) o w (fun q hq => by rw [u8L_len] at hq; rw [(h (o + q) (by omega)).1]; rfl) (j - o) (by rw [u8L_len]; omega)
    rw [show o + (j - o) = j by omega] at this
    rw [if_pos h1, List.getElem?_eq_getElem (by omega)] at hsp
    rw [this, Option.some.inj hsp]
    simp only [u8L, List.getElem_map]
  · rw [if_neg h1] at hsp
    rw [World.cell?_setCells_out b _ _ _ _ (fun _ _ => by rw [u8L_len]; simp only; omega), (h j hjl).1, Option.some.inj hsp]
theorem run_copy_min {P : Program} (w : World) (dT sT ty elem : TypeId) (b o dLen dCap : Nat) (t : ByteArray) {l : List UInt8}
    (hu : P.underlying dT = some (.slice elem)) (hz : ∀ w, (Go.sizeOf elem).run P w = .ok 1 w) (hb : BytesAt w b l) (ho : o + dLen ≤ l.length) :
    (Builtin.copy_ #[dT, sT] ty #[.slice (some ⟨b, o, none⟩) dLen dCap, .string t]).run P w = .ok (goInt (Nat.min t.size dLen)) (w.setCells b o (u8L (t.data.toList.take dLen))) := by
  have hst := run_storeCells_cells (P := P) b o (u8L (t.data.toList.take dLen)) 0 w (fun j hj => by
      rw [u8L_len, List.length_take] at hj
      rw [Nat.add_zero, (hb (o + j) (by omega)).1]; rfl) (fun j hj => by
      rw [u8L_len, List.length_take] at hj
      rw [Nat.add_zero]; exact (hb (o + j) (by omega)).2) (by
    intro v hv
    obtain ⟨x, _, rfl⟩ := List.mem_map.1 hv
    rfl)
  simp [Builtin.copy_, run_underlying hu, Builtin.lenOf, Builtin.firstCells, hz]
  have htk : List.take (Nat.min t.size dLen) (List.map (fun b : UInt8 => Value.int IntKind.u8 (b.toNat : Int)) t.data.toList) = u8L (t.data.toList.take dLen) := by
    rw [u8L, List.map_take, List.take_eq_take_iff, List.length_map, ← ba_size]
    have hm : Nat.min t.size dLen = min t.size dLen := rfl
    rw [hm]; omega
  rw [htk]
  simp only [Nat.add_zero] at hst
  rw [hst]
  rfl
theorem run_bytes_str {P : Program} (w : World) (src dst e : TypeId) (b cap : Nat) (l : List UInt8) (hs : P.underlying src = some (.slice e)) (he : P.underlying e = some (.int .u8)) (hd : P.underlying dst = some .string) (hb : BytesAt w b l) (n : Nat) (hn : n = l.length) :
    (convert src dst (.slice (some ⟨b, 0, none⟩) n cap)).run P w = .ok (.string ⟨l.toArray⟩) w := by
  subst hn
  exact run_convert_bytes_back w src dst e ⟨b, 0, none⟩ cap l hs he hd (fun j hj => by
    have : (⟨b, 0, none⟩ : Addr).add j = ⟨b, j, none⟩ := by unfold Addr.add; split <;> simp [*]
    rw [this]; exact (hb j hj).1)
end Go.Proofs.YtajhehmkdlebbaaDoor
