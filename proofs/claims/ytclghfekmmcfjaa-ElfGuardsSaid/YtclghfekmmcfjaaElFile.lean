/- An image's file, as bytes: plain. What stands where in it; of two images that are not the same, the files are not. -/
import Derived.Test.YtclghfekmmcfjaaElNum
import Derived.Test.YtclghfekmmcfjaaPgPl2
import Derived.Test.YtclghfekmmcfjaaPgSame
namespace Go.Proofs.Ytclghfekmmcfjaa
open Go.ChangeShapes Go.WideShapes Go.ChangeAt Go.RowKit Go.Deep Go.Shelf
/-! ### what stands where -/
def Has (l : List UInt8) (p : Nat) (m : List UInt8) : Prop := ∃ a c, l = a ++ m ++ c ∧ a.length = p
theorem Has.whole (l : List UInt8) : Has l 0 l := ⟨[], [], by simp, rfl⟩
theorem Has.split {l m n : List UInt8} {p : Nat} (h : Has l p (m ++ n)) : Has l p m ∧ Has l (p + m.length) n := by
  obtain ⟨a, c, rfl, rfl⟩ := h
  exact ⟨⟨a, n ++ c, by simp, rfl⟩, ⟨a ++ m, c, by simp, by simp⟩⟩
theorem Has.left {l m n : List UInt8} {p : Nat} (h : Has l p (m ++ n)) : Has l p m := h.split.1
theorem Has.right {l m n : List UInt8} {p q : Nat} (h : Has l p (m ++ n)) (hq : p + m.length = q) : Has l q n := hq ▸ h.split.2
theorem Has.more {l m : List UInt8} {p : Nat} (h : Has l p m) (n : List UInt8) : Has (l ++ n) p m := by
  obtain ⟨a, c, rfl, rfl⟩ := h
  exact ⟨a, c ++ n, by simp, rfl⟩
theorem Has.len {l m : List UInt8} {p : Nat} (h : Has l p m) : p + m.length ≤ l.length := by
  obtain ⟨a, c, rfl, rfl⟩ := h
  simp
theorem Has.get {l m : List UInt8} {p : Nat} (h : Has l p m) {j : Nat} (hj : j < m.length) : l[p + j]? = some m[j] := by
  obtain ⟨a, c, rfl, rfl⟩ := h
  rw [List.append_assoc, List.getElem?_append_right (by omega), Nat.add_sub_cancel_left, List.getElem?_append_left hj, List.getElem?_eq_getElem hj]
theorem Has.cut {l m : List UInt8} {p : Nat} (h : Has l p m) {n : Nat} (hn : p + m.length ≤ n) : Has (l.take n) p m := by
  obtain ⟨a, c, rfl, rfl⟩ := h
  refine ⟨a, c.take (n - (a.length + m.length)), ?_, rfl⟩
  rw [List.take_append, List.take_of_length_le (by simp; omega)]
  simp
theorem Has.ext {l m : List UInt8} {p : Nat} (h : Has l p m) : (l.drop p).take m.length = m := by
  obtain ⟨a, c, rfl, rfl⟩ := h
  simp
/-- the number of so many bytes from a place on -/
def numAt (l : List UInt8) (p : Nat) : Nat → Int
  | 0 => 0
  | n + 1 => numAt l p n + 256 ^ n * (((l[p + n]?).getD 0).toNat : Int)
theorem leL_get {v : Int} {n j : Nat} (h : j < n) : (leL v n)[j]? = some (UInt8.ofNat ((v / 256 ^ j) % 256).toNat) := by
  simp [leL, h]
theorem byte_nat (v : Int) (j : Nat) : ((UInt8.ofNat ((v / 256 ^ j) % 256).toNat).toNat : Int) = v / 256 ^ j % 256 := by
  have h1 := Int.emod_nonneg (v / 256 ^ j) (show (256 : Int) ≠ 0 by omega)
  have h2 := Int.emod_lt_of_pos (v / 256 ^ j) (show (0 : Int) < 256 by omega)
  rw [UInt8.toNat_ofNat_of_lt' (by show _ < 256; omega)]
  omega
theorem Has.num_part {l : List UInt8} {p n : Nat} {v : Int} (h : Has l p (leL v n)) : ∀ k, k ≤ n → numAt l p k = v % 256 ^ k
  | 0, _ => by simp [numAt, Int.emod_one]
  | k + 1, hk => by
    have h1 := h.get (j := k) (by rw [leL_len]; omega)
    have h2 := leL_get (v := v) (n := n) (j := k) (by omega)
    have h3 : (leL v n)[k]'(by rw [leL_len]; omega) = UInt8.ofNat ((v / 256 ^ k) % 256).toNat := by
      rw [List.getElem?_eq_getElem (by rw [leL_len]; omega)] at h2
      exact Option.some.inj h2
    simp only [numAt]
    rw [h1, h3, Option.getD_some, byte_nat, h.num_part k (by omega), mod_pow_step]
theorem Has.num {l : List UInt8} {p n : Nat} {v : Int} (h : Has l p (leL v n)) (hv : 0 ≤ v ∧ v < 256 ^ n) : numAt l p n = v := by
  rw [h.num_part n (Nat.le_refl _)]
  exact Int.emod_eq_of_lt hv.1 hv.2
/-! ### the file -/
def begL : List UInt8 := [127, 69, 76, 70, 2, 1, 1, 0, 0, 0, 0, 0, 0, 0, 0, 0]
def hdL (e : Int) (n : Nat) : List UInt8 := begL ++ (numsL 2 [2, 243] ++ (numsL 4 [1] ++ (numsL 8 [e, 64, 0] ++ (numsL 4 [0] ++ numsL 2 [64, 56, n, 0, 0, 0]))))
theorem hdL_len (e : Int) (n : Nat) : (hdL e n).length = 64 := by simp [hdL, begL, numsL_len]
/-- up to the next page -/
def upN (n : Nat) : Nat := (n + 255) / 256 * 256
/-- where the first k segments' bytes end -/
def endN (l : List Sg) : Nat → Nat
  | 0 => 64 + 56 * l.length
  | k + 1 => match l[k]? with
    | some s => upN (endN l k) + s.data.size
    | none => endN l k
theorem endN_succ {l : List Sg} {k : Nat} (hk : k < l.length) : endN l (k + 1) = upN (endN l k) + (l[k]).data.size := by
  simp only [endN, List.getElem?_eq_getElem hk]
def rowL (s : Sg) (f : Nat) : List UInt8 := numsL 4 [1, s.perm] ++ numsL 8 [f, s.at_, s.at_, s.data.size, s.size, 256]
theorem rowL_len (s : Sg) (f : Nat) : (rowL s f).length = 56 := by simp [rowL, numsL_len]
def tabL (l : List Sg) : Nat → List UInt8
  | 0 => []
  | k + 1 => match l[k]? with
    | some s => tabL l k ++ rowL s (upN (endN l k))
    | none => tabL l k
theorem tabL_succ {l : List Sg} {k : Nat} (hk : k < l.length) : tabL l (k + 1) = tabL l k ++ rowL l[k] (upN (endN l k)) := by
  simp only [tabL, List.getElem?_eq_getElem hk]
theorem tabL_len {l : List Sg} : ∀ {k : Nat}, k ≤ l.length → (tabL l k).length = 56 * k
  | 0, _ => rfl
  | k + 1, h => by rw [tabL_succ (by omega), List.length_append, tabL_len (by omega), rowL_len]; omega
/-- the file up to the first k segments' bytes -/
def fileL (e : Int) (l : List Sg) : Nat → List UInt8
  | 0 => hdL e l.length ++ tabL l l.length
  | k + 1 => match l[k]? with
    | some s => fileL e l k ++ (List.replicate (padN (fileL e l k).length) 0 ++ s.data.data.toList)
    | none => fileL e l k
theorem fileL_succ {e : Int} {l : List Sg} {k : Nat} (hk : k < l.length) : fileL e l (k + 1) = fileL e l k ++ (List.replicate (padN (fileL e l k).length) 0 ++ (l[k]).data.data.toList) := by
  simp only [fileL, List.getElem?_eq_getElem hk]
theorem padN_up (n : Nat) : n + padN n = upN n := by unfold padN upN; omega
theorem fileL_len {e : Int} {l : List Sg} : ∀ {k : Nat}, k ≤ l.length → (fileL e l k).length = endN l k
  | 0, _ => by simp only [fileL, endN, List.length_append, hdL_len, tabL_len (Nat.le_refl _)]
  | k + 1, h => by
    rw [fileL_succ (by omega), List.length_append, List.length_append, List.length_replicate, endN_succ (by omega), fileL_len (by omega), ← Nat.add_assoc, padN_up, ba_size]
def fileAll (e : Int) (l : List Sg) : List UInt8 := fileL e l l.length
theorem Has.fileL {e : Int} {l : List Sg} {p : Nat} {m : List UInt8} {k : Nat} (h : Has (fileL e l k) p m) : ∀ {j : Nat}, k ≤ j → Has (Go.Proofs.Ytclghfekmmcfjaa.fileL e l j) p m
  | 0, hj => by obtain rfl : k = 0 := by omega
                exact h
  | j + 1, hj => by
    by_cases e1 : k = j + 1
    · subst e1; exact h
    · have := h.fileL (j := j) (by omega)
      simp only [Go.Proofs.Ytclghfekmmcfjaa.fileL]
      split
      · exact this.more _
      · exact this
section
variable {e : Int} {l : List Sg}
theorem has_head : Has (fileAll e l) 0 (hdL e l.length) := by
  have h : Has (fileL e l 0) 0 (hdL e l.length) := (Has.whole _).left
  exact h.fileL (Nat.zero_le _)
theorem has_tab {k : Nat} (hk : k < l.length) : ∀ {n : Nat}, k < n → n ≤ l.length → Has (tabL l n) (56 * k) (rowL l[k] (upN (endN l k)))
  | n + 1, hkn, hn => by
    rw [tabL_succ (by omega)]
    by_cases e1 : k = n
    · subst e1
      exact (Has.whole _).right (by rw [tabL_len (by omega)]; omega)
    · exact (has_tab hk (by omega) (by omega)).more _
theorem has_row {k : Nat} (hk : k < l.length) : Has (fileAll e l) (64 + 56 * k) (rowL l[k] (upN (endN l k))) := by
  have h : Has (fileL e l 0) (64 + 56 * k) (rowL l[k] (upN (endN l k))) := by
    obtain ⟨a, c, h1, h2⟩ := has_tab hk hk (Nat.le_refl _)
    exact ⟨hdL e l.length ++ a, c, by simp only [fileL]; rw [h1]; simp, by rw [List.length_append, hdL_len, h2]⟩
  exact h.fileL (Nat.zero_le _)
theorem has_data {k : Nat} (hk : k < l.length) : Has (fileAll e l) (upN (endN l k)) (l[k]).data.data.toList := by
  have h : Has (fileL e l (k + 1)) (upN (endN l k)) (l[k]).data.data.toList := by
    rw [fileL_succ hk, ← List.append_assoc]
    refine (Has.whole _).right ?_
    rw [List.length_append, List.length_replicate, fileL_len (by omega), padN_up]; omega
  exact h.fileL (by omega)
theorem endN_mono : ∀ {j k : Nat}, j ≤ k → endN l j ≤ endN l k
  | j, 0, h => by obtain rfl : j = 0 := by omega
                  exact Nat.le_refl _
  | j, k + 1, h => by
    by_cases e1 : j = k + 1
    · subst e1; exact Nat.le_refl _
    · have := endN_mono (j := j) (k := k) (by omega)
      simp only [endN]
      split
      · unfold upN; omega
      · exact this
theorem fileAll_len : (fileAll e l).length = endN l l.length := fileL_len (Nat.le_refl _)
theorem endN_bd (hA : ∀ s ∈ l, SegA s) : ∀ {k : Nat}, k ≤ l.length → 64 + 56 * l.length ≤ endN l k ∧ endN l k ≤ 64 + 56 * l.length + 16640 * k
  | 0, _ => by simp only [endN]; omega
  | k + 1, h => by
    have h1 := endN_bd hA (k := k) (by omega)
    have hs := hA _ (List.getElem_mem (show k < l.length by omega))
    obtain ⟨_, _, _, _, h2, h3⟩ := hs
    rw [endN_succ (by omega)]
    unfold upN
    omega
end
/-! ### the fields -/
theorem Has.nums {l : List UInt8} {n : Nat} : ∀ {L : List Int} {p : Nat}, Has l p (numsL n L) → ∀ {k : Nat} (hk : k < L.length), Has l (p + n * k) (leL L[k] n)
  | v :: L, p, h, 0, _ => by
    have : numsL n (v :: L) = leL v n ++ numsL n L := rfl
    rw [this] at h
    simpa using h.left
  | v :: L, p, h, k + 1, hk => by
    have : numsL n (v :: L) = leL v n ++ numsL n L := rfl
    rw [this] at h
    have h2 := Has.nums (h.right (q := p + n) (by rw [leL_len])) (k := k) (by simpa using hk)
    rw [Nat.mul_succ, Nat.add_comm (n * k), ← Nat.add_assoc]
    exact h2
theorem Has.numsv {l : List UInt8} {n p : Nat} {L : List Int} (h : Has l p (numsL n L)) (k : Nat) {v : Int} (hk : L[k]? = some v) (hv : 0 ≤ v ∧ v < 256 ^ n) : numAt l (p + n * k) n = v := by
  obtain ⟨hl, rfl⟩ := List.getElem?_eq_some_iff.1 hk
  exact (h.nums hl).num hv
structure HdOk (S : List UInt8) (e : Int) (n : Nat) : Prop where
  beg : S.take 16 = begL
  h16 : numAt S 16 2 = 2
  h18 : numAt S 18 2 = 243
  h20 : numAt S 20 4 = 1
  h24 : numAt S 24 8 = e
  h32 : numAt S 32 8 = 64
  h40 : numAt S 40 8 = 0
  h48 : numAt S 48 4 = 0
  h52 : numAt S 52 2 = 64
  h54 : numAt S 54 2 = 56
  h56 : numAt S 56 2 = n
  h58 : numAt S 58 6 = 0
theorem numAt_zero {S : List UInt8} {p : Nat} : ∀ {n : Nat}, (∀ j, j < n → S[p + j]? = some 0) → numAt S p n = 0
  | 0, _ => rfl
  | n + 1, h => by
    simp only [numAt]
    rw [numAt_zero (fun j hj => h j (by omega)), h n (by omega)]
    simp
theorem hdOk {S : List UInt8} {e : Int} {n : Nat} (h : Has S 0 (hdL e n)) (he : 0 ≤ e ∧ e ≤ 18446744073709551615) (hn : n ≤ 4) : HdOk S e n := by
  have a0 : Has S 0 begL := h.left
  have a1 : Has S 16 (numsL 2 [2, 243] ++ (numsL 4 [1] ++ (numsL 8 [e, 64, 0] ++ (numsL 4 [0] ++ numsL 2 [64, 56, n, 0, 0, 0])))) := h.right rfl
  have a2 := a1.right (q := 20) rfl
  have a3 := a2.right (q := 24) rfl
  have a4 := a3.right (q := 48) rfl
  have a5 := a4.right (q := 52) rfl
  have b1 := a1.left
  have b2 := a2.left
  have b3 := a3.left
  have b4 := a4.left
  refine ⟨?_, b1.numsv 0 rfl (by omega), b1.numsv 1 rfl (by omega), b2.numsv 0 rfl (by omega), b3.numsv 0 rfl (by omega), b3.numsv 1 rfl (by omega), b3.numsv 2 rfl (by omega), b4.numsv 0 rfl (by omega), a5.numsv 0 rfl (by omega), a5.numsv 1 rfl (by omega), a5.numsv 2 rfl (by omega), ?_⟩
  · have := a0.ext
    simpa [begL] using this
  · refine numAt_zero fun j hj => ?_
    have hx := a5.get (j := 6 + j) (by rw [numsL_len]; show _ < 12; omega)
    rw [show 58 + j = 52 + (6 + j) by omega, hx]
    match j, hj with
    | 0, _ => rfl
    | 1, _ => rfl
    | 2, _ => rfl
    | 3, _ => rfl
    | 4, _ => rfl
    | 5, _ => rfl
structure RowOk (S : List UInt8) (p : Nat) (s : Sg) (f : Nat) : Prop where
  r0 : numAt S p 4 = 1
  r4 : numAt S (p + 4) 4 = s.perm
  r8 : numAt S (p + 8) 8 = f
  r16 : numAt S (p + 16) 8 = s.at_
  r24 : numAt S (p + 24) 8 = s.at_
  r32 : numAt S (p + 32) 8 = s.data.size
  r40 : numAt S (p + 40) 8 = s.size
  r48 : numAt S (p + 48) 8 = 256
theorem rowOk {S : List UInt8} {p f : Nat} {s : Sg} (h : Has S p (rowL s f)) (hs : SegA s) (ho : s.ok) (hf : f ≤ 1000000) : RowOk S p s f := by
  have a1 := h.left
  have a2 := h.right (q := p + 8) rfl
  obtain ⟨h0, h1, h2, h3⟩ := ho
  obtain ⟨_, _, h4, _, _, _⟩ := hs
  exact ⟨a1.numsv 0 rfl (by omega), a1.numsv 1 rfl (by omega), a2.numsv 0 rfl (by omega), a2.numsv 1 rfl (by omega), a2.numsv 2 rfl (by omega), a2.numsv 3 rfl (by omega), a2.numsv 4 rfl (by omega), a2.numsv 5 rfl (by omega)⟩
/-- of two images that may be and have the same file, all is the same -/
theorem file_inj {e e' : Int} {l l' : List Sg} (hm : IMayP e l) (hm' : IMayP e' l') (ho : ∀ s ∈ l, s.ok) (ho' : ∀ s ∈ l', s.ok) (he : 0 ≤ e ∧ e ≤ 18446744073709551615) (he' : 0 ≤ e' ∧ e' ≤ 18446744073709551615)
    (h : fileAll e l = fileAll e' l') : e = e' ∧ l = l' := by
  have hd := hdOk (has_head (e := e) (l := l)) he hm.1.2
  have hd' := hdOk (has_head (e := e') (l := l')) he' hm'.1.2
  rw [h] at hd
  have hlen : l.length = l'.length := by have := hd.h56.symm.trans hd'.h56; omega
  have hA : ∀ s ∈ l, SegA s := fun s hs => by
    obtain ⟨j, hj, rfl⟩ := List.getElem_of_mem hs
    exact (hm.2.1 j hj _ (List.getElem?_eq_getElem hj)).1
  have hA' : ∀ s ∈ l', SegA s := fun s hs => by
    obtain ⟨j, hj, rfl⟩ := List.getElem_of_mem hs
    exact (hm'.2.1 j hj _ (List.getElem?_eq_getElem hj)).1
  refine ⟨hd.h24.symm.trans hd'.h24, List.ext_getElem hlen fun k hk hk' => ?_⟩
  have b := endN_bd hA (k := k) (by omega)
  have b' := endN_bd hA' (k := k) (by omega)
  have r := rowOk (has_row (e := e) hk) (hA _ (List.getElem_mem hk)) (ho _ (List.getElem_mem hk)) (by have := hm.1.2; unfold upN; omega)
  have r' := rowOk (has_row (e := e') hk') (hA' _ (List.getElem_mem hk')) (ho' _ (List.getElem_mem hk')) (by have := hm'.1.2; unfold upN; omega)
  rw [h] at r
  have e1 := r.r4.symm.trans r'.r4
  have e2 := r.r8.symm.trans r'.r8
  have e3 := r.r16.symm.trans r'.r16
  have e4 := r.r32.symm.trans r'.r32
  have e5 := r.r40.symm.trans r'.r40
  have d := (has_data (e := e) hk).ext
  have d' := (has_data (e := e') hk').ext
  rw [h] at d
  have e6 : upN (endN l k) = upN (endN l' k) := by omega
  have e7 : (l[k]).data.data.toList.length = (l'[k]).data.data.toList.length := by rw [← ba_size, ← ba_size]; omega
  rw [e6, e7] at d
  have e8 : (l[k]).data = (l'[k]).data := by
    have := d.symm.trans d'
    apply data_toList.1
    rw [ByteArray.toList_eq, ByteArray.toList_eq]
    exact this
  generalize l[k] = x at *
  generalize l'[k] = y at *
  cases x; cases y
  simp only at *
  subst e1 e3 e5 e8
  rfl
end Go.Proofs.Ytclghfekmmcfjaa
