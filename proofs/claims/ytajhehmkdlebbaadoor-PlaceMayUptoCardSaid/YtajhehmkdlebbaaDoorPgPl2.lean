/- Plain laws of memory: what was written is loaded, what is new is nought, all else stays. -/
import Derived.Test.YtajhehmkdlebbaaDoorPgMapP
namespace Go.Proofs.YtajhehmkdlebbaaDoor
open Go.ChangeShapes Go.WideShapes Go.ChangeAt Go.RowKit Go.Deep Go.Maps Go.WideMaps
theorem byteI_list (s : ByteArray) (q : Nat) : byteI s q = (((s.data.toList[q]?).getD 0).toNat : Int) := by
  unfold byteI; rw [Array.getElem?_toList]
theorem byteI_wrB (a : Int) (d : ByteArray) (at_ : Int) (s : ByteArray) (n j : Nat) (hj : j < d.size) :
    byteI (wrB a d at_ s n) j = if at_ ≤ a + j ∧ a + j < at_ + n then byteI s (a + j - at_).toNat else byteI d j := by
  have hj' : j < d.data.toList.length := by rw [← ba_size]; exact hj
  rw [byteI_list, wrB_at, List.getElem?_eq_getElem hj', Option.map_some, Option.getD_some, byteI_list d, List.getElem?_eq_getElem hj', Option.getD_some]
  split
  · unfold byteI; rfl
  · rfl
/-- what a place holds behind a writing -/
theorem byteAt_wr {L : List Pg} (h : RightP L) (at_ : Int) (s : ByteArray) (n : Nat) (a perm : Int) (k : Nat) :
    byteAt (wrL L at_ s n) a perm k = (byteAt L a perm k).map fun b => if at_ ≤ (a + k) % 18446744073709551616 ∧ (a + k) % 18446744073709551616 < at_ + n then byteI s ((a + k) % 18446744073709551616 - at_).toNat else b := by
  generalize hT : (a + (k : Int)) % 18446744073709551616 = T
  by_cases hlow : T < a
  · rw [byteAt_low hT.symm hlow, byteAt_low hT.symm hlow]; rfl
  · cases hx : idxF L T with
    | none => rw [byteAt_far hT.symm hx, byteAt_far hT.symm (by rw [wrL_idx]; exact hx)]; rfl
    | some i =>
      have hi := idxF_lt hx
      have hh := idxF_has hx hi
      have hs := right_size h hi
      rw [byteAt_some hT.symm (by omega) hx hi, byteAt_some hT.symm (by omega) (by rw [wrL_idx]; exact hx) (by rw [wrL_len]; exact hi), wrL_get]
      have hg : grantB (wrP at_ s n L[i]) perm = grantB L[i] perm := rfl
      rw [hg]
      by_cases hgr : grantB L[i] perm = true
      · rw [if_pos hgr, if_pos hgr, Option.map_some]
        congr 1
        show byteI (wrB (L[i]).at_ (L[i]).data at_ s n) (T - (L[i]).at_).toNat = _
        rw [byteI_wrB _ _ _ _ _ _ (by omega)]
        have e : (L[i]).at_ + ((T - (L[i]).at_).toNat : Int) = T := by omega
        rw [e]
      · rw [if_neg hgr, if_neg hgr]; rfl
theorem byteAt_mono {L : List Pg} {a perm : Int} {k : Nat} (h : (byteAt L a perm k).isSome = true) : (byteAt L a 0 k).isSome = true := by
  by_cases hlow : (a + (k : Int)) % 18446744073709551616 < a
  · rw [byteAt_low rfl hlow] at h; cases h
  · cases hx : idxF L ((a + (k : Int)) % 18446744073709551616) with
    | none => rw [byteAt_far rfl hx] at h; cases h
    | some i => rw [byteAt_some rfl (by omega) hx (idxF_lt hx), grant0]; rfl
theorem byteAt_wr_some {L : List Pg} (h : RightP L) (at_ : Int) (s : ByteArray) (n : Nat) (a perm : Int) (k : Nat) : (byteAt (wrL L at_ s n) a perm k).isSome = (byteAt L a perm k).isSome := by
  rw [byteAt_wr h]; cases byteAt L a perm k <;> rfl
theorem loadN_some_iff {l : List Pg} {a perm : Int} : ∀ {n : Nat}, (∀ k, k < n → (byteAt l a perm k).isSome = true) → (loadN l a perm n).isSome = true
  | 0, _ => rfl
  | n + 1, h => by
    have h1 := loadN_some_iff (fun k hk => h k (by omega) : ∀ k, k < n → _)
    have h2 := h n (Nat.lt_succ_self n)
    simp only [loadN]
    cases hl : loadN l a perm n with
    | none => rw [hl] at h1; cases h1
    | some v =>
      cases hb : byteAt l a perm n with
      | none => rw [hb] at h2; cases h2
      | some b => rfl
theorem loadN_mono {L : List Pg} {a perm : Int} {n : Nat} (h : (loadN L a perm n).isSome = true) : (loadN L a 0 n).isSome = true :=
  loadN_some_iff fun k hk => byteAt_mono (loadN_byte h k hk)
theorem loadN_one (l : List Pg) (a perm : Int) : loadN l a perm 1 = byteAt l a perm 0 := by
  simp only [loadN, Option.bind_some]
  cases byteAt l a perm 0 <;> simp
/-- a number's bytes, from all of it -/
theorem loadN_digit {l : List Pg} {a perm : Int} : ∀ {n : Nat} {V : Int}, loadN l a perm n = some V → ∀ k, k < n → byteAt l a perm k = some (V / 256 ^ k % 256)
  | 0, _, _, k, hk => absurd hk (Nat.not_lt_zero _)
  | n + 1, V, h, k, hk => by
    simp only [loadN, Option.bind_eq_some_iff, Option.map_eq_some_iff] at h
    obtain ⟨u, hu, b, hb, rfl⟩ := h
    have h1 := loadN_bd hu
    have h2 := byteAt_bd hb
    have hp := pow256_pos n
    by_cases e : k = n
    · subst e
      rw [hb, Int.add_mul_ediv_left _ _ (by omega), Int.ediv_eq_zero_of_lt h1.1 h1.2]
      congr 1; omega
    · have hk' : k < n := by omega
      rw [loadN_digit hu k hk']
      congr 1
      obtain ⟨d, rfl⟩ : ∃ d, n = k + 1 + d := ⟨n - (k + 1), by omega⟩
      have hk0 := pow256_pos k
      have e1 : u + (256 : Int) ^ (k + 1 + d) * b = u + 256 ^ k * (256 * (256 ^ d * b)) := by
        rw [Int.pow_add, Int.pow_succ]; simp only [Int.mul_assoc]
      rw [e1, Int.add_mul_ediv_left _ _ (by omega), Int.add_mul_emod_self_left]
/-- what was stored is loaded -/
theorem mod_pow_step (v : Int) (m : Nat) : v % 256 ^ (m + 1) = v % 256 ^ m + 256 ^ m * (v / 256 ^ m % 256) := by
  have hp := pow256_pos m
  rw [Int.pow_succ]
  have h1 := Int.emod_add_mul_ediv v (256 ^ m)
  have h2 := Int.emod_add_mul_ediv (v / 256 ^ m) 256
  have h3 := Int.emod_nonneg v (show (256 : Int) ^ m ≠ 0 by omega)
  have h4 := Int.emod_lt_of_pos v hp
  have h5 := Int.emod_nonneg (v / 256 ^ m) (show (256 : Int) ≠ 0 by omega)
  have h6 := Int.emod_lt_of_pos (v / 256 ^ m) (show (0 : Int) < 256 by omega)
  generalize hr : v % 256 ^ m = r at *
  generalize hq : v / 256 ^ m = q at *
  generalize hd : q % 256 = d at *
  generalize hq' : q / 256 = q' at *
  generalize (256 : Int) ^ m = P at *
  have e : v = (r + P * d) + P * 256 * q' := by
    rw [← h1, ← h2, Int.mul_add]; simp only [Int.mul_assoc, Int.add_assoc]
  have hm : P * d ≤ P * 255 := Int.mul_le_mul_of_nonneg_left (by omega) (by omega)
  have hm0 : 0 ≤ P * d := Int.mul_nonneg (by omega) h5
  rw [e, Int.add_mul_emod_self_left]
  exact Int.emod_eq_of_lt (by omega) (by omega)
theorem bytesV_byte (v : Int) {n k : Nat} (h : k < n) : byteI (bytesV v n) k = v / 256 ^ k % 256 := by
  rw [byteI_list]
  simp only [bytesV, List.getElem?_map, List.getElem?_range h, Option.map_some, Option.getD_some]
  rw [byte_val]
theorem loadN_stored {L : List Pg} (h : RightP L) (hwf : ∀ p ∈ L, p.ok) {at_ v : Int} {n : Nat} (hat : 0 ≤ at_) (hn : n ≤ 8) (hok : (loadN L at_ 2 n).isSome = true) :
    ∀ m, m ≤ n → loadN (wrL L at_ (bytesV v n) n) at_ 0 m = some (v % 256 ^ m)
  | 0, _ => by simp [loadN, Int.emod_one]
  | m + 1, hm => by
    have ih := loadN_stored h hwf (v := v) hat hn hok m (by omega)
    obtain ⟨i, hi, _, hT, _, _, _, hle⟩ := pg_hit h hwf (loadN_byte hok m (by omega)) hat (by omega)
    have hb := byteAt_mono (loadN_byte hok m (by omega))
    simp only [loadN, ih, Option.bind_some]
    rw [byteAt_wr h]
    unfold toI at hT
    rw [hT]
    cases hx : byteAt L at_ 0 m with
    | none => rw [hx] at hb; cases hb
    | some b =>
      rw [Option.map_some, Option.map_some, if_pos ⟨by omega, by omega⟩]
      have e : (at_ + (m : Int) - at_).toNat = m := by omega
      rw [e, bytesV_byte v (show m < n by omega), mod_pow_step]
/-! ### a single byte -/
/-- the page that has a place -/
theorem byteAt_page {l : List Pg} (h : RightP l) {T perm : Int} (hT : 0 ≤ T ∧ T ≤ 18446744073709551615) {p : Pg} (hp : p ∈ l) (h1 : p.at_ ≤ T ∧ T - p.at_ < 256) :
    byteAt l T perm 0 = if grantB p perm then some (byteI p.data (T - p.at_).toNat) else none := by
  obtain ⟨i, hi, rfl⟩ := List.getElem_of_mem hp
  have hx : idxF l T = some i := by
    refine atI_hit hi (decide_eq_true h1) (fun j hj hji => ?_)
    cases hh : hasPg T l[j] with
    | false => rfl
    | true =>
      have h2 := of_decide_eq_true hh
      have := right_apart h hj hi (by omega)
      omega
  have e : (T + ((0 : Nat) : Int)) % 18446744073709551616 = T := by omega
  exact byteAt_some e.symm (Int.le_refl _) hx hi
theorem byteAt_nopage {l : List Pg} {T perm : Int} (hT : 0 ≤ T ∧ T ≤ 18446744073709551615) (hno : ∀ p ∈ l, ¬ (p.at_ ≤ T ∧ T - p.at_ < 256)) : byteAt l T perm 0 = none := by
  have hx : idxF l T = none := atI_none fun j hj => decide_eq_false (hno _ (List.getElem_mem hj))
  have e : (T + ((0 : Nat) : Int)) % 18446744073709551616 = T := by omega
  exact byteAt_far e.symm hx
/-- a byte of some is that byte by itself -/
theorem byteAt_alone {l : List Pg} {a perm : Int} {k : Nat} (h : (byteAt l a perm k).isSome = true) : byteAt l (IntKind.u64.wrap (a + k)) perm 0 = byteAt l a perm k := by
  rw [IntKind.wrap_u64]
  generalize hT : (a + (k : Int)) % 18446744073709551616 = T
  have e : (T + ((0 : Nat) : Int)) % 18446744073709551616 = T := by omega
  by_cases hlow : T < a
  · rw [byteAt_low hT.symm hlow] at h; cases h
  · cases hx : idxF l T with
    | none => rw [byteAt_far hT.symm hx] at h; cases h
    | some i =>
      have hi := idxF_lt hx
      rw [byteAt_some hT.symm (by omega) hx hi, byteAt_some e.symm (Int.le_refl _) hx hi]
section
variable {l : List Pg} {at_ n perm : Int}
theorem mapE_zero (h : mapE l at_ n perm = 0) : mapOk l at_ n perm ∧ twice l at_ n.toNat = false ∧ l.length + n.toNat ≤ 64 := by
  unfold mapE at h
  split at h
  · rename_i hok
    refine ⟨hok, ?_⟩
    split at h
    · cases h
    · rename_i ht
      split at h
      · cases h
      · exact ⟨by simpa using ht, by omega⟩
  · cases h
theorem mapX_zero (h : mapE l at_ n perm = 0) : mapX l at_ n perm = lowL l at_ ++ (newL at_ perm n.toNat ++ highL l at_) := by unfold mapX; rw [if_pos h]
theorem mapX_ne (h : mapE l at_ n perm ≠ 0) : mapX l at_ n perm = l := by unfold mapX; rw [if_neg h]
theorem mapX_rightP (hr : RightP l) : RightP (mapX l at_ n perm) := by
  by_cases h : mapE l at_ n perm = 0
  · obtain ⟨⟨_, h1, h2, h3, _⟩, h4, h5⟩ := mapE_zero h
    rw [mapX_zero h]
    exact mapX_right hr h1 h4 (by omega) h3 h5
  · rw [mapX_ne h]; exact hr
theorem mapX_okP (hwf : ∀ p ∈ l, p.ok) (hat : 0 ≤ at_) : ∀ p ∈ mapX l at_ n perm, p.ok := by
  by_cases h : mapE l at_ n perm = 0
  · obtain ⟨⟨_, h1, h2, h3, h6⟩, h4, h5⟩ := mapE_zero h
    rw [mapX_zero h]
    exact mapX_ok hwf h4 (by omega) hat h3 (by rw [Int.toNat_of_nonneg (by omega)]; exact h6)
  · rw [mapX_ne h]; exact hwf
theorem mapX_lenE (h : mapE l at_ n perm = 0) : ((mapX l at_ n perm).length : Int) = l.length + n := by
  obtain ⟨⟨_, h1, h2, h3, _⟩, h4, h5⟩ := mapE_zero h
  rw [mapX_zero h, mapX_len h4 (by omega)]
  omega
theorem zerosB_byte (n k : Nat) : byteI (zerosB n) k = 0 := by
  rw [byteI_list]
  simp only [zerosB, List.getElem?_replicate]
  split <;> rfl
/-- a new page's bytes are nought; there was none -/
theorem mapX_new (hr : RightP l) (h : mapE l at_ n perm = 0) {T : Int} (hT : 0 ≤ T ∧ T ≤ 18446744073709551615) (h1 : at_ ≤ T) (h2 : (T - at_) / 256 < n) :
    byteAt (mapX l at_ n perm) T 0 0 = some 0 ∧ byteAt l T 0 0 = none := by
  have hrx := mapX_rightP (at_ := at_) (n := n) (perm := perm) hr
  obtain ⟨⟨_, hm, hn, hp, _⟩, h4, h5⟩ := mapE_zero h
  have hk : ((T - at_) / 256).toNat < n.toNat := by omega
  constructor
  · have hmem : newP at_ perm ((T - at_) / 256).toNat ∈ mapX l at_ n perm := by
      rw [mapX_zero h]
      refine List.mem_append.2 (.inr (List.mem_append.2 (.inl ?_)))
      unfold newL
      exact List.mem_map.2 ⟨_, List.mem_range.2 hk, rfl⟩
    rw [byteAt_page hrx hT hmem (by simp only [newP]; omega), grant0, if_pos rfl]
    simp only [newP, zerosB_byte]
  · have hno := idxF_none_at (twice_false h4 _ hk)
    refine byteAt_nopage hT fun p hp' hc => ?_
    obtain ⟨i, hi, rfl⟩ := List.getElem_of_mem hp'
    have := right_mod hr hi
    exact hno _ hp' (by omega)
theorem mapX_old (hr : RightP l) (h : mapE l at_ n perm = 0) {T perm' : Int} (hT : 0 ≤ T ∧ T ≤ 18446744073709551615) (hno : ¬ (at_ ≤ T ∧ (T - at_) / 256 < n)) :
    byteAt (mapX l at_ n perm) T perm' 0 = byteAt l T perm' 0 := by
  have hrx := mapX_rightP (at_ := at_) (n := n) (perm := perm) hr
  obtain ⟨⟨_, hm, hn, hp, _⟩, h4, h5⟩ := mapE_zero h
  have hmem : ∀ p : Pg, p ∈ mapX l at_ n perm ↔ p ∈ l ∨ p ∈ newL at_ perm n.toNat := fun p => by
    rw [mapX_zero h, (mapX_perm h4 (by omega)).mem_iff, List.mem_append]
  by_cases hex : ∃ p ∈ l, p.at_ ≤ T ∧ T - p.at_ < 256
  · obtain ⟨p, hp1, hp2⟩ := hex
    rw [byteAt_page hr hT hp1 hp2, byteAt_page hrx hT ((hmem p).2 (.inl hp1)) hp2]
  · rw [byteAt_nopage hT (fun p hp1 hp2 => hex ⟨p, hp1, hp2⟩)]
    refine byteAt_nopage hT fun p hp1 hp2 => ?_
    rcases (hmem p).1 hp1 with hp3 | hp3
    · exact hex ⟨p, hp3, hp2⟩
    · obtain ⟨k, hk, rfl⟩ := newL_mem hp3
      simp only [newP] at hp2
      omega
end
/-! ### loads of one byte, and of what was stored, as the functions answer -/
theorem loadV_one {l : List Pg} (h : rightB l = true) (T perm : Int) : loadV l T 1 perm = (byteAt l T perm 0).getD 0 := by
  unfold loadV; rw [if_pos ⟨by omega, h⟩]
  show (loadN l T perm 1).getD 0 = _
  rw [loadN_one]
theorem loadE_one {l : List Pg} (h : rightB l = true) (T perm : Int) : loadE l T 1 perm = if (byteAt l T perm 0).isSome then 0 else 6 := by
  unfold loadE; rw [if_pos ⟨by omega, h⟩]
  show (if (loadN l T perm 1).isSome then _ else _) = _
  rw [loadN_one]
theorem rightB_in {l : List Pg} (h : RightP l) : rightB l = true := decide_eq_true h
/-- memory among a law's arguments -/
def MemG (w : World) (A : Option Addr) (cap : Nat) (L : List Pg) : Prop := Mem w w.heap.size A cap L ∧ (A = none → cap = 0) ∧ (∀ p ∈ L, p.ok) ∧ L.length ≤ 140737488351232
theorem MemG.of {w : World} {s : Sl Pg} (h : Sl.Good w w.heap.size 3 32 Pg.cells Pg.ok s ∧ (s.a = none → s.cap = 0)) : MemG w s.a s.cap s.l := by
  refine ⟨h.1.1, h.2, h.1.2.2.2, ?_⟩
  have h1 := h.1.1.1
  have h2 := h.1.2.1
  omega
theorem Mem.step {w w' : World} {A : Option Addr} {cap : Nat} {L : List Pg} (h : Mem w w.heap.size A cap L) (hb : Below w.heap.size w w') : Mem w' w'.heap.size A cap L := (Sl.In.below h hb).more hb.size
end Go.Proofs.YtajhehmkdlebbaaDoor
