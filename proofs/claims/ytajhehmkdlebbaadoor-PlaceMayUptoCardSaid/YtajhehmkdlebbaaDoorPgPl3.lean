/- Plain laws of memory: what the statements ask of what is stored and filled in. -/
import Derived.Test.YtajhehmkdlebbaaDoorPgPl2
import Derived.Test.YtajhehmkdlebbaaDoorPgSame
namespace Go.Proofs.YtajhehmkdlebbaaDoor
open Go.ChangeShapes Go.WideShapes Go.ChangeAt Go.RowKit Go.Deep Go.Maps Go.WideMaps
section
variable {M : List Pg} {at_ n perm v : Int} {s : ByteArray}
theorem loadE_zero (h : loadE M at_ n perm = 0) : ((1 ≤ n ∧ n ≤ 8) ∧ rightB M = true) ∧ (loadN M at_ perm n.toNat).isSome = true := by
  unfold loadE at h
  split at h
  · rename_i hc
    refine ⟨hc, ?_⟩
    split at h
    · assumption
    · cases h
  · cases h
theorem loadE_none_V (h : loadE M at_ n perm ≠ 0) : loadV M at_ n perm = 0 := by
  unfold loadE at h
  unfold loadV
  split
  · rename_i hc
    rw [if_pos hc] at h
    cases hl : loadN M at_ perm n.toNat with
    | none => rfl
    | some x => rw [hl] at h; exact absurd rfl h
  · rfl
theorem store_fail (h : loadE M at_ n 2 ≠ 0) : storeX M at_ n v = M := by
  unfold storeX
  rw [if_neg]
  rintro ⟨hc, hl⟩
  apply h
  unfold loadE
  rw [if_pos hc, hl]; rfl
theorem store_ok (h : loadE M at_ n 2 = 0) : storeX M at_ n v = wrL M at_ (bytesV v n.toNat) n.toNat := by
  unfold storeX; rw [if_pos (loadE_zero h)]
theorem storeX_len : (storeX M at_ n v).length = M.length := by
  unfold storeX; split
  · exact wrL_len _ _ _ _
  · rfl
theorem storeX_rightP (h : RightP M) : RightP (storeX M at_ n v) := by
  unfold storeX; split
  · exact wrL_right h _ _ _
  · exact h
theorem storeX_okP (h : ∀ p ∈ M, p.ok) : ∀ p ∈ storeX M at_ n v, p.ok := by
  unfold storeX; split
  · exact wrL_ok h _ _ _
  · exact h
theorem fillE_zero (h : fillE M at_ s = 0) : rightB M = true ∧ (loadN M at_ 0 s.size).isSome = true := by
  unfold fillE at h
  split at h
  · rename_i hc
    refine ⟨hc, ?_⟩
    split at h
    · assumption
    · cases h
  · cases h
theorem fill_fail (h : fillE M at_ s ≠ 0) : fillX M at_ s = M := by
  unfold fillX
  rw [if_neg]
  rintro ⟨hc, hl⟩
  apply h
  unfold fillE
  rw [if_pos hc, hl]; rfl
theorem fill_ok (h : fillE M at_ s = 0) : fillX M at_ s = wrL M at_ s s.size := by
  unfold fillX; rw [if_pos (fillE_zero h)]
theorem fillX_len : (fillX M at_ s).length = M.length := by
  unfold fillX; split
  · exact wrL_len _ _ _ _
  · rfl
theorem fillX_rightP (h : RightP M) : RightP (fillX M at_ s) := by
  unfold fillX; split
  · exact wrL_right h _ _ _
  · exact h
theorem fillX_okP (h : ∀ p ∈ M, p.ok) : ∀ p ∈ fillX M at_ s, p.ok := by
  unfold fillX; split
  · exact wrL_ok h _ _ _
  · exact h
/-- a byte behind a writing -/
theorem one_wr (hr : rightB M = true) (o : Int) (ho : 0 ≤ o ∧ o ≤ 18446744073709551615) (t : ByteArray) (m : Nat) :
    loadE (wrL M at_ t m) o 1 0 = loadE M o 1 0 ∧ (¬ (at_ ≤ o ∧ o < at_ + m) → loadV (wrL M at_ t m) o 1 0 = loadV M o 1 0) ∧ (loadE M o 1 0 = 0 → (at_ ≤ o ∧ o < at_ + m) → loadV (wrL M at_ t m) o 1 0 = byteI t (o - at_).toNat) := by
  have hR := rightB_out hr
  have hw := rightB_in (wrL_right hR at_ t m)
  have e : (o + ((0 : Nat) : Int)) % 18446744073709551616 = o := by omega
  refine ⟨?_, fun hno => ?_, fun h0 hin => ?_⟩
  · rw [loadE_one hw, loadE_one hr, byteAt_wr_some hR]
  · rw [loadV_one hw, loadV_one hr, byteAt_wr hR, e]
    cases byteAt M o 0 0 with
    | none => rfl
    | some b => rw [Option.map_some, if_neg hno]
  · rw [loadE_one hr] at h0
    rw [loadV_one hw, byteAt_wr hR, e]
    cases hb : byteAt M o 0 0 with
    | none => rw [hb] at h0; cases h0
    | some b => rw [Option.map_some, if_pos hin]; rfl
/-- what was stored is loaded; the bytes at other places are as they were -/
theorem back_law (hwf : ∀ p ∈ M, p.ok) (hat : 0 ≤ at_ ∧ at_ ≤ 18446744073709551615) (hv : 0 ≤ v ∧ v ≤ 18446744073709551615) (h : loadE M at_ 8 2 = 0) :
    loadV (storeX M at_ 8 v) at_ 8 0 = v ∧ loadE (storeX M at_ 8 v) at_ 8 0 = 0 ∧ ∀ o, 0 ≤ o ∧ o ≤ 18446744073709551615 → loadE (storeX M at_ 8 v) o 1 0 = loadE M o 1 0 ∧ (¬ (at_ ≤ o ∧ o - at_ < 8) → loadV (storeX M at_ 8 v) o 1 0 = loadV M o 1 0) := by
  rw [store_ok h]
  obtain ⟨⟨_, hr⟩, hl⟩ := loadE_zero h
  have hR := rightB_out hr
  have e8 : (8 : Int).toNat = 8 := rfl
  rw [e8] at hl ⊢
  have hs := loadN_stored hR hwf (v := v) hat.1 (Nat.le_refl 8) hl 8 (Nat.le_refl 8)
  have hw := rightB_in (wrL_right hR at_ (bytesV v 8) 8)
  refine ⟨?_, ?_, fun o ho => ?_⟩
  · unfold loadV
    rw [if_pos ⟨by omega, hw⟩, e8, hs]
    show v % 256 ^ 8 = v
    have : (256 : Int) ^ 8 = 18446744073709551616 := by decide
    rw [this]; omega
  · unfold loadE
    rw [if_pos ⟨by omega, hw⟩, e8, hs]; rfl
  · obtain ⟨h1, h2, _⟩ := one_wr (at_ := at_) hr o ho (bytesV v 8) 8
    exact ⟨h1, fun hno => h2 (by omega)⟩
/-! ### which page a place is of -/
theorem guard_byte (hR : RightP M) {i : Nat} (hi : i < M.length) {r : Int} (hr : 0 ≤ r ∧ r < 256) (hwf : ∀ p ∈ M, p.ok) (perm : Int) : (byteAt M ((M[i]).at_ + r) perm 0).isSome = grantB M[i] perm := by
  have ho := (hwf _ (List.getElem_mem hi)).1
  have hm := right_mod hR hi
  rw [byteAt_page hR (by omega) (List.getElem_mem hi) (by omega)]
  cases grantB M[i] perm <;> rfl
theorem and_or_all : ∀ a ∈ List.range 8, ∀ b ∈ List.range 8, (bits .and .i64 (a : Int) (b : Int) == (b : Int)) = (bits .or .i64 (a : Int) (b : Int) == (a : Int)) := by decide +kernel
theorem and_two_all : ∀ a ∈ List.range 8, (bits .and .i64 (a : Int) 2 == 2) = ((a : Int) / 2 % 2 == 1) := by decide +kernel
theorem grant_or {p : Pg} (h : 0 ≤ p.perm ∧ p.perm ≤ 7) {q : Int} (hq : 0 ≤ q ∧ q ≤ 7) : grantB p q = (bits .or .i64 p.perm q == p.perm) := by
  obtain ⟨a, ha⟩ := Int.eq_ofNat_of_zero_le h.1
  obtain ⟨b, rfl⟩ := Int.eq_ofNat_of_zero_le hq.1
  unfold grantB
  rw [ha]
  exact and_or_all a (List.mem_range.2 (by omega)) b (List.mem_range.2 (by omega))
theorem grant_two {p : Pg} (h : 0 ≤ p.perm ∧ p.perm ≤ 7) : grantB p 2 = (p.perm / 2 % 2 == 1) := by
  obtain ⟨a, ha⟩ := Int.eq_ofNat_of_zero_le h.1
  unfold grantB
  rw [ha]
  exact and_two_all a (List.mem_range.2 (by omega))
theorem right_perm (hR : RightP M) {i : Nat} (hi : i < M.length) : 0 ≤ (M[i]).perm ∧ (M[i]).perm ≤ 7 := by
  obtain ⟨_, h1, h2, _⟩ := hR.2 i hi _ (List.getElem?_eq_getElem hi)
  exact ⟨h1, h2⟩
end
end Go.Proofs.YtajhehmkdlebbaaDoor
