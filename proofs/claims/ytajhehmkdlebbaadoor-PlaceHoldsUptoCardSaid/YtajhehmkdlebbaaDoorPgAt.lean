/- The reference's At, grants, Load. -/
import Derived.Test.YtajhehmkdlebbaaDoorPgRef
namespace Go.Proofs.YtajhehmkdlebbaaDoor
open Go.ChangeShapes Go.WideShapes Go.ChangeAt Go.RowKit Go.Deep
set_option maxRecDepth 100000
def hasPg (to : Int) (p : Pg) : Bool := decide (p.at_ ≤ to ∧ to - p.at_ < 256)
def idxF (l : List Pg) (to : Int) : Option Nat := l.findIdx? (hasPg to)
def atI (l : List Pg) (to : Int) : Int := match idxF l to with
  | some i => i
  | none => -1
theorem atI_hit {l : List Pg} {to : Int} {k : Nat} (hk : k < l.length) (h : hasPg to l[k] = true) (hno : ∀ j : Nat, ∀ hj : j < l.length, j < k → hasPg to l[j] = false) : idxF l to = some k := by
  unfold idxF
  rw [List.findIdx?_eq_some_iff_getElem]
  exact ⟨hk, h, fun j hj => by rw [hno j (by omega) hj]; decide⟩
theorem atI_none {l : List Pg} {to : Int} (hno : ∀ j : Nat, ∀ hj : j < l.length, hasPg to l[j] = false) : idxF l to = none := by
  unfold idxF
  rw [List.findIdx?_eq_none_iff]
  intro p hp
  obtain ⟨j, hj, rfl⟩ := List.getElem_of_mem hp
  exact hno j hj
theorem idxF_lt {l : List Pg} {to : Int} {k : Nat} (h : idxF l to = some k) : k < l.length := by
  unfold idxF at h
  rw [List.findIdx?_eq_some_iff_getElem] at h
  exact h.1
theorem idxF_has {l : List Pg} {to : Int} {k : Nat} (h : idxF l to = some k) (hk : k < l.length) : (l[k]).at_ ≤ to ∧ to - (l[k]).at_ < 256 := by
  unfold idxF at h
  rw [List.findIdx?_eq_some_iff_getElem] at h
  have := h.2.1
  unfold hasPg at this
  exact of_decide_eq_true this
set_option maxHeartbeats 1000000 in
theorem at_any {A : Option Addr} {cap : Nat} {L : List Pg} {w : World} {B : Nat} (to : Int) (hto : 0 ≤ to ∧ to ≤ 18446744073709551615) (hL : Mem w B A cap L) (hwf : ∀ p ∈ L, p.ok) (hlen : L.length ≤ 140737488351232) :
    Calls Tryd.prog 64 #[.slice A L.length cap, .int .u64 to] w fun e w' => e = .returned (.int .i64 (atI L to)) ∧ w = w' := by
  have HWF := Lib.hid hwf
  clear hwf
  go_enter Tryd.func64, Tryd.ntmps64
  go_wp2
  go_loop [5] (fun i => ∃ k : Nat, k ≤ L.length ∧ i = .int .i64 k ∧ Hid (∀ j : Nat, ∀ hj : j < L.length, j < k → hasPg to L[j] = false)) (fun i => L.length - (intOf i).toNat)
  case atStart => exact ⟨0, Nat.zero_le _, rfl, fun j _ hj => absurd hj (Nat.not_lt_zero _)⟩
  case round =>
    obtain ⟨k, hk, rfl, hno⟩ := hrel
    by_cases hlt : k < L.length
    · obtain ⟨b, off, rfl, hb, c0, c1, c2⟩ := Mem.pg hL hlt
      obtain ⟨ha, hp, hd⟩ := HWF.out _ (List.getElem_mem hlt)
      clear c1 c2
      by_cases h1 : (L[k]).at_ ≤ to
      · by_cases h2 : to - (L[k]).at_ < 256
        · have hh := atI_hit hlt (decide_eq_true ⟨h1, h2⟩) (fun j hj hjk => hno.out j hj hjk)
          have HH := Lib.hid (show atI L to = k by unfold atI; rw [hh])
          clear hh
          go_wp2
          go_ret
          exact ⟨ret_int HH.out.symm, rfl⟩
        · have hm := Lib.hid (show hasPg to L[k] = false from decide_eq_false fun h => h2 h.2)
          go_wp2
          go_round
          case rel => exact ⟨k + 1, hlt, by go_num, fun j hj hjk => if e : j = k then by subst e; exact hm.out else hno.out j hj (by omega)⟩
          case measure => simp [intOf]; omega
      · have hm := Lib.hid (show hasPg to L[k] = false from decide_eq_false fun h => h1 h.1)
        go_wp2
        go_round
        case rel => exact ⟨k + 1, hlt, by go_num, fun j hj hjk => if e : j = k then by subst e; exact hm.out else hno.out j hj (by omega)⟩
        case measure => simp [intOf]; omega
    · obtain rfl : k = L.length := by omega
      have hh := atI_none (fun j hj => hno.out j hj hj)
      have HH := Lib.hid (show atI L to = -1 by unfold atI; rw [hh])
      clear hh
      go_wp2
      go_ret
      exact ⟨ret_int HH.out.symm, rfl⟩
def grantB (p : Pg) (perm : Int) : Bool := bits .and .i64 p.perm perm == perm
theorem grants_any (p : Pg) (perm : Int) (w : World) :
    Calls Tryd.prog 65 #[.agg #[.int .u64 p.at_, .int .i64 p.perm, .string p.data], .int .i64 perm] w fun e w' => e = .returned (.bool (grantB p perm)) ∧ Below w.heap.size w w' := by
  go_enter Tryd.func65, Tryd.ntmps65
  go_wp2
  go_ret
  exact ⟨rfl, (Below.refl _ _).alloc (Nat.le_refl _) _⟩
/-! ### Load -/
/-- place number k from 'at' on: the byte there, if there is a page that may be used so -/
def byteAt (l : List Pg) (at_ perm : Int) (k : Nat) : Option Int :=
  if (at_ + k) % 18446744073709551616 < at_ then none else
    (idxF l ((at_ + k) % 18446744073709551616)).bind fun i => (l[i]?).bind fun p => if grantB p perm then some (byteI p.data ((at_ + k) % 18446744073709551616 - p.at_).toNat) else none
def loadN (l : List Pg) (at_ perm : Int) : Nat → Option Int
  | 0 => some 0
  | n + 1 => (loadN l at_ perm n).bind fun v => (byteAt l at_ perm n).map fun b => v + 256 ^ n * b
theorem loadN_none {l : List Pg} {at_ perm : Int} {n : Nat} (h : loadN l at_ perm n = none) : ∀ {m : Nat}, n ≤ m → loadN l at_ perm m = none
  | 0, hm => by obtain rfl : n = 0 := by omega
                exact h
  | m + 1, hm => by
    by_cases e : n = m + 1
    · rw [← e]; exact h
    · simp [loadN, loadN_none h (show n ≤ m by omega)]
theorem byteAt_bd {l : List Pg} {at_ perm : Int} {k : Nat} {b : Int} (h : byteAt l at_ perm k = some b) : 0 ≤ b ∧ b < 256 := by
  unfold byteAt at h
  split at h
  · cases h
  · simp only [Option.bind_eq_some_iff] at h
    obtain ⟨i, _, p, _, h⟩ := h
    split at h
    · cases h; exact byteI_bd _ _
    · cases h
theorem pow256_pos (n : Nat) : (0 : Int) < 256 ^ n := Int.pow_pos (by decide)
theorem loadN_bd {l : List Pg} {at_ perm : Int} : ∀ {n : Nat} {v : Int}, loadN l at_ perm n = some v → 0 ≤ v ∧ v < 256 ^ n
  | 0, v, h => by simp [loadN] at h; subst h; decide
  | n + 1, v, h => by
    simp only [loadN, Option.bind_eq_some_iff, Option.map_eq_some_iff] at h
    obtain ⟨u, hu, b, hb, rfl⟩ := h
    have h1 := loadN_bd hu
    have h2 := byteAt_bd hb
    have hp := pow256_pos n
    rw [Int.pow_succ]
    have h3 : 256 ^ n * b ≤ 256 ^ n * 255 := Int.mul_le_mul_of_nonneg_left (by omega) (Int.le_of_lt hp)
    have h4 : 0 ≤ (256 : Int) ^ n * b := Int.mul_nonneg (Int.le_of_lt hp) h2.1
    omega
noncomputable def loadV (l : List Pg) (at_ n perm : Int) : Int := if (1 ≤ n ∧ n ≤ 8) ∧ rightB l = true then (loadN l at_ perm n.toNat).getD 0 else 0
noncomputable def loadE (l : List Pg) (at_ n perm : Int) : Int := if (1 ≤ n ∧ n ≤ 8) ∧ rightB l = true then (if (loadN l at_ perm n.toNat).isSome then 0 else 6) else 1
end Go.Proofs.YtajhehmkdlebbaaDoor
