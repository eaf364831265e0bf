/- What an instruction reckons, whether a branch goes: rv's and the reference's. -/
import Derived.Test.YtajhehmkdlebbaaDoorQRvPl
namespace Go.Proofs.YtajhehmkdlebbaaDoor
open Go.ChangeShapes Go.WideShapes Go.ChangeAt Go.RowKit Go.Deep
set_option maxRecDepth 100000
theorem pow64_bd (n : Nat) (h : n < 64) : (1 : Int) ≤ 2 ^ n ∧ (2 : Int) ^ n ≤ 9223372036854775808 := by
  have h1 : (1 : Nat) ≤ 2 ^ n := Nat.one_le_two_pow
  have h2 : (2 : Nat) ^ n ≤ 2 ^ 63 := Nat.pow_le_pow_right (by omega) (by omega)
  have e : (2 : Int) ^ n = ((2 ^ n : Nat) : Int) := (Int.natCast_pow 2 n).symm
  rw [e]
  omega
theorem power64_any (n : Int) (w : World) (h : 0 ≤ n ∧ n < 64) :
    Calls Tryd.prog 71 #[.int .u64 n] w fun e w' => e = .returned (.int .u64 (2 ^ n.toNat)) ∧ w = w' := by
  obtain ⟨m, rfl⟩ := Int.eq_ofNat_of_zero_le h.1
  rw [Int.toNat_natCast]
  go_enter Tryd.func71, Tryd.ntmps71
  go_wp2
  go_loop [0, 3] (fun i v => ∃ k : Nat, k ≤ m ∧ i = .int .u64 ((m - k : Nat) : Int) ∧ v = .int .u64 ((2 : Int) ^ k)) (fun i _ => (intOf i).toNat)
  case atStart => exact ⟨0, Nat.zero_le _, rfl, rfl⟩
  case round =>
    obtain ⟨k, hk, rfl, rfl⟩ := hrel
    obtain ⟨r, hr⟩ : ∃ r, r = m - k := ⟨_, rfl⟩
    rw [← hr]
    have HR := Lib.hid hr
    have hr32 : r < 64 := by omega
    clear hr
    by_cases hlt : 0 < r
    · have hr := HR.out
      have b1 := pow64_bd k (by omega)
      have b2 := pow64_bd (k + 1) (by omega)
      have e1 : (2 : Int) ^ (k + 1) = 2 ^ k + 2 ^ k := by rw [Int.pow_succ]; omega
      have E := Lib.hid e1
      rw [e1] at b2
      clear e1 hr
      go_wp2
      go_round
      case rel => exact ⟨k + 1, by have := HR.out; omega, by have := HR.out; rw [show ((m - (k + 1) : Nat) : Int) = (r : Int) - 1 by omega], by rw [E.out]⟩
      case measure => simp [intOf]; omega
    · have hr := HR.out
      obtain rfl : k = m := by omega
      clear hr
      go_wp2
      go_ret
      exact ⟨rfl, rfl⟩
theorem below64_any (a b : Int) (w : World) :
    Calls Tryd.prog 38 #[.int .u64 a, .int .u64 b] w fun e w' => e = .returned (.int .u64 (if a < b then 1 else 0)) ∧ w = w' := by
  by_cases h : a < b
  · rw [if_pos h]
    go_enter Tryd.func38, Tryd.ntmps38
    go_wp2
    go_ret
    exact ⟨rfl, rfl⟩
  · rw [if_neg h]
    go_enter Tryd.func38, Tryd.ntmps38
    go_wp2
    go_ret
    exact ⟨rfl, rfl⟩
/-- the kinds told apart -/
theorem kind_cases (k : Int) : (k = 1 ∨ k = 2 ∨ k = 3 ∨ k = 4 ∨ k = 5 ∨ k = 6 ∨ k = 7 ∨ k = 8 ∨ k = 9 ∨ k = 10 ∨ k = 11 ∨ k = 12 ∨ k = 13 ∨ k = 14 ∨ k = 15 ∨ k = 16 ∨ k = 17 ∨ k = 18 ∨ k = 27 ∨ k = 28 ∨ k = 29 ∨ k = 30) ∨
    ((¬ (1 ≤ k ∧ k ≤ 11)) ∧ (¬ (12 ≤ k ∧ k ≤ 18)) ∧ k ≠ 27 ∧ k ≠ 28 ∧ k ≠ 29 ∧ k ≠ 30) := by omega
theorem neq_kind {k j : Int} (h : k ≠ j) : (k == j) = false := beq_eq_false_iff_ne.2 h
theorem shl_eq (a b : Int) (hb : U64 b) : IntKind.u64.wrap (a * 2 ^ min (b % 64).toNat 64) = IntKind.u64.wrap (a * 2 ^ (b % 64).toNat) := by
  have := hb.1
  rw [show min (b % 64).toNat 64 = (b % 64).toNat by omega]
theorem shr_eq (a b : Int) (hb : U64 b) : a.fdiv (2 ^ min (b % 64).toNat 64) = a / 2 ^ (b % 64).toNat := by
  have := hb.1
  rw [show min (b % 64).toNat 64 = (b % 64).toNat by omega, Int.fdiv_eq_ediv_of_nonneg _ (Int.le_of_lt (Int.pow_pos (by decide)))]
end Go.Proofs.YtajhehmkdlebbaaDoor
