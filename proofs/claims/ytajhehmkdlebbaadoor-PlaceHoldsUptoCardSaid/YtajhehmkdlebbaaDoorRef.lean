/- The reference's small functions: form, reg, power, part, below, fixed. -/
import Derived.Test.YtajhehmkdlebbaaDoorWord
namespace Go.Proofs.YtajhehmkdlebbaaDoor
open Go.ChangeShapes Go.WideShapes Go.ChangeAt Go.RowKit
set_option maxRecDepth 100000
def regB (n : Int) : Bool := decide (0 ≤ n ∧ n ≤ 31)
theorem reg_any (n : Int) (w : World) :
    Calls Tryd.prog 102 #[.int .i64 n] w fun e w' => e = .returned (.bool (regB n)) ∧ w = w' := by
  by_cases c : 0 ≤ n
  · go_enter Tryd.func102, Tryd.ntmps102
    go_wp2
    go_ret
    exact ⟨ret_bool (by unfold regB; exact decide_eq_decide.2 ⟨fun h => ⟨c, h⟩, fun h => h.2⟩), rfl⟩
  · go_enter Tryd.func102, Tryd.ntmps102
    go_wp2
    go_ret
    exact ⟨ret_bool (by unfold regB; exact (decide_eq_false (by omega)).symm), rfl⟩
theorem pow_bd (n : Nat) (h : n < 32) : (1 : Int) ≤ 2 ^ n ∧ (2 : Int) ^ n ≤ 2147483648 := by
  have h1 : (1 : Nat) ≤ 2 ^ n := Nat.one_le_two_pow
  have h2 : (2 : Nat) ^ n ≤ 2 ^ 31 := Nat.pow_le_pow_right (by omega) (by omega)
  have e : (2 : Int) ^ n = ((2 ^ n : Nat) : Int) := (Int.natCast_pow 2 n).symm
  rw [e]
  omega
theorem power_any (n : Int) (w : World) (h : 0 ≤ n ∧ n < 32) :
    Calls Tryd.prog 90 #[.int .i64 n] w fun e w' => e = .returned (.int .u32 (2 ^ n.toNat)) ∧ w = w' := by
  obtain ⟨m, rfl⟩ := Int.eq_ofNat_of_zero_le h.1
  rw [Int.toNat_natCast]
  go_enter Tryd.func90, Tryd.ntmps90
  go_wp2
  go_loop [0, 3] (fun i v => ∃ k : Nat, k ≤ m ∧ i = .int .i64 ((m - k : Nat) : Int) ∧ v = .int .u32 ((2 : Int) ^ k)) (fun i _ => (intOf i).toNat)
  case atStart => exact ⟨0, Nat.zero_le _, rfl, rfl⟩
  case round =>
    obtain ⟨k, hk, rfl, rfl⟩ := hrel
    obtain ⟨r, hr⟩ : ∃ r, r = m - k := ⟨_, rfl⟩
    rw [← hr]
    have HR := Lib.hid hr
    have hr32 : r < 32 := by omega
    clear hr
    by_cases hlt : 0 < r
    · have hr := HR.out
      have b1 := pow_bd k (by omega)
      have b2 := pow_bd (k + 1) (by omega)
      have e1 : (2 : Int) ^ (k + 1) = 2 ^ k + 2 ^ k := by rw [Int.pow_succ]; omega
      have E := Lib.hid e1
      rw [e1] at b2
      clear e1 hr
      go_wp2
      go_round
      case rel => exact ⟨k + 1, by have := HR.out; omega, by have := HR.out; rw [show ((m - (k + 1) : Nat) : Int) = (r : Int) - 1 by omega], by rw [E.out]⟩
      case measure => simp [intOf]; omega
    · have hr := HR.out
      obtain rfl : k = m := by omega
      clear hr
      go_wp2
      go_ret
      exact ⟨rfl, rfl⟩
theorem part_any (n F M : Int) (w : World) (hn : 0 ≤ n ∧ n < 4294967296) (hF : 0 ≤ F ∧ F < 32) (hM : 0 ≤ M ∧ M < 32) :
    Calls Tryd.prog 67 #[.int .u32 n, .int .i64 F, .int .i64 M] w fun e w' => e = .returned (.int .u32 (n / 2 ^ F.toNat % 2 ^ M.toNat)) ∧ ∃ k, w.drewN k = w' := by
  have b1 := pow_bd F.toNat (by omega)
  have b2 := pow_bd M.toNat (by omega)
  have b3 : (2 : Int) ^ F.toNat ≠ 0 := by omega
  have b4 : (2 : Int) ^ M.toNat ≠ 0 := by omega
  have b5 : 0 ≤ n / 2 ^ F.toNat := Int.ediv_nonneg hn.1 (by omega)
  go_enter Tryd.func67, Tryd.ntmps67
  go_wp2
  go_quiet ((go_at_call 90; exact Calls.quiet_of_same ((power_any _ _ (by omega)).mono fun _ _ h => ⟨h.1, h.2.symm⟩)))
  go_wp2
  go_ret
  exact ⟨rfl, nq, rfl⟩
theorem form_any (k : Int) (w : World) (h : 1 ≤ k ∧ k ≤ 31) :
    Calls Tryd.prog 66 #[.int .i64 k] w fun e w' => e = .returned (.int .u8 (formI k)) ∧ w = w' := by
  have hc : k = 1 ∨ k = 2 ∨ k = 3 ∨ k = 4 ∨ k = 5 ∨ k = 6 ∨ k = 7 ∨ k = 8 ∨ k = 9 ∨ k = 10 ∨ k = 11 ∨ k = 12 ∨ k = 13 ∨ k = 14 ∨ k = 15 ∨ k = 16 ∨ k = 17 ∨ k = 18 ∨ k = 19 ∨ k = 20 ∨ k = 21 ∨ k = 22 ∨ k = 23 ∨ k = 24 ∨ k = 25 ∨ k = 26 ∨ k = 27 ∨ k = 28 ∨ k = 29 ∨ k = 30 ∨ k = 31 := by omega
  clear h
  rcases hc with rfl | rfl | rfl | rfl | rfl | rfl | rfl | rfl | rfl | rfl | rfl | rfl | rfl | rfl | rfl | rfl | rfl | rfl | rfl | rfl | rfl | rfl | rfl | rfl | rfl | rfl | rfl | rfl | rfl | rfl | rfl
  all_goals
    go_enter Tryd.func66, Tryd.ntmps66
    go_wp2
    go_ret
    exact ⟨rfl, rfl⟩
theorem below_any (n M : Int) (w : World) (hn : 0 ≤ n ∧ n < 4294967296) (hM : 1 ≤ M ∧ M < 33) :
    Calls Tryd.prog 68 #[.int .u32 n, .int .i64 M] w fun e w' => e = .returned (.int .i64 (if 2 ^ (M.toNat - 1) ≤ n then n - 2 * 2 ^ (M.toNat - 1) else n)) ∧ w = w' := by
  have b1 := pow_bd (M.toNat - 1) (by omega)
  by_cases c : (2 : Int) ^ (M.toNat - 1) ≤ n
  · rw [if_pos c]
    go_enter Tryd.func68, Tryd.ntmps68
    go_wp2_with (go_at_call 90; refine (power_any _ _ (by omega)).mono ?_; rintro e w' ⟨rfl, rfl⟩)
    go_ret
    exact ⟨rfl, rfl⟩
  · rw [if_neg c]
    go_enter Tryd.func68, Tryd.ntmps68
    go_wp2_with (go_at_call 90; refine (power_any _ _ (by omega)).mono ?_; rintro e w' ⟨rfl, rfl⟩)
    go_ret
    exact ⟨rfl, rfl⟩
end Go.Proofs.YtajhehmkdlebbaaDoor
