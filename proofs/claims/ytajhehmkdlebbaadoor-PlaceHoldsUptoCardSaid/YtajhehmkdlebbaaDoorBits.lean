/- enc.bits: some bits of a number at a place; and what 'or' of numbers apart comes to. -/
import Derived.Test.YtajhehmkdlebbaaDoorLib
import Derived.Deep.QuietTactic
import Derived.BigQuiet
namespace Go.Proofs.YtajhehmkdlebbaaDoor
open Go.ChangeShapes Go.WideShapes Go.ChangeAt Go.RowKit
def bitsI (n : Int) (f m t : Nat) : Int := n / 2 ^ f % 2 ^ m * 2 ^ t % 4294967296
theorem u32_and_mask (x : Int) (m : Nat) (h0 : 0 ≤ x) (h1 : x < 4294967296) (hm : m < 32) : bits BinOp.and IntKind.u32 x ((2 ^ m - 1) % 4294967296) = x % 2 ^ m := by
  obtain ⟨a, rfl⟩ := Int.eq_ofNat_of_zero_le h0
  have hp : (2 ^ m : Nat) ≤ 2147483648 := by
    have := Nat.pow_le_pow_right (show 0 < 2 by omega) (show m ≤ 31 by omega)
    exact Nat.le_trans this (by decide)
  have hp1 : 1 ≤ (2 ^ m : Nat) := Nat.one_le_two_pow
  have e : ((2 : Int) ^ m - 1) % 4294967296 = ((2 ^ m - 1 : Nat) : Int) := by
    have : (2 : Int) ^ m = ((2 ^ m : Nat) : Int) := by simp
    rw [this]
    omega
  rw [e, u32_and_nat a (2 ^ m - 1) (by omega) (by omega), Nat.and_two_pow_sub_one_eq_mod]
  simp
theorem bits_any (n : Int) (f m t : Nat) (w : World) (h0 : 0 ≤ n) (h1 : n < 4294967296) (hf : f < 32) (hm : m < 32) (ht : t < 32) :
    Calls Tryd.prog 99 #[.int .u32 n, .int .i64 f, .int .i64 m, .int .i64 t] w fun e w' => e = .returned (.int .u32 (bitsI n f m t)) ∧ ∃ k, w.drewN k = w' := by
  go_enter Tryd.func99, Tryd.ntmps99
  go_wp2
  go_quiet (fail)
  go_wp2
  go_ret
  refine ⟨ret_int ?_, nq, rfl⟩
  have hp : (1 : Int) ≤ 2 ^ f := by
    have := Nat.one_le_two_pow (n := f)
    exact_mod_cast this
  have hx0 : 0 ≤ n / 2 ^ f := Int.ediv_nonneg h0 (by omega)
  have hx1 : n / 2 ^ f < 4294967296 := by
    have := Int.ediv_le_self (2 ^ f) h0
    omega
  unfold bitsI
  rw [← u32_and_mask _ m hx0 hx1 hm]
theorem bits_at (n F M T : Int) (w : World) (h0 : 0 ≤ n) (h1 : n < 4294967296) (hF : 0 ≤ F ∧ F < 32) (hM : 0 ≤ M ∧ M < 32) (hT : 0 ≤ T ∧ T < 32) :
    Calls Tryd.prog 99 #[.int .u32 n, .int .i64 F, .int .i64 M, .int .i64 T] w fun e w' => e = .returned (.int .u32 (bitsI n F.toNat M.toNat T.toNat)) ∧ ∃ k, w.drewN k = w' := by
  obtain ⟨f, rfl⟩ := Int.eq_ofNat_of_zero_le hF.1
  obtain ⟨m, rfl⟩ := Int.eq_ofNat_of_zero_le hM.1
  obtain ⟨t, rfl⟩ := Int.eq_ofNat_of_zero_le hT.1
  exact bits_any n f m t w h0 h1 (by omega) (by omega) (by omega)
/-- 'or' of two numbers apart is their sum -/
theorem or_sum (x y : Int) (i : Nat) (hx0 : 0 ≤ x) (hx1 : x < 2 ^ i) (hy0 : 0 ≤ y) (hy1 : y < 4294967296) (hd : y % 2 ^ i = 0) (hi : i ≤ 32) : bits BinOp.or IntKind.u32 x y = x + y ∧ bits BinOp.or IntKind.u32 y x = x + y := by
  obtain ⟨a, rfl⟩ := Int.eq_ofNat_of_zero_le hx0
  obtain ⟨b, rfl⟩ := Int.eq_ofNat_of_zero_le hy0
  have hp : (2 ^ i : Nat) ≤ 4294967296 := Nat.pow_le_pow_right (show 0 < 2 by omega) hi
  have ha : a < 2 ^ i := by
    have : (2 : Int) ^ i = ((2 ^ i : Nat) : Int) := by simp
    rw [this] at hx1; omega
  have hb : b % 2 ^ i = 0 := by
    have : (2 : Int) ^ i = ((2 ^ i : Nat) : Int) := by simp
    rw [this] at hd; exact_mod_cast hd
  have e : b = 2 ^ i * (b / 2 ^ i) := by
    have := Nat.div_add_mod b (2 ^ i)
    omega
  have h := Nat.two_pow_add_eq_or_of_lt ha (b / 2 ^ i)
  rw [← e] at h
  rw [u32_or_nat a b (by omega) (by omega), u32_or_nat b a (by omega) (by omega), Nat.or_comm a b, ← h]
  constructor <;> omega
end Go.Proofs.YtajhehmkdlebbaaDoor
