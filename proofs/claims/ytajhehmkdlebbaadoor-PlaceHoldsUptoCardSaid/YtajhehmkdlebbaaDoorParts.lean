/- enc.parts: an instruction of a kind, out of a word. -/
import Derived.Test.YtajhehmkdlebbaaDoorWord
namespace Go.Proofs.YtajhehmkdlebbaaDoor
open Go.ChangeShapes Go.WideShapes Go.ChangeAt Go.RowKit
set_option maxRecDepth 100000
def pRd (f : Nat) (v : Int) : Int := if f = 82 ∨ f = 73 ∨ f = 72 ∨ f = 85 ∨ f = 74 then v / 128 % 32 else 0
def pA (f : Nat) (v : Int) : Int := if f = 82 ∨ f = 73 ∨ f = 72 ∨ f = 83 ∨ f = 66 then v / 32768 % 32 else 0
def pB (f : Nat) (v : Int) : Int := if f = 82 ∨ f = 83 ∨ f = 66 then v / 1048576 % 32 else 0
def pI (f : Nat) (v : Int) : Int :=
  if f = 73 then v / 1048576 - v / 2147483648 * 4096
  else if f = 72 then v / 1048576
  else if f = 83 then v / 33554432 * 32 + v / 128 % 32 - v / 2147483648 * 4096
  else if f = 66 then v / 128 % 2 * 2048 + v / 33554432 % 64 * 32 + v / 256 % 16 * 2 - v / 2147483648 * 4096
  else if f = 85 then v / 4096 * 4096 - v / 2147483648 * 4294967296
  else if f = 74 then v / 4096 % 256 * 4096 + v / 1048576 % 2 * 2048 + v / 2097152 % 1024 * 2 - v / 2147483648 * 1048576
  else 0
theorem u32_and_mask5 (x : Int) (h0 : 0 ≤ x) (h1 : x < 4294967296) : bits BinOp.and IntKind.u32 x 31 = x % 32 := by
  have := u32_and_mask x 5 h0 h1 (by decide)
  simpa using this
/-! ### The numbers -/
theorem i64_or_add {x y : Int} (p : Int) (i : Nat) (hp : p = 2 ^ i) (hi : i ≤ 62) (hx : -4611686018427387904 ≤ x ∧ x < 4611686018427387904) (hd : x % p = 0) (hy : 0 ≤ y ∧ y < p) : bits BinOp.or IntKind.i64 x y = x + y := by
  obtain ⟨b, rfl⟩ := Int.eq_ofNat_of_zero_le hy.1
  have hpn : p = ((2 ^ i : Nat) : Int) := hp.trans (Int.natCast_pow 2 i).symm
  have hple : (2 ^ i : Nat) ≤ 4611686018427387904 := Nat.pow_le_pow_right (show 0 < 2 by omega) hi
  have hdvd : (2 ^ i : Nat) ∣ 18446744073709551616 := by
    rw [show (18446744073709551616 : Nat) = 2 ^ 64 from rfl]
    exact Nat.pow_dvd_pow 2 (by omega)
  obtain ⟨a, ha⟩ := Int.eq_ofNat_of_zero_le (Int.emod_nonneg x (show (18446744073709551616 : Int) ≠ 0 by decide))
  have hb : b < 2 ^ i := by have := hy.2; rw [hpn] at this; omega
  have ha1 : a < 18446744073709551616 := by have := Int.emod_lt_of_pos x (show (0 : Int) < 18446744073709551616 by decide); omega
  have hdvdI : ((2 ^ i : Nat) : Int) ∣ ((18446744073709551616 : Nat) : Int) := Int.natCast_dvd_natCast.2 hdvd
  have had : a % 2 ^ i = 0 := by
    have h1 : ((2 ^ i : Nat) : Int) ∣ x := by rw [← hpn]; exact Int.dvd_of_emod_eq_zero hd
    have h2 : ((2 ^ i : Nat) : Int) ∣ (a : Int) := by
      rw [← ha, Int.emod_def]
      exact Int.dvd_sub h1 (Int.dvd_trans hdvdI (Int.dvd_mul_right _ _))
    exact Nat.mod_eq_zero_of_dvd (Int.natCast_dvd_natCast.1 h2)
  have e : a = 2 ^ i * (a / 2 ^ i) := by
    have := Nat.div_add_mod a (2 ^ i)
    omega
  have hor := Nat.two_pow_add_eq_or_of_lt hb (a / 2 ^ i)
  rw [← e] at hor
  show IntKind.i64.wrap ((BitVec.ofInt 64 x ||| BitVec.ofInt 64 (b : Int)).toNat : Int) = _
  have e1 : (BitVec.ofInt 64 x).toNat = a := by
    rw [BitVec.toNat_ofInt]
    have : x % (2 ^ 64 : Nat) = (a : Int) := ha
    rw [this]; rfl
  have e2 : (BitVec.ofInt 64 (b : Int)).toNat = b := by
    rw [BitVec.ofInt_natCast, BitVec.toNat_ofNat]; exact Nat.mod_eq_of_lt (by omega)
  rw [BitVec.toNat_or, e1, e2, ← hor, IntKind.wrap_i64]
  clear hor e had hdvd hdvdI e1 e2 hd hpn hp
  omega
theorem and_high (a m n : Nat) : a &&& (m * 2 ^ n) = ((a / 2 ^ n) &&& m) * 2 ^ n := by
  apply Nat.eq_of_testBit_eq
  intro i
  rw [Nat.testBit_and, Nat.testBit_mul_two_pow, Nat.testBit_mul_two_pow, Nat.testBit_and, Nat.testBit_div_two_pow]
  by_cases h : n ≤ i
  · simp [h, Nat.sub_add_cancel h]
  · simp [h]
theorem andNot_4095 (x : Int) (h0 : 0 ≤ x) (h1 : x < 4294967296) : bits .andNot .u32 x 4095 = x / 4096 * 4096 := by
  obtain ⟨a, rfl⟩ := Int.eq_ofNat_of_zero_le h0
  have h2 := u32_andNot_nat a 4095 (by omega) (by omega)
  rw [show ((4095 : Nat) : Int) = 4095 from rfl] at h2
  rw [h2, show (4294967295 - 4095 : Nat) = 1048575 * 2 ^ 12 by decide, and_high, show (1048575 : Nat) = 2 ^ 20 - 1 by decide, Nat.and_two_pow_sub_one_eq_mod]
  omega
theorem or_add' {x y : Int} (p : Int) (i : Nat) (hp : p = 2 ^ i) (hi : i ≤ 32) (hx0 : 0 ≤ x) (hx1 : x < p) (hy0 : 0 ≤ y) (hy1 : y < 4294967296) (hd : y % p = 0) : bits BinOp.or IntKind.u32 y x = x + y := by
  subst hp
  exact (or_sum x y i hx0 hx1 hy0 hy1 hd hi).2
theorem wrap32_u {v : Int} (hv : 0 ≤ v ∧ v < 4294967296) : wrap32 v = v - v / 2147483648 * 4294967296 := by unfold wrap32; omega
theorem wrap64_id {x : Int} (h : -9223372036854775808 ≤ x ∧ x < 9223372036854775808) : wrap64 x = x := by unfold wrap64; omega
theorem wrap32_id {x : Int} (h : -2147483648 ≤ x ∧ x < 2147483648) : wrap32 x = x := by unfold wrap32; omega
theorem q_7_1_11 (v : Int) : bitsI v 7 1 11 = v / 128 % 2 * 2048 := by simp only [bitsI, Int.reducePow]; omega
theorem q_25_6_5 (v : Int) : bitsI v 25 6 5 = v / 33554432 % 64 * 32 := by simp only [bitsI, Int.reducePow]; omega
theorem q_8_4_1 (v : Int) : bitsI v 8 4 1 = v / 256 % 16 * 2 := by simp only [bitsI, Int.reducePow]; omega
theorem q_12_8_12 (v : Int) : bitsI v 12 8 12 = v / 4096 % 256 * 4096 := by simp only [bitsI, Int.reducePow]; omega
theorem q_20_1_11 (v : Int) : bitsI v 20 1 11 = v / 1048576 % 2 * 2048 := by simp only [bitsI, Int.reducePow]; omega
theorem q_21_10_1 (v : Int) : bitsI v 21 10 1 = v / 2097152 % 1024 * 2 := by simp only [bitsI, Int.reducePow]; omega
section
variable {v : Int} (hv : 0 ≤ v ∧ v < 4294967296)
include hv
theorem n_I : wrap64 (wrap32 v / 1048576) = pI 73 v := by
  rw [wrap32_u hv, wrap64_id (by omega)]
  show _ = v / 1048576 - v / 2147483648 * 4096
  omega
theorem n_S : bits BinOp.or IntKind.i64 (wrap64 (wrap32 (wrap32 v / 33554432 * 32))) (v / 128 % 32) = pI 83 v := by
  have e : wrap32 v / 33554432 * 32 = v / 33554432 * 32 - v / 2147483648 * 4096 := by rw [wrap32_u hv]; omega
  rw [e, wrap32_id (by omega), wrap64_id (by omega), i64_or_add 32 5 (by decide) (by decide) (by omega) (by omega) (by omega)]
  show _ = v / 33554432 * 32 + v / 128 % 32 - v / 2147483648 * 4096
  omega
theorem n_B : bits BinOp.or IntKind.i64 (wrap64 (wrap32 (wrap32 v / 2147483648 * 4096))) (wrap64 (bits BinOp.or IntKind.u32 (bits BinOp.or IntKind.u32 (bitsI v 7 1 11) (bitsI v 25 6 5)) (bitsI v 8 4 1))) = pI 66 v := by
  have e : wrap32 v / 2147483648 * 4096 = - (v / 2147483648 * 4096) := by rw [wrap32_u hv]; omega
  rw [e, wrap32_id (by omega), wrap64_id (by omega), q_7_1_11, q_25_6_5, q_8_4_1]
  show _ = v / 128 % 2 * 2048 + v / 33554432 % 64 * 32 + v / 256 % 16 * 2 - v / 2147483648 * 4096
  have hv4 : 0 ≤ v / 2147483648 ∧ v / 2147483648 < 2 := by omega
  generalize v / 2147483648 = t at *
  have h1 : 0 ≤ v / 128 % 2 ∧ v / 128 % 2 < 2 := by omega
  have h2 : 0 ≤ v / 33554432 % 64 ∧ v / 33554432 % 64 < 64 := by omega
  have h3 : 0 ≤ v / 256 % 16 ∧ v / 256 % 16 < 16 := by omega
  generalize v / 128 % 2 = q at *
  generalize v / 33554432 % 64 = r at *
  generalize v / 256 % 16 = s at *
  clear e hv
  rw [or_add' (x := r * 32) 2048 11 (by decide) (by decide) (by omega) (by omega) (by omega) (by omega) (by omega), or_add' (x := s * 2) 32 5 (by decide) (by decide) (by omega) (by omega) (by omega) (by omega) (by omega),
    wrap64_id (by omega), i64_or_add 4096 12 (by decide) (by decide) (by omega) (by omega) (by omega)]
  omega
theorem n_U : wrap64 (wrap32 (bits BinOp.andNot IntKind.u32 v 4095)) = pI 85 v := by
  rw [andNot_4095 v hv.1 hv.2, wrap32_u (by omega), wrap64_id (by omega)]
  show _ = v / 4096 * 4096 - v / 2147483648 * 4294967296
  omega
theorem n_J : bits BinOp.or IntKind.i64 (wrap64 (wrap32 (wrap32 v / 2147483648 * 1048576))) (wrap64 (bits BinOp.or IntKind.u32 (bits BinOp.or IntKind.u32 (bitsI v 12 8 12) (bitsI v 20 1 11)) (bitsI v 21 10 1))) = pI 74 v := by
  have e : wrap32 v / 2147483648 * 1048576 = - (v / 2147483648 * 1048576) := by rw [wrap32_u hv]; omega
  rw [e, wrap32_id (by omega), wrap64_id (by omega), q_12_8_12, q_20_1_11, q_21_10_1]
  show _ = v / 4096 % 256 * 4096 + v / 1048576 % 2 * 2048 + v / 2097152 % 1024 * 2 - v / 2147483648 * 1048576
  have hv4 : 0 ≤ v / 2147483648 ∧ v / 2147483648 < 2 := by omega
  generalize v / 2147483648 = t at *
  have h1 : 0 ≤ v / 4096 % 256 ∧ v / 4096 % 256 < 256 := by omega
  have h2 : 0 ≤ v / 1048576 % 2 ∧ v / 1048576 % 2 < 2 := by omega
  have h3 : 0 ≤ v / 2097152 % 1024 ∧ v / 2097152 % 1024 < 1024 := by omega
  generalize v / 4096 % 256 = q at *
  generalize v / 1048576 % 2 = r at *
  generalize v / 2097152 % 1024 = s at *
  clear e hv
  rw [or_add' (x := r * 2048) 4096 12 (by decide) (by decide) (by omega) (by omega) (by omega) (by omega) (by omega), or_add' (x := s * 2) 2048 11 (by decide) (by decide) (by omega) (by omega) (by omega) (by omega) (by omega),
    wrap64_id (by omega), i64_or_add 1048576 20 (by decide) (by decide) (by omega) (by omega) (by omega)]
  omega
end
theorem ret_op {k a b c d x y z u : Int} (h1 : a = x) (h2 : b = y) (h3 : c = z) (h4 : d = u) : Ending.returned (.agg #[.int .i64 k, .int .i64 a, .int .i64 b, .int .i64 c, .int .i64 d]) = .returned (.agg #[.int .i64 k, .int .i64 x, .int .i64 y, .int .i64 z, .int .i64 u]) := by rw [h1, h2, h3, h4]
set_option maxHeartbeats 400000 in
theorem parts_R {k : Nat} {v : Int} {w : World} (hs : 0 < w.heap.size) (hk : 1 ≤ k ∧ k < 32) (hv : 0 ≤ v ∧ v < 4294967296) (c0 : w.cell? ⟨0, k * 4, none⟩ = some (.int .u8 82)) :
    Calls Tryd.prog 93 #[.int .i64 k, .int .u32 v] w fun e w' => e = .returned (.agg #[.int .i64 k, .int .i64 (pRd 82 v), .int .i64 (pA 82 v), .int .i64 (pB 82 v), .int .i64 (pI 82 v)]) ∧ Below w.heap.size w w' := by
  have f1 : bits BinOp.and IntKind.u32 (v / 128) 31 = v / 128 % 32 := u32_and_mask5 _ (by omega) (by omega)
  have f2 : bits BinOp.and IntKind.u32 (v / 32768) 31 = v / 32768 % 32 := u32_and_mask5 _ (by omega) (by omega)
  have f3 : bits BinOp.and IntKind.u32 (v / 1048576) 31 = v / 1048576 % 32 := u32_and_mask5 _ (by omega) (by omega)
  go_enter Tryd.func93, Tryd.ntmps93
  go_wp2_with
    (go_at_call 99
     refine (bits_at _ _ _ _ _ hv.1 hv.2 (by omega) (by omega) (by omega)).mono ?_
     rintro e w2 ⟨rfl, nk, rfl⟩)
  refine bodyPost_ret (v := ?v) ?_ rfl ⟨?_, ?_⟩
  rotate_left
  · simp [results, Tryd.results93, go_sem]
    rfl
  · exact rfl
  · exact ((Below.refl _ _).alloc (Nat.le_refl _) _).alloc (by simp) _
set_option maxHeartbeats 400000 in
theorem parts_I {k : Nat} {v : Int} {w : World} (hs : 0 < w.heap.size) (hk : 1 ≤ k ∧ k < 32) (hv : 0 ≤ v ∧ v < 4294967296) (c0 : w.cell? ⟨0, k * 4, none⟩ = some (.int .u8 73)) :
    Calls Tryd.prog 93 #[.int .i64 k, .int .u32 v] w fun e w' => e = .returned (.agg #[.int .i64 k, .int .i64 (pRd 73 v), .int .i64 (pA 73 v), .int .i64 (pB 73 v), .int .i64 (pI 73 v)]) ∧ Below w.heap.size w w' := by
  have f1 : bits BinOp.and IntKind.u32 (v / 128) 31 = v / 128 % 32 := u32_and_mask5 _ (by omega) (by omega)
  have f2 : bits BinOp.and IntKind.u32 (v / 32768) 31 = v / 32768 % 32 := u32_and_mask5 _ (by omega) (by omega)
  have f3 : bits BinOp.and IntKind.u32 (v / 1048576) 31 = v / 1048576 % 32 := u32_and_mask5 _ (by omega) (by omega)
  go_enter Tryd.func93, Tryd.ntmps93
  go_wp2_with
    (go_at_call 99
     refine (bits_at _ _ _ _ _ hv.1 hv.2 (by omega) (by omega) (by omega)).mono ?_
     rintro e w2 ⟨rfl, nk, rfl⟩)
  refine bodyPost_ret (v := ?v) ?_ rfl ⟨?_, ?_⟩
  rotate_left
  · simp [results, Tryd.results93, go_sem]
    rfl
  · exact ret_op rfl rfl rfl (n_I hv)
  · exact ((Below.refl _ _).alloc (Nat.le_refl _) _).alloc (by simp) _
set_option maxHeartbeats 400000 in
theorem parts_H {k : Nat} {v : Int} {w : World} (hs : 0 < w.heap.size) (hk : 1 ≤ k ∧ k < 32) (hv : 0 ≤ v ∧ v < 4294967296) (c0 : w.cell? ⟨0, k * 4, none⟩ = some (.int .u8 72)) :
    Calls Tryd.prog 93 #[.int .i64 k, .int .u32 v] w fun e w' => e = .returned (.agg #[.int .i64 k, .int .i64 (pRd 72 v), .int .i64 (pA 72 v), .int .i64 (pB 72 v), .int .i64 (pI 72 v)]) ∧ Below w.heap.size w w' := by
  have f1 : bits BinOp.and IntKind.u32 (v / 128) 31 = v / 128 % 32 := u32_and_mask5 _ (by omega) (by omega)
  have f2 : bits BinOp.and IntKind.u32 (v / 32768) 31 = v / 32768 % 32 := u32_and_mask5 _ (by omega) (by omega)
  have f3 : bits BinOp.and IntKind.u32 (v / 1048576) 31 = v / 1048576 % 32 := u32_and_mask5 _ (by omega) (by omega)
  go_enter Tryd.func93, Tryd.ntmps93
  go_wp2_with
    (go_at_call 99
     refine (bits_at _ _ _ _ _ hv.1 hv.2 (by omega) (by omega) (by omega)).mono ?_
     rintro e w2 ⟨rfl, nk, rfl⟩)
  refine bodyPost_ret (v := ?v) ?_ rfl ⟨?_, ?_⟩
  rotate_left
  · simp [results, Tryd.results93, go_sem]
    rfl
  · exact rfl
  · exact ((Below.refl _ _).alloc (Nat.le_refl _) _).alloc (by simp) _
set_option maxHeartbeats 400000 in
theorem parts_S {k : Nat} {v : Int} {w : World} (hs : 0 < w.heap.size) (hk : 1 ≤ k ∧ k < 32) (hv : 0 ≤ v ∧ v < 4294967296) (c0 : w.cell? ⟨0, k * 4, none⟩ = some (.int .u8 83)) :
    Calls Tryd.prog 93 #[.int .i64 k, .int .u32 v] w fun e w' => e = .returned (.agg #[.int .i64 k, .int .i64 (pRd 83 v), .int .i64 (pA 83 v), .int .i64 (pB 83 v), .int .i64 (pI 83 v)]) ∧ Below w.heap.size w w' := by
  have f1 : bits BinOp.and IntKind.u32 (v / 128) 31 = v / 128 % 32 := u32_and_mask5 _ (by omega) (by omega)
  have f2 : bits BinOp.and IntKind.u32 (v / 32768) 31 = v / 32768 % 32 := u32_and_mask5 _ (by omega) (by omega)
  have f3 : bits BinOp.and IntKind.u32 (v / 1048576) 31 = v / 1048576 % 32 := u32_and_mask5 _ (by omega) (by omega)
  go_enter Tryd.func93, Tryd.ntmps93
  go_wp2_with
    (go_at_call 99
     refine (bits_at _ _ _ _ _ hv.1 hv.2 (by omega) (by omega) (by omega)).mono ?_
     rintro e w2 ⟨rfl, nk, rfl⟩)
  refine bodyPost_ret (v := ?v) ?_ rfl ⟨?_, ?_⟩
  rotate_left
  · simp [results, Tryd.results93, go_sem]
    rfl
  · exact ret_op rfl rfl rfl (n_S hv)
  · exact ((Below.refl _ _).alloc (Nat.le_refl _) _).alloc (by simp) _
set_option maxHeartbeats 400000 in
theorem parts_B {k : Nat} {v : Int} {w : World} (hs : 0 < w.heap.size) (hk : 1 ≤ k ∧ k < 32) (hv : 0 ≤ v ∧ v < 4294967296) (c0 : w.cell? ⟨0, k * 4, none⟩ = some (.int .u8 66)) :
    Calls Tryd.prog 93 #[.int .i64 k, .int .u32 v] w fun e w' => e = .returned (.agg #[.int .i64 k, .int .i64 (pRd 66 v), .int .i64 (pA 66 v), .int .i64 (pB 66 v), .int .i64 (pI 66 v)]) ∧ Below w.heap.size w w' := by
  have f1 : bits BinOp.and IntKind.u32 (v / 128) 31 = v / 128 % 32 := u32_and_mask5 _ (by omega) (by omega)
  have f2 : bits BinOp.and IntKind.u32 (v / 32768) 31 = v / 32768 % 32 := u32_and_mask5 _ (by omega) (by omega)
  have f3 : bits BinOp.and IntKind.u32 (v / 1048576) 31 = v / 1048576 % 32 := u32_and_mask5 _ (by omega) (by omega)
  go_enter Tryd.func93, Tryd.ntmps93
  go_wp2_with
    (go_at_call 99
     refine (bits_at _ _ _ _ _ hv.1 hv.2 (by omega) (by omega) (by omega)).mono ?_
     rintro e w2 ⟨rfl, nk, rfl⟩)
  refine bodyPost_ret (v := ?v) ?_ rfl ⟨?_, ?_⟩
  rotate_left
  · simp [results, Tryd.results93, go_sem]
    rfl
  · exact ret_op rfl rfl rfl (n_B hv)
  · repeat (first | (with_reducible refine below_drewN ?_ _) | (with_reducible refine Below.setCell ?_ (by simp) _) | (with_reducible refine Below.alloc ?_ (by simp) _) | (with_reducible exact Below.refl _ _))
set_option maxHeartbeats 400000 in
theorem parts_U {k : Nat} {v : Int} {w : World} (hs : 0 < w.heap.size) (hk : 1 ≤ k ∧ k < 32) (hv : 0 ≤ v ∧ v < 4294967296) (c0 : w.cell? ⟨0, k * 4, none⟩ = some (.int .u8 85)) :
    Calls Tryd.prog 93 #[.int .i64 k, .int .u32 v] w fun e w' => e = .returned (.agg #[.int .i64 k, .int .i64 (pRd 85 v), .int .i64 (pA 85 v), .int .i64 (pB 85 v), .int .i64 (pI 85 v)]) ∧ Below w.heap.size w w' := by
  have f1 : bits BinOp.and IntKind.u32 (v / 128) 31 = v / 128 % 32 := u32_and_mask5 _ (by omega) (by omega)
  have f2 : bits BinOp.and IntKind.u32 (v / 32768) 31 = v / 32768 % 32 := u32_and_mask5 _ (by omega) (by omega)
  have f3 : bits BinOp.and IntKind.u32 (v / 1048576) 31 = v / 1048576 % 32 := u32_and_mask5 _ (by omega) (by omega)
  go_enter Tryd.func93, Tryd.ntmps93
  go_wp2_with
    (go_at_call 99
     refine (bits_at _ _ _ _ _ hv.1 hv.2 (by omega) (by omega) (by omega)).mono ?_
     rintro e w2 ⟨rfl, nk, rfl⟩)
  refine bodyPost_ret (v := ?v) ?_ rfl ⟨?_, ?_⟩
  rotate_left
  · simp [results, Tryd.results93, go_sem]
    rfl
  · exact ret_op rfl rfl rfl (n_U hv)
  · exact ((Below.refl _ _).alloc (Nat.le_refl _) _).alloc (by simp) _
set_option maxHeartbeats 400000 in
theorem parts_J {k : Nat} {v : Int} {w : World} (hs : 0 < w.heap.size) (hk : 1 ≤ k ∧ k < 32) (hv : 0 ≤ v ∧ v < 4294967296) (c0 : w.cell? ⟨0, k * 4, none⟩ = some (.int .u8 74)) :
    Calls Tryd.prog 93 #[.int .i64 k, .int .u32 v] w fun e w' => e = .returned (.agg #[.int .i64 k, .int .i64 (pRd 74 v), .int .i64 (pA 74 v), .int .i64 (pB 74 v), .int .i64 (pI 74 v)]) ∧ Below w.heap.size w w' := by
  have f1 : bits BinOp.and IntKind.u32 (v / 128) 31 = v / 128 % 32 := u32_and_mask5 _ (by omega) (by omega)
  have f2 : bits BinOp.and IntKind.u32 (v / 32768) 31 = v / 32768 % 32 := u32_and_mask5 _ (by omega) (by omega)
  have f3 : bits BinOp.and IntKind.u32 (v / 1048576) 31 = v / 1048576 % 32 := u32_and_mask5 _ (by omega) (by omega)
  go_enter Tryd.func93, Tryd.ntmps93
  go_wp2_with
    (go_at_call 99
     refine (bits_at _ _ _ _ _ hv.1 hv.2 (by omega) (by omega) (by omega)).mono ?_
     rintro e w2 ⟨rfl, nk, rfl⟩)
  refine bodyPost_ret (v := ?v) ?_ rfl ⟨?_, ?_⟩
  rotate_left
  · simp [results, Tryd.results93, go_sem]
    rfl
  · exact ret_op rfl rfl rfl (n_J hv)
  · repeat (first | (with_reducible refine below_drewN ?_ _) | (with_reducible refine Below.setCell ?_ (by simp) _) | (with_reducible refine Below.alloc ?_ (by simp) _) | (with_reducible exact Below.refl _ _))
set_option maxHeartbeats 400000 in
theorem parts_E {k : Nat} {v : Int} {w : World} (hs : 0 < w.heap.size) (hk : 1 ≤ k ∧ k < 32) (hv : 0 ≤ v ∧ v < 4294967296) (c0 : w.cell? ⟨0, k * 4, none⟩ = some (.int .u8 69)) :
    Calls Tryd.prog 93 #[.int .i64 k, .int .u32 v] w fun e w' => e = .returned (.agg #[.int .i64 k, .int .i64 (pRd 69 v), .int .i64 (pA 69 v), .int .i64 (pB 69 v), .int .i64 (pI 69 v)]) ∧ Below w.heap.size w w' := by
  have f1 : bits BinOp.and IntKind.u32 (v / 128) 31 = v / 128 % 32 := u32_and_mask5 _ (by omega) (by omega)
  have f2 : bits BinOp.and IntKind.u32 (v / 32768) 31 = v / 32768 % 32 := u32_and_mask5 _ (by omega) (by omega)
  have f3 : bits BinOp.and IntKind.u32 (v / 1048576) 31 = v / 1048576 % 32 := u32_and_mask5 _ (by omega) (by omega)
  go_enter Tryd.func93, Tryd.ntmps93
  go_wp2_with
    (go_at_call 99
     refine (bits_at _ _ _ _ _ hv.1 hv.2 (by omega) (by omega) (by omega)).mono ?_
     rintro e w2 ⟨rfl, nk, rfl⟩)
  refine bodyPost_ret (v := ?v) ?_ rfl ⟨?_, ?_⟩
  rotate_left
  · simp [results, Tryd.results93, go_sem]
    rfl
  · exact rfl
  · exact ((Below.refl _ _).alloc (Nat.le_refl _) _).alloc (by simp) _
/-- enc.parts, for every kind and word -/
theorem parts_any (k : Nat) (v : Int) {w : World} (hT : Tab w) (hk : 1 ≤ k ∧ k < 32) (hv : 0 ≤ v ∧ v < 4294967296) :
    Calls Tryd.prog 93 #[.int .i64 k, .int .u32 v] w fun e w' => e = .returned (.agg #[.int .i64 k, .int .i64 (pRd (formI k) v), .int .i64 (pA (formI k) v), .int .i64 (pB (formI k) v), .int .i64 (pI (formI k) v)]) ∧ Below w.heap.size w w' := by
  have c0 := (hT k hk.2).1
  rw [tab_form k hk.2 hk.1] at c0
  rcases formI_cases k with hf | hf | hf | hf | hf | hf | hf | hf <;> rw [hf] at c0 ⊢
  · exact parts_R hT.size hk hv c0
  · exact parts_I hT.size hk hv c0
  · exact parts_H hT.size hk hv c0
  · exact parts_S hT.size hk hv c0
  · exact parts_B hT.size hk hv c0
  · exact parts_U hT.size hk hv c0
  · exact parts_J hT.size hk hv c0
  · exact parts_E hT.size hk hv c0
end Go.Proofs.YtajhehmkdlebbaaDoor
