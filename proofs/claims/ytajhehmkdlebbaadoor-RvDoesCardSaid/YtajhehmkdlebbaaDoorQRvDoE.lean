/- What rv.Does reckons, kind by kind (27, 28, 29, 30, all others). -/
import Derived.Test.YtajhehmkdlebbaaDoorQRvDoes
namespace Go.Proofs.YtajhehmkdlebbaaDoor
open Go.ChangeShapes Go.WideShapes Go.ChangeAt Go.RowKit Go.Deep
set_option maxRecDepth 100000
set_option maxHeartbeats 1000000 in
theorem does_k27 (rd ra rb imm a b pc : Int) (w : World) (ha : U64 a) (hb : U64 b) :
    Calls Tryd.prog 16 #[.agg #[.int .i64 27, .int .i64 rd, .int .i64 ra, .int .i64 rb, .int .i64 imm], .int .u64 a, .int .u64 b, .int .u64 pc] w fun e w' => e = .returned (.int .u64 (doesF 27 imm a b pc)) ∧ Below w.heap.size w w' := by
  obtain ⟨ha0, ha1⟩ := ha
  obtain ⟨hb0, hb1⟩ := hb
  obtain ⟨c, hc⟩ : ∃ c, IntKind.u64.wrap imm = c := ⟨_, rfl⟩
  obtain ⟨hc0, hc1⟩ : 0 ≤ c ∧ c ≤ 18446744073709551615 := by subst hc; exact U64.wrap imm
  go_enter Tryd.func16, Tryd.ntmps16
  go_wp2
  go_ret
  refine ⟨ret_int ?_, (Below.refl _ w).alloc (Nat.le_refl _) _⟩
  simp [doesF, hc]
set_option maxHeartbeats 1000000 in
theorem does_k28 (rd ra rb imm a b pc : Int) (w : World) (ha : U64 a) (hb : U64 b) :
    Calls Tryd.prog 16 #[.agg #[.int .i64 28, .int .i64 rd, .int .i64 ra, .int .i64 rb, .int .i64 imm], .int .u64 a, .int .u64 b, .int .u64 pc] w fun e w' => e = .returned (.int .u64 (doesF 28 imm a b pc)) ∧ Below w.heap.size w w' := by
  obtain ⟨ha0, ha1⟩ := ha
  obtain ⟨hb0, hb1⟩ := hb
  obtain ⟨c, hc⟩ : ∃ c, IntKind.u64.wrap imm = c := ⟨_, rfl⟩
  obtain ⟨hc0, hc1⟩ : 0 ≤ c ∧ c ≤ 18446744073709551615 := by subst hc; exact U64.wrap imm
  go_enter Tryd.func16, Tryd.ntmps16
  go_wp2
  go_ret
  refine ⟨ret_int ?_, (Below.refl _ w).alloc (Nat.le_refl _) _⟩
  simp [doesF, hc]
set_option maxHeartbeats 1000000 in
theorem does_k29 (rd ra rb imm a b pc : Int) (w : World) (ha : U64 a) (hb : U64 b) :
    Calls Tryd.prog 16 #[.agg #[.int .i64 29, .int .i64 rd, .int .i64 ra, .int .i64 rb, .int .i64 imm], .int .u64 a, .int .u64 b, .int .u64 pc] w fun e w' => e = .returned (.int .u64 (doesF 29 imm a b pc)) ∧ Below w.heap.size w w' := by
  obtain ⟨ha0, ha1⟩ := ha
  obtain ⟨hb0, hb1⟩ := hb
  obtain ⟨c, hc⟩ : ∃ c, IntKind.u64.wrap imm = c := ⟨_, rfl⟩
  obtain ⟨hc0, hc1⟩ : 0 ≤ c ∧ c ≤ 18446744073709551615 := by subst hc; exact U64.wrap imm
  go_enter Tryd.func16, Tryd.ntmps16
  go_wp2
  go_ret
  refine ⟨ret_int ?_, (Below.refl _ w).alloc (Nat.le_refl _) _⟩
  simp [doesF]
set_option maxHeartbeats 1000000 in
theorem does_k30 (rd ra rb imm a b pc : Int) (w : World) (ha : U64 a) (hb : U64 b) :
    Calls Tryd.prog 16 #[.agg #[.int .i64 30, .int .i64 rd, .int .i64 ra, .int .i64 rb, .int .i64 imm], .int .u64 a, .int .u64 b, .int .u64 pc] w fun e w' => e = .returned (.int .u64 (doesF 30 imm a b pc)) ∧ Below w.heap.size w w' := by
  obtain ⟨ha0, ha1⟩ := ha
  obtain ⟨hb0, hb1⟩ := hb
  obtain ⟨c, hc⟩ : ∃ c, IntKind.u64.wrap imm = c := ⟨_, rfl⟩
  obtain ⟨hc0, hc1⟩ : 0 ≤ c ∧ c ≤ 18446744073709551615 := by subst hc; exact U64.wrap imm
  go_enter Tryd.func16, Tryd.ntmps16
  go_wp2
  go_ret
  refine ⟨ret_int ?_, (Below.refl _ w).alloc (Nat.le_refl _) _⟩
  simp [doesF]
set_option maxHeartbeats 1000000 in
theorem does_other (k rd ra rb imm a b pc : Int) (w : World) (h : (¬ (1 ≤ k ∧ k ≤ 11)) ∧ (¬ (12 ≤ k ∧ k ≤ 18)) ∧ k ≠ 27 ∧ k ≠ 28 ∧ k ≠ 29 ∧ k ≠ 30) :
    Calls Tryd.prog 16 #[.agg #[.int .i64 k, .int .i64 rd, .int .i64 ra, .int .i64 rb, .int .i64 imm], .int .u64 a, .int .u64 b, .int .u64 pc] w fun e w' => e = .returned (.int .u64 (doesF k imm a b pc)) ∧ Below w.heap.size w w' := by
  have hr : doesF k imm a b pc = 0 := by
    unfold doesF
    rw [if_neg h.1, if_neg h.2.1, if_neg h.2.2.1, if_neg h.2.2.2.1, if_neg (by omega)]
  rw [hr]
  have n1 : (k == 1) = false := neq_kind (by omega)
  have n2 : (k == 2) = false := neq_kind (by omega)
  have n3 : (k == 3) = false := neq_kind (by omega)
  have n4 : (k == 4) = false := neq_kind (by omega)
  have n5 : (k == 5) = false := neq_kind (by omega)
  have n6 : (k == 6) = false := neq_kind (by omega)
  have n7 : (k == 7) = false := neq_kind (by omega)
  have n8 : (k == 8) = false := neq_kind (by omega)
  have n9 : (k == 9) = false := neq_kind (by omega)
  have n10 : (k == 10) = false := neq_kind (by omega)
  have n11 : (k == 11) = false := neq_kind (by omega)
  have n12 : (k == 12) = false := neq_kind (by omega)
  have n13 : (k == 13) = false := neq_kind (by omega)
  have n14 : (k == 14) = false := neq_kind (by omega)
  have n15 : (k == 15) = false := neq_kind (by omega)
  have n16 : (k == 16) = false := neq_kind (by omega)
  have n17 : (k == 17) = false := neq_kind (by omega)
  have n18 : (k == 18) = false := neq_kind (by omega)
  have n27 : (k == 27) = false := neq_kind (by omega)
  have n28 : (k == 28) = false := neq_kind (by omega)
  have n29 : (k == 29) = false := neq_kind (by omega)
  have n30 : (k == 30) = false := neq_kind (by omega)
  clear hr
  by_cases hk : 12 ≤ k
  · have hk' : decide (12 ≤ k) = true := decide_eq_true hk
    clear h hk
    go_enter Tryd.func16, Tryd.ntmps16
    go_wp2
    go_ret
    exact ⟨rfl, (Below.refl _ w).alloc (Nat.le_refl _) _⟩
  · have hk' : decide (12 ≤ k) = false := decide_eq_false hk
    clear h hk
    go_enter Tryd.func16, Tryd.ntmps16
    go_wp2
    go_ret
    exact ⟨rfl, (Below.refl _ w).alloc (Nat.le_refl _) _⟩
end Go.Proofs.YtajhehmkdlebbaaDoor
