/- What rv.Does reckons, kind by kind (1, 2, 9, 12, 4, 13). -/
import Derived.Test.YtajhehmkdlebbaaDoorQRvDoes
namespace Go.Proofs.YtajhehmkdlebbaaDoor
open Go.ChangeShapes Go.WideShapes Go.ChangeAt Go.RowKit Go.Deep
set_option maxRecDepth 100000
set_option maxHeartbeats 1000000 in
theorem does_k1 (rd ra rb imm a b pc : Int) (w : World) (ha : U64 a) (hb : U64 b) :
    Calls Tryd.prog 16 #[.agg #[.int .i64 1, .int .i64 rd, .int .i64 ra, .int .i64 rb, .int .i64 imm], .int .u64 a, .int .u64 b, .int .u64 pc] w fun e w' => e = .returned (.int .u64 (doesF 1 imm a b pc)) ∧ Below w.heap.size w w' := by
  obtain ⟨ha0, ha1⟩ := ha
  obtain ⟨hb0, hb1⟩ := hb
  go_enter Tryd.func16, Tryd.ntmps16
  go_wp2
  go_ret
  refine ⟨ret_int ?_, (Below.refl _ w).alloc (Nat.le_refl _) _⟩
  simp [doesF, reckonF]
set_option maxHeartbeats 1000000 in
theorem does_k2 (rd ra rb imm a b pc : Int) (w : World) (ha : U64 a) (hb : U64 b) :
    Calls Tryd.prog 16 #[.agg #[.int .i64 2, .int .i64 rd, .int .i64 ra, .int .i64 rb, .int .i64 imm], .int .u64 a, .int .u64 b, .int .u64 pc] w fun e w' => e = .returned (.int .u64 (doesF 2 imm a b pc)) ∧ Below w.heap.size w w' := by
  obtain ⟨ha0, ha1⟩ := ha
  obtain ⟨hb0, hb1⟩ := hb
  go_enter Tryd.func16, Tryd.ntmps16
  go_wp2
  go_ret
  refine ⟨ret_int ?_, (Below.refl _ w).alloc (Nat.le_refl _) _⟩
  rw [show doesF 2 imm a b pc = IntKind.u64.wrap (a - b) from rfl]; simp only [IntKind.wrap_u64]; omega
set_option maxHeartbeats 1000000 in
theorem does_k9 (rd ra rb imm a b pc : Int) (w : World) (ha : U64 a) (hb : U64 b) :
    Calls Tryd.prog 16 #[.agg #[.int .i64 9, .int .i64 rd, .int .i64 ra, .int .i64 rb, .int .i64 imm], .int .u64 a, .int .u64 b, .int .u64 pc] w fun e w' => e = .returned (.int .u64 (doesF 9 imm a b pc)) ∧ Below w.heap.size w w' := by
  obtain ⟨ha0, ha1⟩ := ha
  obtain ⟨hb0, hb1⟩ := hb
  go_enter Tryd.func16, Tryd.ntmps16
  go_wp2
  go_ret
  refine ⟨ret_int ?_, (Below.refl _ w).alloc (Nat.le_refl _) _⟩
  simp [doesF, reckonF]
set_option maxHeartbeats 1000000 in
theorem does_k12 (rd ra rb imm a b pc : Int) (w : World) (ha : U64 a) (hb : U64 b) :
    Calls Tryd.prog 16 #[.agg #[.int .i64 12, .int .i64 rd, .int .i64 ra, .int .i64 rb, .int .i64 imm], .int .u64 a, .int .u64 b, .int .u64 pc] w fun e w' => e = .returned (.int .u64 (doesF 12 imm a b pc)) ∧ Below w.heap.size w w' := by
  obtain ⟨ha0, ha1⟩ := ha
  obtain ⟨hb0, hb1⟩ := hb
  obtain ⟨c, hc⟩ : ∃ c, IntKind.u64.wrap imm = c := ⟨_, rfl⟩
  obtain ⟨hc0, hc1⟩ : 0 ≤ c ∧ c ≤ 18446744073709551615 := by subst hc; exact U64.wrap imm
  go_enter Tryd.func16, Tryd.ntmps16
  go_wp2
  go_ret
  refine ⟨ret_int ?_, (Below.refl _ w).alloc (Nat.le_refl _) _⟩
  simp [doesF, reckonF, asF, hc]
set_option maxHeartbeats 1000000 in
theorem does_k4 (rd ra rb imm a b pc : Int) (w : World) (ha : U64 a) (hb : U64 b) :
    Calls Tryd.prog 16 #[.agg #[.int .i64 4, .int .i64 rd, .int .i64 ra, .int .i64 rb, .int .i64 imm], .int .u64 a, .int .u64 b, .int .u64 pc] w fun e w' => e = .returned (.int .u64 (doesF 4 imm a b pc)) ∧ Below w.heap.size w w' := by
  obtain ⟨ha0, ha1⟩ := ha
  obtain ⟨hb0, hb1⟩ := hb
  by_cases hlt : a < b
  · go_enter Tryd.func16, Tryd.ntmps16
    go_wp2_with (go_at_call 38; refine (below64_any _ _ _).mono ?_; rintro e w' ⟨rfl, rfl⟩; rw [if_pos hlt])
    go_ret
    refine ⟨ret_int ?_, (Below.refl _ w).alloc (Nat.le_refl _) _⟩
    simp [doesF, reckonF, hlt]
  · go_enter Tryd.func16, Tryd.ntmps16
    go_wp2_with (go_at_call 38; refine (below64_any _ _ _).mono ?_; rintro e w' ⟨rfl, rfl⟩; rw [if_neg hlt])
    go_ret
    refine ⟨ret_int ?_, (Below.refl _ w).alloc (Nat.le_refl _) _⟩
    simp [doesF, reckonF, hlt]
set_option maxHeartbeats 1000000 in
theorem does_k13 (rd ra rb imm a b pc : Int) (w : World) (ha : U64 a) (hb : U64 b) :
    Calls Tryd.prog 16 #[.agg #[.int .i64 13, .int .i64 rd, .int .i64 ra, .int .i64 rb, .int .i64 imm], .int .u64 a, .int .u64 b, .int .u64 pc] w fun e w' => e = .returned (.int .u64 (doesF 13 imm a b pc)) ∧ Below w.heap.size w w' := by
  obtain ⟨ha0, ha1⟩ := ha
  obtain ⟨hb0, hb1⟩ := hb
  obtain ⟨c, hc⟩ : ∃ c, IntKind.u64.wrap imm = c := ⟨_, rfl⟩
  obtain ⟨hc0, hc1⟩ : 0 ≤ c ∧ c ≤ 18446744073709551615 := by subst hc; exact U64.wrap imm
  by_cases hlt : a < c
  · go_enter Tryd.func16, Tryd.ntmps16
    go_wp2_with (go_at_call 38; refine (below64_any _ _ _).mono ?_; rintro e w' ⟨rfl, rfl⟩; rw [if_pos hlt])
    go_ret
    refine ⟨ret_int ?_, (Below.refl _ w).alloc (Nat.le_refl _) _⟩
    simp [doesF, reckonF, asF, hlt, hc]
  · go_enter Tryd.func16, Tryd.ntmps16
    go_wp2_with (go_at_call 38; refine (below64_any _ _ _).mono ?_; rintro e w' ⟨rfl, rfl⟩; rw [if_neg hlt])
    go_ret
    refine ⟨ret_int ?_, (Below.refl _ w).alloc (Nat.le_refl _) _⟩
    simp [doesF, reckonF, asF, hlt, hc]
end Go.Proofs.YtajhehmkdlebbaaDoor
