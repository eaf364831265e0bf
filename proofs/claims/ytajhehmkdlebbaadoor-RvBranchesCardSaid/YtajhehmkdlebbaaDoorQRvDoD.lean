/- What rv.Does reckons, kind by kind (14, 15, 16, 17, 18). -/
import Derived.Test.YtajhehmkdlebbaaDoorQRvDoes
namespace Go.Proofs.YtajhehmkdlebbaaDoor
open Go.ChangeShapes Go.WideShapes Go.ChangeAt Go.RowKit Go.Deep
set_option maxRecDepth 100000
set_option maxHeartbeats 1000000 in
theorem does_k14 (rd ra rb imm a b pc : Int) (w : World) (ha : U64 a) (hb : U64 b) :
    Calls Tryd.prog 16 #[.agg #[.int .i64 14, .int .i64 rd, .int .i64 ra, .int .i64 rb, .int .i64 imm], .int .u64 a, .int .u64 b, .int .u64 pc] w fun e w' => e = .returned (.int .u64 (doesF 14 imm a b pc)) ∧ Below w.heap.size w w' := by
  obtain ⟨ha0, ha1⟩ := ha
  obtain ⟨hb0, hb1⟩ := hb
  obtain ⟨c, hc⟩ : ∃ c, IntKind.u64.wrap imm = c := ⟨_, rfl⟩
  obtain ⟨hc0, hc1⟩ : 0 ≤ c ∧ c ≤ 18446744073709551615 := by subst hc; exact U64.wrap imm
  go_enter Tryd.func16, Tryd.ntmps16
  go_wp2
  go_ret
  refine ⟨ret_int ?_, (Below.refl _ w).alloc (Nat.le_refl _) _⟩
  simp [doesF, reckonF, asF, hc]
set_option maxHeartbeats 1000000 in
theorem does_k15 (rd ra rb imm a b pc : Int) (w : World) (ha : U64 a) (hb : U64 b) :
    Calls Tryd.prog 16 #[.agg #[.int .i64 15, .int .i64 rd, .int .i64 ra, .int .i64 rb, .int .i64 imm], .int .u64 a, .int .u64 b, .int .u64 pc] w fun e w' => e = .returned (.int .u64 (doesF 15 imm a b pc)) ∧ Below w.heap.size w w' := by
  obtain ⟨ha0, ha1⟩ := ha
  obtain ⟨hb0, hb1⟩ := hb
  obtain ⟨c, hc⟩ : ∃ c, IntKind.u64.wrap imm = c := ⟨_, rfl⟩
  obtain ⟨hc0, hc1⟩ : 0 ≤ c ∧ c ≤ 18446744073709551615 := by subst hc; exact U64.wrap imm
  go_enter Tryd.func16, Tryd.ntmps16
  go_wp2
  go_ret
  refine ⟨ret_int ?_, (Below.refl _ w).alloc (Nat.le_refl _) _⟩
  simp [doesF, reckonF, asF, hc]
set_option maxHeartbeats 1000000 in
theorem does_k16 (rd ra rb imm a b pc : Int) (w : World) (ha : U64 a) (hb : U64 b) :
    Calls Tryd.prog 16 #[.agg #[.int .i64 16, .int .i64 rd, .int .i64 ra, .int .i64 rb, .int .i64 imm], .int .u64 a, .int .u64 b, .int .u64 pc] w fun e w' => e = .returned (.int .u64 (doesF 16 imm a b pc)) ∧ Below w.heap.size w w' := by
  obtain ⟨ha0, ha1⟩ := ha
  obtain ⟨hb0, hb1⟩ := hb
  obtain ⟨c, hc⟩ : ∃ c, IntKind.u64.wrap imm = c := ⟨_, rfl⟩
  obtain ⟨hc0, hc1⟩ : 0 ≤ c ∧ c ≤ 18446744073709551615 := by subst hc; exact U64.wrap imm
  go_enter Tryd.func16, Tryd.ntmps16
  go_wp2
  go_ret
  refine ⟨ret_int ?_, (Below.refl _ w).alloc (Nat.le_refl _) _⟩
  simp [doesF, reckonF, asF, hc]
set_option maxHeartbeats 1000000 in
theorem does_k17 (rd ra rb imm a b pc : Int) (w : World) (ha : U64 a) (hb : U64 b) :
    Calls Tryd.prog 16 #[.agg #[.int .i64 17, .int .i64 rd, .int .i64 ra, .int .i64 rb, .int .i64 imm], .int .u64 a, .int .u64 b, .int .u64 pc] w fun e w' => e = .returned (.int .u64 (doesF 17 imm a b pc)) ∧ Below w.heap.size w w' := by
  obtain ⟨ha0, ha1⟩ := ha
  obtain ⟨hb0, hb1⟩ := hb
  obtain ⟨c, hc⟩ : ∃ c, IntKind.u64.wrap imm = c := ⟨_, rfl⟩
  obtain ⟨hc0, hc1⟩ : 0 ≤ c ∧ c ≤ 18446744073709551615 := by subst hc; exact U64.wrap imm
  have m1 : 0 ≤ c % 64 := by omega
  have m2 : c % 64 ≤ 64 := by omega
  go_enter Tryd.func16, Tryd.ntmps16
  go_wp2
  go_ret
  refine ⟨ret_int ?_, (Below.refl _ w).alloc (Nat.le_refl _) _⟩
  simp [doesF, reckonF, asF, hc]
set_option maxHeartbeats 1000000 in
theorem does_k18 (rd ra rb imm a b pc : Int) (w : World) (ha : U64 a) (hb : U64 b) :
    Calls Tryd.prog 16 #[.agg #[.int .i64 18, .int .i64 rd, .int .i64 ra, .int .i64 rb, .int .i64 imm], .int .u64 a, .int .u64 b, .int .u64 pc] w fun e w' => e = .returned (.int .u64 (doesF 18 imm a b pc)) ∧ Below w.heap.size w w' := by
  obtain ⟨ha0, ha1⟩ := ha
  obtain ⟨hb0, hb1⟩ := hb
  obtain ⟨c, hc⟩ : ∃ c, IntKind.u64.wrap imm = c := ⟨_, rfl⟩
  obtain ⟨hc0, hc1⟩ : 0 ≤ c ∧ c ≤ 18446744073709551615 := by subst hc; exact U64.wrap imm
  have m1 : 0 ≤ c % 64 := by omega
  have m2 : c % 64 ≤ 64 := by omega
  go_enter Tryd.func16, Tryd.ntmps16
  go_wp2
  go_ret
  refine ⟨ret_int ?_, (Below.refl _ w).alloc (Nat.le_refl _) _⟩
  simp [doesF, reckonF, asF, hc]
end Go.Proofs.YtajhehmkdlebbaaDoor
