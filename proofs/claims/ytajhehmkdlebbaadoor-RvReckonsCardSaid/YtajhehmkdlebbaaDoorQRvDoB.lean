/- What rv.Does reckons, kind by kind (3, 10, 5). -/
import Derived.Test.YtajhehmkdlebbaaDoorQRvDoes
namespace Go.Proofs.YtajhehmkdlebbaaDoor
open Go.ChangeShapes Go.WideShapes Go.ChangeAt Go.RowKit Go.Deep
set_option maxRecDepth 100000
set_option maxHeartbeats 1000000 in
theorem does_k3 (rd ra rb imm a b pc : Int) (w : World) (ha : U64 a) (hb : U64 b) :
    Calls Tryd.prog 16 #[.agg #[.int .i64 3, .int .i64 rd, .int .i64 ra, .int .i64 rb, .int .i64 imm], .int .u64 a, .int .u64 b, .int .u64 pc] w fun e w' => e = .returned (.int .u64 (doesF 3 imm a b pc)) ∧ Below w.heap.size w w' := by
  obtain ⟨ha0, ha1⟩ := ha
  obtain ⟨hb0, hb1⟩ := hb
  have m1 : 0 ≤ b % 64 := by omega
  have m2 : b % 64 ≤ 64 := by omega
  go_enter Tryd.func16, Tryd.ntmps16
  go_wp2
  go_ret
  refine ⟨ret_int ?_, (Below.refl _ w).alloc (Nat.le_refl _) _⟩
  simp [doesF, reckonF]
set_option maxHeartbeats 1000000 in
theorem does_k10 (rd ra rb imm a b pc : Int) (w : World) (ha : U64 a) (hb : U64 b) :
    Calls Tryd.prog 16 #[.agg #[.int .i64 10, .int .i64 rd, .int .i64 ra, .int .i64 rb, .int .i64 imm], .int .u64 a, .int .u64 b, .int .u64 pc] w fun e w' => e = .returned (.int .u64 (doesF 10 imm a b pc)) ∧ Below w.heap.size w w' := by
  obtain ⟨ha0, ha1⟩ := ha
  obtain ⟨hb0, hb1⟩ := hb
  by_cases h0 : b = 0
  · have h0' : (b == 0) = true := beq_iff_eq.2 h0
    go_enter Tryd.func16, Tryd.ntmps16
    go_wp2
    go_ret
    refine ⟨ret_int ?_, (Below.refl _ w).alloc (Nat.le_refl _) _⟩
    subst h0
    rfl
  · have h0' : (b == 0) = false := beq_eq_false_iff_ne.2 h0
    go_enter Tryd.func16, Tryd.ntmps16
    go_wp2
    go_ret
    refine ⟨ret_int ?_, (Below.refl _ w).alloc (Nat.le_refl _) _⟩
    simp [doesF, reckonF, h0]
set_option maxHeartbeats 1000000 in
theorem does_k5 (rd ra rb imm a b pc : Int) (w : World) (ha : U64 a) (hb : U64 b) :
    Calls Tryd.prog 16 #[.agg #[.int .i64 5, .int .i64 rd, .int .i64 ra, .int .i64 rb, .int .i64 imm], .int .u64 a, .int .u64 b, .int .u64 pc] w fun e w' => e = .returned (.int .u64 (doesF 5 imm a b pc)) ∧ Below w.heap.size w w' := by
  obtain ⟨ha0, ha1⟩ := ha
  obtain ⟨hb0, hb1⟩ := hb
  go_enter Tryd.func16, Tryd.ntmps16
  go_wp2
  go_ret
  refine ⟨ret_int ?_, (Below.refl _ w).alloc (Nat.le_refl _) _⟩
  simp [doesF, reckonF]
end Go.Proofs.YtajhehmkdlebbaaDoor
