/- Whether a branch goes: rv's and the reference's; the reference's reckoning. What rv.Does reckons, for every instruction. -/
import Derived.Test.YtajhehmkdlebbaaDoorQRvDoes
import Derived.Test.YtajhehmkdlebbaaDoorQRvDoA
import Derived.Test.YtajhehmkdlebbaaDoorQRvDoB
import Derived.Test.YtajhehmkdlebbaaDoorQRvDoC
import Derived.Test.YtajhehmkdlebbaaDoorQRvDoD
import Derived.Test.YtajhehmkdlebbaaDoorQRvDoE
namespace Go.Proofs.YtajhehmkdlebbaaDoor
open Go.ChangeShapes Go.WideShapes Go.ChangeAt Go.RowKit Go.Deep
set_option maxRecDepth 100000
theorem beq_dec (a b : Int) : (a == b) = decide (a = b) := by by_cases h : a = b <;> simp [h]
theorem goesF23 (a b : Int) : goesF 23 a b = (a == b) := by unfold goesF; rw [if_pos rfl, beq_dec]
theorem goesF24 (a b : Int) : goesF 24 a b = (a != b) := by unfold goesF; rw [if_neg (by decide), if_pos rfl, bne, beq_dec]; simp
theorem goesF25 (a b : Int) : goesF 25 a b = decide (a < b) := by unfold goesF; rw [if_neg (by decide), if_neg (by decide), if_pos rfl]
theorem goesF26 (a b : Int) : goesF 26 a b = decide (b ≤ a) := by unfold goesF; rw [if_neg (by decide), if_neg (by decide), if_neg (by decide), if_pos rfl]
theorem goes_any (k rd ra rb imm a b : Int) (w : World) :
    Calls Tryd.prog 18 #[.agg #[.int .i64 k, .int .i64 rd, .int .i64 ra, .int .i64 rb, .int .i64 imm], .int .u64 a, .int .u64 b] w fun e w' => e = .returned (.bool (goesF k a b)) ∧ Below w.heap.size w w' := by
  have hc : k = 23 ∨ k = 24 ∨ k = 25 ∨ k = 26 ∨ (k ≠ 23 ∧ k ≠ 24 ∧ k ≠ 25 ∧ k ≠ 26) := by omega
  rcases hc with rfl | rfl | rfl | rfl | ⟨h1, h2, h3, h4⟩
  · go_enter Tryd.func18, Tryd.ntmps18
    go_wp2
    go_ret
    exact ⟨ret_bool (goesF23 a b).symm, (Below.refl _ w).alloc (Nat.le_refl _) _⟩
  · go_enter Tryd.func18, Tryd.ntmps18
    go_wp2
    go_ret
    exact ⟨ret_bool (goesF24 a b).symm, (Below.refl _ w).alloc (Nat.le_refl _) _⟩
  · go_enter Tryd.func18, Tryd.ntmps18
    go_wp2
    go_ret
    exact ⟨ret_bool (goesF25 a b).symm, (Below.refl _ w).alloc (Nat.le_refl _) _⟩
  · go_enter Tryd.func18, Tryd.ntmps18
    go_wp2
    go_ret
    exact ⟨ret_bool (goesF26 a b).symm, (Below.refl _ w).alloc (Nat.le_refl _) _⟩
  · have n1 := neq_kind h1
    have n2 := neq_kind h2
    have n3 := neq_kind h3
    have n4 := neq_kind h4
    have hr : goesF k a b = false := by simp [goesF, h1, h2, h3, h4]
    rw [hr]
    clear h1 h2 h3 h4 hr
    go_enter Tryd.func18, Tryd.ntmps18
    go_wp2
    go_ret
    exact ⟨rfl, (Below.refl _ w).alloc (Nat.le_refl _) _⟩
theorem rgoes_any (k rd ra rb imm a b : Int) (w : World) :
    Calls Tryd.prog 19 #[.agg #[.int .i64 k, .int .i64 rd, .int .i64 ra, .int .i64 rb, .int .i64 imm], .int .u64 a, .int .u64 b] w fun e w' => e = .returned (.bool (goesF k a b)) ∧ Below w.heap.size w w' := by
  have hc : k = 23 ∨ k = 24 ∨ k = 25 ∨ k = 26 ∨ (k ≠ 23 ∧ k ≠ 24 ∧ k ≠ 25 ∧ k ≠ 26) := by omega
  rcases hc with rfl | rfl | rfl | rfl | ⟨h1, h2, h3, h4⟩
  · go_enter Tryd.func19, Tryd.ntmps19
    go_wp2
    go_ret
    exact ⟨ret_bool (goesF23 a b).symm, (Below.refl _ w).alloc (Nat.le_refl _) _⟩
  · go_enter Tryd.func19, Tryd.ntmps19
    go_wp2
    go_ret
    exact ⟨ret_bool (goesF24 a b).symm, (Below.refl _ w).alloc (Nat.le_refl _) _⟩
  · go_enter Tryd.func19, Tryd.ntmps19
    go_wp2
    go_ret
    exact ⟨ret_bool (goesF25 a b).symm, (Below.refl _ w).alloc (Nat.le_refl _) _⟩
  · go_enter Tryd.func19, Tryd.ntmps19
    go_wp2
    go_ret
    exact ⟨ret_bool (goesF26 a b).symm, (Below.refl _ w).alloc (Nat.le_refl _) _⟩
  · have n1 := neq_kind h1
    have n2 := neq_kind h2
    have n3 := neq_kind h3
    have n4 := neq_kind h4
    have hr : goesF k a b = false := by simp [goesF, h1, h2, h3, h4]
    rw [hr]
    clear h1 h2 h3 h4 hr
    go_enter Tryd.func19, Tryd.ntmps19
    go_wp2
    go_ret
    exact ⟨rfl, (Below.refl _ w).alloc (Nat.le_refl _) _⟩
end Go.Proofs.YtajhehmkdlebbaaDoor
namespace Go.Proofs.YtajhehmkdlebbaaDoor
open Go.ChangeShapes Go.WideShapes Go.ChangeAt Go.RowKit Go.Deep
theorem does_any (k rd ra rb imm a b pc : Int) (w : World) (ha : U64 a) (hb : U64 b) :
    Calls Tryd.prog 16 #[.agg #[.int .i64 k, .int .i64 rd, .int .i64 ra, .int .i64 rb, .int .i64 imm], .int .u64 a, .int .u64 b, .int .u64 pc] w fun e w' => e = .returned (.int .u64 (doesF k imm a b pc)) ∧ Below w.heap.size w w' := by
  rcases kind_cases k with h | h
  · rcases h with rfl | rfl | rfl | rfl | rfl | rfl | rfl | rfl | rfl | rfl | rfl | rfl | rfl | rfl | rfl | rfl | rfl | rfl | rfl | rfl | rfl | rfl
    · exact does_k1 rd ra rb imm a b pc w ha hb
    · exact does_k2 rd ra rb imm a b pc w ha hb
    · exact does_k3 rd ra rb imm a b pc w ha hb
    · exact does_k4 rd ra rb imm a b pc w ha hb
    · exact does_k5 rd ra rb imm a b pc w ha hb
    · exact does_k6 rd ra rb imm a b pc w ha hb
    · exact does_k7 rd ra rb imm a b pc w ha hb
    · exact does_k8 rd ra rb imm a b pc w ha hb
    · exact does_k9 rd ra rb imm a b pc w ha hb
    · exact does_k10 rd ra rb imm a b pc w ha hb
    · exact does_k11 rd ra rb imm a b pc w ha hb
    · exact does_k12 rd ra rb imm a b pc w ha hb
    · exact does_k13 rd ra rb imm a b pc w ha hb
    · exact does_k14 rd ra rb imm a b pc w ha hb
    · exact does_k15 rd ra rb imm a b pc w ha hb
    · exact does_k16 rd ra rb imm a b pc w ha hb
    · exact does_k17 rd ra rb imm a b pc w ha hb
    · exact does_k18 rd ra rb imm a b pc w ha hb
    · exact does_k27 rd ra rb imm a b pc w ha hb
    · exact does_k28 rd ra rb imm a b pc w ha hb
    · exact does_k29 rd ra rb imm a b pc w ha hb
    · exact does_k30 rd ra rb imm a b pc w ha hb
  · exact does_other k rd ra rb imm a b pc w h
end Go.Proofs.YtajhehmkdlebbaaDoor
