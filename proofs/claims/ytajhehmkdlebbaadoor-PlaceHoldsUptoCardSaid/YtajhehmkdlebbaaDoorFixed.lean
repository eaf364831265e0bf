/- The reference's fixed: a kind's fixed bits, as a sum (31 walks: slow to build). -/
import Derived.Test.YtajhehmkdlebbaaDoorWord
namespace Go.Proofs.YtajhehmkdlebbaaDoor
open Go.ChangeShapes Go.WideShapes Go.ChangeAt Go.RowKit
set_option maxRecDepth 100000
set_option maxHeartbeats 4000000 in
theorem fixed_any (k : Int) (w : World) (h : 1 ≤ k ∧ k ≤ 31) :
    Calls Tryd.prog 92 #[.int .i64 k] w fun e w' => e = .returned (.int .u32 ((opL.getD k.toNat 0 : Nat) + 4096 * (f3L.getD k.toNat 0 : Nat) + 33554432 * (f7L.getD k.toNat 0 : Nat))) ∧ Below w.heap.size w w' := by
  have hc : k = 1 ∨ k = 2 ∨ k = 3 ∨ k = 4 ∨ k = 5 ∨ k = 6 ∨ k = 7 ∨ k = 8 ∨ k = 9 ∨ k = 10 ∨ k = 11 ∨ k = 12 ∨ k = 13 ∨ k = 14 ∨ k = 15 ∨ k = 16 ∨ k = 17 ∨ k = 18 ∨ k = 19 ∨ k = 20 ∨ k = 21 ∨ k = 22 ∨ k = 23 ∨ k = 24 ∨ k = 25 ∨ k = 26 ∨ k = 27 ∨ k = 28 ∨ k = 29 ∨ k = 30 ∨ k = 31 := by omega
  clear h
  rcases hc with rfl | rfl | rfl | rfl | rfl | rfl | rfl | rfl | rfl | rfl | rfl | rfl | rfl | rfl | rfl | rfl | rfl | rfl | rfl | rfl | rfl | rfl | rfl | rfl | rfl | rfl | rfl | rfl | rfl | rfl | rfl
  all_goals
    go_enter Tryd.func92, Tryd.ntmps92
    go_wp2
    go_ret
    exact ⟨rfl, (Below.refl _ _).alloc (Nat.le_refl _) _⟩
end Go.Proofs.YtajhehmkdlebbaaDoor
