/- What the reference's step leans on. -/
import Derived.Test.YtajhehmkdlebbaaDoorQRvStep0
import Derived.Test.YtajhehmkdlebbaaDoorQRvRDo
import Derived.Test.YtajhehmkdlebbaaDoorRefTake
namespace Go.Proofs.YtajhehmkdlebbaaDoor
open Go.ChangeShapes Go.WideShapes Go.ChangeAt Go.RowKit Go.Deep
set_option maxRecDepth 100000
section
variable {W w : World} {b b' : Nat} {m z : Mc} {o : OpD}
theorem fetch_some (h : m.fetch = some o) : m.pc % 4 = 0 ∧ loadE m.mem m.pc 4 1 = 0 ∧ takeO (IntKind.u32.wrap (loadV m.mem m.pc 4 1)) = some o := by
  unfold Mc.fetch at h
  split at h
  · split at h
    · exact ⟨by assumption, by assumption, h⟩
    · cases h
  · cases h
theorem mem_keep2 {B c : Nat} {A : Option Addr} {N : List Pg} {W' : World} (h : Mem W B A c N) (hx : MB W b m) (hl : m.x.length = 32) (hz : MB W b' z) (hlz : z.x.length = 32) (ho : ∀ j, j ≠ b → j ≠ b' → W'.heap[j]? = W.heap[j]?) (hB : B ≤ W'.heap.size) : Mem W' W'.heap.size A c N := by
  refine ⟨h.1, fun k x hk => ?_⟩
  obtain ⟨bb, off, h1, h2, h3⟩ := h.2 k x hk
  refine ⟨bb, off, h1, by omega, fun j u hu => ?_⟩
  have c0 := h3 0 _ rfl
  have c1 := h3 1 _ rfl
  have n1 : bb ≠ b := fun e => by
    subst e
    rw [hx.cell] at c0 c1
    exact cells_no hl c0 c1
  have n2 : bb ≠ b' := fun e => by
    subst e
    rw [hz.cell] at c0 c1
    exact cells_no hlz c0 c1
  rw [← h3 j u hu]
  unfold World.cell?
  rw [ho bb n1 n2]
end
end Go.Proofs.YtajhehmkdlebbaaDoor
