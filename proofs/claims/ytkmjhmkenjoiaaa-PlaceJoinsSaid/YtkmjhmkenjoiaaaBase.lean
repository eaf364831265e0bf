/- The upper and the lower part of a place, and the document's example: what place.Low, place.High and the laws' shown come to, for every number. -/
import Derived.Test.YtkmjhmkenjoiaaaRows
import Derived.WalkKit
import Derived.ProofKit
import Derived.OpenShut
namespace Go.Proofs.Ytkmjhmkenjoiaaa
open Go.ChangeShapes Go.WideShapes Go.ChangeAt Go.RowKit
theorem ret_int {k : IntKind} {a b : Int} (h : a = b) : Ending.returned (.int k a) = .returned (.int k b) := by rw [h]
theorem ret_bool {a b : Bool} (h : a = b) : Ending.returned (.bool a) = .returned (.bool b) := by rw [h]
def lowI (v : Int) : Int := if v % 4096 < 2048 then v % 4096 else v % 4096 - 4096
def highI (v : Int) : Int := wrap64 (v - lowI v)
theorem low_any (v : Int) (w : World) :
    Calls Try.prog 9 #[.int .u64 v] w fun e w' => e = .returned (.int .i64 (lowI v)) ∧ w = w' := by
  have e : wrap64 (IntKind.u64.wrap (v * 4503599627370496)) / 4503599627370496 = lowI v := by
    simp only [IntKind.wrap_u64, wrap64, lowI]; omega
  go_enter Try.func9, Try.ntmps9
  go_wp2
  go_ret
  exact ⟨rfl, rfl⟩
theorem lowI_bd (v : Int) : -2048 ≤ lowI v ∧ lowI v ≤ 2047 := by unfold lowI; omega
theorem high_any (v : Int) (w : World) :
    Calls Try.prog 8 #[.int .u64 v] w fun e w' => e = .returned (.int .i64 (highI v)) ∧ w = w' := by
  have e : wrap64 (IntKind.u64.wrap (v - IntKind.u64.wrap (lowI v))) = highI v := by
    have := lowI_bd v
    simp only [IntKind.wrap_u64, wrap64, highI]; omega
  go_enter Try.func8, Try.ntmps8
  go_wp2_with (go_at_call 9; refine (low_any _ _).mono ?_; rintro e w' ⟨rfl, rfl⟩)
  go_ret
  exact ⟨ret_int e, rfl⟩
theorem shown_any (w : World) :
    Calls Try.prog 7 #[] w fun e w' => e = .returned (.bool true) ∧ w = w' := by
  have e1 : lowI 6144 = -2048 := by simp only [lowI]; omega
  have e2 : highI 6144 = 8192 := by simp only [highI, lowI, wrap64]; omega
  go_enter Try.func7, Try.ntmps7
  go_wp2_with (first | (go_at_call 9; refine (low_any _ _).mono ?_; rintro e w' ⟨rfl, rfl⟩) | (go_at_call 8; refine (high_any _ _).mono ?_; rintro e w' ⟨rfl, rfl⟩))
  go_ret
  exact ⟨rfl, rfl⟩
end Go.Proofs.Ytkmjhmkenjoiaaa
