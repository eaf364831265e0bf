/- page.Fill. -/
import Derived.Test.YtclghfekmmcfjaaPgFill
namespace Go.Proofs.Ytclghfekmmcfjaa
open Go.ChangeShapes Go.WideShapes Go.ChangeAt Go.RowKit Go.Deep Go.Maps Go.WideMaps
set_option maxRecDepth 100000
set_option maxHeartbeats 1000000 in
theorem fill_any {A : Option Addr} {cap : Nat} {L : List Pg} {w : World} {B : Nat} (at_ : Int) (s : ByteArray) (hat : 0 ≤ at_ ∧ at_ ≤ 18446744073709551615) (hs : s.size ≤ 140737488351232)
    (hL : Mem w B A cap L) (hA : A = none → cap = 0) (hB : B ≤ w.heap.size) (hwf : ∀ p ∈ L, p.ok) (hlen : L.length ≤ 140737488351232) :
    Calls Try.prog 31 #[.slice A L.length cap, .int .u64 at_, .string s] w fun e w' => Below w.heap.size w w' ∧ ∃ v, e = .returned (.tuple #[v, .int .i64 (fillE L at_ s)]) ∧ MemV w' v (fillX L at_ s) := by
  cases hR : rightB L with
  | false =>
    have hE : fillE L at_ s = 1 := by unfold fillE; rw [hR]; rfl
    have hX : fillX L at_ s = L := by unfold fillX; rw [if_neg (by rw [hR]; simp)]
    have HE := Lib.hid hE
    have HX := Lib.hid hX
    have HR := Lib.hid hR
    clear hE hX hR
    go_enter Try.func31, Try.ntmps31
    go_wp2_with fail
    refine (right_any hL hB hwf hlen).mono ?_
    rintro e w1 ⟨rfl, hb1⟩
    rw [HR.out]
    go_wp2
    go_ret2
    rw [HE.out, HX.out]
    exact ⟨hb1, _, rfl, MemV.of (Sl.In.below hL (hb1.mono hB)) hA (Nat.le_trans hB hb1.size)⟩
  | true =>
    obtain ⟨ok, hok⟩ : ∃ ok, ok = (loadN L at_ 0 s.size).isSome := ⟨_, rfl⟩
    obtain ⟨X, hX0⟩ : ∃ X, X = (if ok then wrL L at_ s s.size else L) := ⟨_, rfl⟩
    have hE : fillE L at_ s = if ok then 0 else 8 := by unfold fillE; rw [if_pos hR, hok]
    have hX : fillX L at_ s = X := by
      unfold fillX; rw [hX0, hok]
      by_cases h : (loadN L at_ 0 s.size).isSome = true
      · rw [if_pos ⟨hR, h⟩, if_pos h]
      · rw [if_neg (fun h' => h h'.2), if_neg h]
    have HOK : Hid ((loadN L at_ 0 s.size).isSome = ok) := hok.symm
    have HX0 : Hid (X = if ok then wrL L at_ s s.size else L) := hX0
    have HE := Lib.hid hE
    have HX := Lib.hid hX
    have HR := Lib.hid hR
    have HA := Lib.hid hA
    have HWF := Lib.hid hwf
    clear hE hX hR hok hX0 hA hwf
    go_enter Try.func31, Try.ntmps31
    go_wp2_with fail
    refine (right_any hL hB HWF.out hlen).mono ?_
    rintro e w1 ⟨rfl, hb1⟩
    rw [HR.out]
    go_wp2_with fail
    refine (set_any ok X at_ 0 s HOK HX0 hat hs (rightB_out HR.out) (Sl.In.below hL (hb1.mono hB)) HA.out (Nat.le_trans hB hb1.size) HWF.out).mono ?_
    rintro e w2 ⟨hb2, v, rfl, hv⟩
    have hbb := hb1.trans (hb2.mono hb1.size)
    cases ok with
    | true =>
      go_wp2
      go_ret2
      rw [HE.out, HX.out]
      exact ⟨hbb, v, rfl, hv⟩
    | false =>
      go_wp2
      go_ret2
      rw [HE.out, HX.out, HX0.out]
      exact ⟨hbb, _, rfl, MemV.of (Sl.In.below hL (hbb.mono hB)) HA.out (Nat.le_trans hB hbb.size)⟩
end Go.Proofs.Ytclghfekmmcfjaa
