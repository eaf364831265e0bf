/- RvBranches: of two numbers one branch of each pair goes: the same or not, below or not: the walk. -/
import Derived.Test.YtajhehmkdlebbaaDoorQRvEnd
import Derived.OrdersHeld
namespace Go.Proofs.YtajhehmkdlebbaaDoor
open Go.ChangeShapes Go.WideShapes Go.ChangeAt Go.RowKit Go.Deep
set_option maxRecDepth 100000
attribute [-go_sem] loadVar storeVar
set_option maxHeartbeats 2000000 in
theorem branches_any (a b : Int) {w : World} (hT : Tab w) :
    Calls Tryd.prog 12 #[.int .u64 a, .int .u64 b] w fun e w' => e = .returned (.bool true) ∧ Below w.heap.size w w' := by
  have HB0 := Lib.hid (Below.refl w.heap.size w)
  have HB1 := HB0
  have hc : a = b ∨ a < b ∨ b < a := by omega
  rcases hc with hc | hc | hc
  · have G23 := Lib.hid (show goesF 23 a b = true by rw [goesF23]; simp; omega)
    have G24 := Lib.hid (show goesF 24 a b = false by rw [goesF24]; simp; omega)
    have G25 := Lib.hid (show goesF 25 a b = false by rw [goesF25]; simp; omega)
    have G26 := Lib.hid (show goesF 26 a b = true by rw [goesF26]; simp; omega)
    have e1 : (a == b) = true := by simp; omega
    have e2 : decide (a < b) = false := by simp; omega
    clear hc
    go_enter Tryd.func12, Tryd.ntmps12
    go_wp2_with fail
    refine (shown3_any hT).mono ?_
    rintro e w2 ⟨rfl, hb2⟩
    have HB2 := Lib.hid (HB1.out.trans (hb2.mono HB1.out.size))
    clear hb2
    go_wp2_with fail
    refine (goes_any 23 0 0 0 0 a b _).mono ?_
    rintro e w3 ⟨rfl, hb3⟩
    rw [G23.out]
    have HB3 := Lib.hid (HB2.out.trans (hb3.mono HB2.out.size))
    clear hb3
    go_wp2_with fail
    refine (goes_any 25 0 0 0 0 a b _).mono ?_
    rintro e w4 ⟨rfl, hb4⟩
    rw [G25.out]
    have HB4 := Lib.hid (HB3.out.trans (hb4.mono HB3.out.size))
    clear hb4
    go_wp2_with fail
    refine (goes_any 24 0 0 0 0 a b _).mono ?_
    rintro e w5 ⟨rfl, hb5⟩
    rw [G24.out]
    have HB5 := Lib.hid (HB4.out.trans (hb5.mono HB4.out.size))
    clear hb5
    go_wp2_with fail
    refine (goes_any 26 0 0 0 0 a b _).mono ?_
    rintro e w6 ⟨rfl, hb6⟩
    rw [G26.out]
    have HB6 := Lib.hid (HB5.out.trans (hb6.mono HB5.out.size))
    clear hb6
    go_wp2
    go_ret
    exact ⟨rfl, HB6.out⟩
  · have G23 := Lib.hid (show goesF 23 a b = false by rw [goesF23]; simp; omega)
    have G24 := Lib.hid (show goesF 24 a b = true by rw [goesF24]; simp; omega)
    have G25 := Lib.hid (show goesF 25 a b = true by rw [goesF25]; simp; omega)
    have G26 := Lib.hid (show goesF 26 a b = false by rw [goesF26]; simp; omega)
    have e1 : (a == b) = false := by simp; omega
    have e2 : decide (a < b) = true := by simp; omega
    clear hc
    go_enter Tryd.func12, Tryd.ntmps12
    go_wp2_with fail
    refine (shown3_any hT).mono ?_
    rintro e w2 ⟨rfl, hb2⟩
    have HB2 := Lib.hid (HB1.out.trans (hb2.mono HB1.out.size))
    clear hb2
    go_wp2_with fail
    refine (goes_any 23 0 0 0 0 a b _).mono ?_
    rintro e w3 ⟨rfl, hb3⟩
    rw [G23.out]
    have HB3 := Lib.hid (HB2.out.trans (hb3.mono HB2.out.size))
    clear hb3
    go_wp2_with fail
    refine (goes_any 25 0 0 0 0 a b _).mono ?_
    rintro e w4 ⟨rfl, hb4⟩
    rw [G25.out]
    have HB4 := Lib.hid (HB3.out.trans (hb4.mono HB3.out.size))
    clear hb4
    go_wp2_with fail
    refine (goes_any 24 0 0 0 0 a b _).mono ?_
    rintro e w5 ⟨rfl, hb5⟩
    rw [G24.out]
    have HB5 := Lib.hid (HB4.out.trans (hb5.mono HB4.out.size))
    clear hb5
    go_wp2_with fail
    refine (goes_any 26 0 0 0 0 a b _).mono ?_
    rintro e w6 ⟨rfl, hb6⟩
    rw [G26.out]
    have HB6 := Lib.hid (HB5.out.trans (hb6.mono HB5.out.size))
    clear hb6
    go_wp2
    go_ret
    exact ⟨rfl, HB6.out⟩
  · have G23 := Lib.hid (show goesF 23 a b = false by rw [goesF23]; simp; omega)
    have G24 := Lib.hid (show goesF 24 a b = true by rw [goesF24]; simp; omega)
    have G25 := Lib.hid (show goesF 25 a b = false by rw [goesF25]; simp; omega)
    have G26 := Lib.hid (show goesF 26 a b = true by rw [goesF26]; simp; omega)
    have e1 : (a == b) = false := by simp; omega
    have e2 : decide (a < b) = false := by simp; omega
    clear hc
    go_enter Tryd.func12, Tryd.ntmps12
    go_wp2_with fail
    refine (shown3_any hT).mono ?_
    rintro e w2 ⟨rfl, hb2⟩
    have HB2 := Lib.hid (HB1.out.trans (hb2.mono HB1.out.size))
    clear hb2
    go_wp2_with fail
    refine (goes_any 23 0 0 0 0 a b _).mono ?_
    rintro e w3 ⟨rfl, hb3⟩
    rw [G23.out]
    have HB3 := Lib.hid (HB2.out.trans (hb3.mono HB2.out.size))
    clear hb3
    go_wp2_with fail
    refine (goes_any 25 0 0 0 0 a b _).mono ?_
    rintro e w4 ⟨rfl, hb4⟩
    rw [G25.out]
    have HB4 := Lib.hid (HB3.out.trans (hb4.mono HB3.out.size))
    clear hb4
    go_wp2_with fail
    refine (goes_any 24 0 0 0 0 a b _).mono ?_
    rintro e w5 ⟨rfl, hb5⟩
    rw [G24.out]
    have HB5 := Lib.hid (HB4.out.trans (hb5.mono HB4.out.size))
    clear hb5
    go_wp2_with fail
    refine (goes_any 26 0 0 0 0 a b _).mono ?_
    rintro e w6 ⟨rfl, hb6⟩
    rw [G26.out]
    have HB6 := Lib.hid (HB5.out.trans (hb6.mono HB5.out.size))
    clear hb6
    go_wp2
    go_ret
    exact ⟨rfl, HB6.out⟩
end Go.Proofs.YtajhehmkdlebbaaDoor
