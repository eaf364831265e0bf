/- RvTraps: where a step traps, nothing but that, and the count of steps, changes: the walk. -/
import Derived.Test.YtajhehmkdlebbaaDoorQRvEnd
import Derived.OrdersHeld
namespace Go.Proofs.YtajhehmkdlebbaaDoor
open Go.ChangeShapes Go.WideShapes Go.ChangeAt Go.RowKit Go.Deep
set_option maxRecDepth 100000
attribute [-go_sem] loadVar storeVar
set_option maxHeartbeats 2000000 in
theorem traps_any (m : Mc) {w : World} (hA : McA w m) (hT : Tab w) :
    Calls Tryd.prog 9 #[.agg m.cells.toArray] w fun e w' => e = .returned (.bool true) ∧ Below w.heap.size w w' := by
  have hG := hA.good hT
  have hl := hG.ok.len
  have hout := hA.2.2.2
  obtain ⟨W1, h1⟩ : ∃ W1, w.alloc (.cells m.cells.toArray 34) = W1 := ⟨_, rfl⟩
  have s1 : W1.heap.size = w.heap.size + 1 := by subst h1; simp
  have b1 : Below w.heap.size w W1 := by subst h1; exact (Below.refl _ w).alloc (Nat.le_refl _) _
  have x1 : MB W1 w.heap.size m := h1 ▸ mb_new w m
  have HOK := Lib.hid hG.ok
  have HG1 := Lib.hid (hG.step b1)
  have HX1 := Lib.hid x1
  have HB1 := Lib.hid b1
  clear hA hT hG x1 b1
  go_enter Tryd.func9, Tryd.ntmps9
  go_wp2_with fail
  refine (shown3_any HG1.out.tab).mono ?_
  rintro e w2 ⟨rfl, hb2⟩
  have HX2 := Lib.hid (HX1.out.below hb2 HX1.out.lt)
  have HG2 := Lib.hid (HG1.out.step hb2)
  have HB2 := Lib.hid (HB1.out.trans (hb2.mono HB1.out.size))
  clear hb2
  have lk2 := HX2.out.loadVar hl
  go_wp2_with fail
  refine (few_any m _ hl).mono ?_
  rintro e w3 ⟨rfl, hb3⟩
  have HX3 := Lib.hid (HX2.out.below hb3 HX2.out.lt)
  have HG3 := Lib.hid (HG2.out.step hb3)
  have HB3 := Lib.hid (HB2.out.trans (hb3.mono HB2.out.size))
  clear hb3 lk2
  cases hf : fewB m with
  | false =>
    clear hf
    go_wp2
    go_ret
    exact ⟨rfl, HB3.out⟩
  | true =>
    have h00 := Lib.hid (few_reg hf)
    clear hf
    have lk3 := HX3.out.loadVar hl
    go_wp2_with fail
    refine (step_any m HG3.out (by omega)).mono ?_
    rintro e w4 ⟨A, c, rfl, hb4, hM4, hn4⟩
    obtain ⟨R, hR⟩ : ∃ R, R = m.step.home A c := ⟨_, rfl⟩
    rw [← hR]
    have hlR : R.x.length = 32 := by rw [hR]; exact HOK.out.step.len
    have hx4 := HX3.out.below hb4 HX3.out.lt
    have HB4 := HB3.out.trans (hb4.mono HB3.out.size)
    obtain ⟨W5, h5, s5, x5, b5, o5⟩ := mach_more w4
    obtain ⟨W6, h6, x6, s6, b6, o6⟩ := x5.lay rfl R hlR
    have hlt4 := hx4.lt
    have HXR := Lib.hid x6
    have HXM := Lib.hid (o6 _ _ (by omega) (o5 _ _ hx4))
    have HB6 := Lib.hid ((HB4.trans (b5.mono HB4.size)).trans (b6.mono HB4.size))
    have HR := Lib.hid hR
    have HM6 := Lib.hid (Sl.In.below hM4 (b5.trans b6))
    have HMM := Lib.hid (Sl.In.below (Sl.In.below HG3.out.mem hb4) ((b5.trans b6).mono (by have := hb4.size; omega)))
    have hsz34 : w3.heap.size ≤ w4.heap.size := hb4.size
    clear lk3 hb4 hM4 hn4 hx4 HB4 x5 b5 o5 x6 b6 o6 hR
    obtain ⟨c0, c1, c2, c3, c4, c5, c6⟩ := HXM.out.tail hl
    obtain ⟨d0, d1, d2, d3, d4, d5, d6⟩ := HXR.out.tail hlR
    clear c0 c1 c2 c3 c5 d0 d1 d2 d3 d5
    by_cases hs : m.state = 0
    · rw [hs] at c4
      by_cases ht : R.state = 2
      · rw [ht] at d4
        have heq : ({ { R with state := 0 } with steps := m.steps } : Mc) = m.home A c := by
          rw [HR.out] at ht ⊢
          have := Mc.step_trap hs (show m.step.state = 2 from ht)
          rw [this]
          unfold Mc.home
          rw [← hs]
        have HEQ := Lib.hid heq
        clear hs ht heq
        obtain ⟨W7, h7, x7, s7, b7, o7⟩ := HXR.out.step (m' := { R with state := 0 }) (Mc.setState hlR 0)
        obtain ⟨W8, h8, x8, s8, b8, o8⟩ := x7.step (m' := m.home A c) ((Mc.setSteps (m := { R with state := 0 }) hlR m.steps).trans (by rw [← HEQ.out]))
        have fz7 := HXR.out.frz 36
        have fz8 := x7.frz 38
        have dd6 := (x7.tail hlR).2.2.2.2.2.2
        have hne : w.heap.size ≠ w4.heap.size := by omega
        have x7m := o7 _ _ hne HXM.out
        have x8m := o8 _ _ hne x7m
        have cc6 := (x7m.tail hl).2.2.2.2.2.2
        have lk1 := x8.loadVar (show (m.home A c).x.length = 32 from hl)
        have lk2 := x8m.loadVar hl
        have HB8 := Lib.hid ((HB6.out.trans (b7.mono (by omega))).trans (b8.mono (by omega)))
        have hme : m.step.mem = m.mem := by
          have h1 := congrArg Mc.mem HEQ.out
          have h2 : R.mem = m.step.mem := by rw [HR.out]; rfl
          exact h2.symm.trans h1
        have hM1 : Mem W8 W8.heap.size A c m.mem := by
          have h1 := HM6.out
          rw [hme] at h1
          exact (Sl.In.below h1 (b7.trans b8)).more (by omega)
        have hM2 : Mem W8 W8.heap.size m.a m.cap m.mem := (Sl.In.below HMM.out ((b7.trans b8).mono hsz34)).more (by omega)
        have HM1 := Lib.hid (show Mem W8 W8.heap.size (m.home A c).a (m.home A c).cap (m.home A c).mem from hM1)
        have HM2 := Lib.hid (show Mem W8 W8.heap.size m.a m.cap (m.home A c).mem from hM2)
        clear x7 x8 b7 b8 o7 o8 x7m x8m hme hM1 hM2
        go_wp2_with fail
        refine (msame_any (m.home A c) m.a m.cap (w := W8) HOK.out.home HM1.out HM2.out).mono ?_
        rintro e w9 ⟨rfl, hb9⟩
        have HB9 := Lib.hid (HB8.out.trans (hb9.mono HB8.out.size))
        clear hb9
        go_wp2
        go_ret
        exact ⟨rfl, HB9.out⟩
      · have e2 : (R.state != 2) = true := by simpa using ht
        have e1 : (m.state != 0) = false := by simp [hs]
        rw [hs] at e1
        clear hs ht
        go_wp2
        go_ret
        exact ⟨rfl, HB6.out⟩
    · have e1 : (m.state != 0) = true := by simpa using hs
      clear hs
      go_wp2
      go_ret
      exact ⟨rfl, HB6.out⟩
end Go.Proofs.YtajhehmkdlebbaaDoor
