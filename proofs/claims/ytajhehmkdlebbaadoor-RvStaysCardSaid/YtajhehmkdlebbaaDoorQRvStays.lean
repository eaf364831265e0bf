/- RvStays: who ended does no more; what was written stays written, what is to be read is taken off from its beginning: the walk. -/
import Derived.Test.YtajhehmkdlebbaaDoorQRvEnd
import Derived.OrdersHeld
import Derived.BigQuiet
import Derived.Deep.QuietTactic
namespace Go.Proofs.YtajhehmkdlebbaaDoor
open Go.ChangeShapes Go.WideShapes Go.ChangeAt Go.RowKit Go.Deep
set_option maxRecDepth 100000
attribute [-go_sem] loadVar storeVar
theorem out_facts {P O : ByteArray} (h : P = O ∨ ∃ b, P = O ++ ⟨#[b]⟩) : O.size ≤ P.size ∧ P.size ≤ O.size + 1 ∧ P.extract 0 O.size = O := by
  rcases h with rfl | ⟨b, rfl⟩
  · exact ⟨Nat.le_refl _, by omega, by simp⟩
  · have hs : (O ++ (⟨#[b]⟩ : ByteArray)).size = O.size + 1 := by rw [ByteArray.size_append]; rfl
    refine ⟨by omega, by omega, ?_⟩
    rw [ByteArray.extract_append]
    simp
theorem inp_facts {J I : ByteArray} (h : J = I ∨ (0 < I.size ∧ J = I.extract 1 I.size)) : J.size ≤ I.size ∧ I.size ≤ J.size + 1 ∧ I.extract (I.size - J.size) I.size = J := by
  rcases h with rfl | ⟨h0, rfl⟩
  · exact ⟨Nat.le_refl _, by omega, by simp⟩
  · have hs : (I.extract 1 I.size).size = I.size - 1 := by rw [ByteArray.size_extract]; omega
    refine ⟨by omega, by omega, ?_⟩
    rw [hs, show I.size - (I.size - 1) = 1 by omega]
set_option maxHeartbeats 2000000 in
theorem stays3_any (m : Mc) {w : World} (hA : McA w m) (hT : Tab w) :
    Calls Tryd.prog 6 #[.agg m.cells.toArray] w fun e w' => e = .returned (.bool true) ∧ Below w.heap.size w w' := by
  have hG := hA.good hT
  have hl := hG.ok.len
  have hout := hA.2.2.2
  obtain ⟨W1, h1⟩ : ∃ W1, w.alloc (.cells m.cells.toArray 34) = W1 := ⟨_, rfl⟩
  have s1 : W1.heap.size = w.heap.size + 1 := by subst h1; simp
  have b1 : Below w.heap.size w W1 := by subst h1; exact (Below.refl _ w).alloc (Nat.le_refl _) _
  have x1 : MB W1 w.heap.size m := h1 ▸ mb_new w m
  have HOK := Lib.hid hG.ok
  have HG1 := Lib.hid (hG.step b1)
  have HX1 := Lib.hid x1
  have HB1 := Lib.hid b1
  clear hA hT hG x1 b1
  go_enter Tryd.func6, Tryd.ntmps6
  go_wp2_with fail
  refine (shown3_any HG1.out.tab).mono ?_
  rintro e w2 ⟨rfl, hb2⟩
  have HX2 := Lib.hid (HX1.out.below hb2 HX1.out.lt)
  have HG2 := Lib.hid (HG1.out.step hb2)
  have HB2 := Lib.hid (HB1.out.trans (hb2.mono HB1.out.size))
  clear hb2
  have lk2 := HX2.out.loadVar hl
  go_wp2_with fail
  refine (few_any m _ hl).mono ?_
  rintro e w3 ⟨rfl, hb3⟩
  have HX3 := Lib.hid (HX2.out.below hb3 HX2.out.lt)
  have HG3 := Lib.hid (HG2.out.step hb3)
  have HB3 := Lib.hid (HB2.out.trans (hb3.mono HB2.out.size))
  clear hb3 lk2
  cases hf : fewB m with
  | false =>
    clear hf
    go_wp2
    go_ret
    exact ⟨rfl, HB3.out⟩
  | true =>
    have h00 := Lib.hid (few_reg hf)
    clear hf
    have lk3 := HX3.out.loadVar hl
    go_wp2_with fail
    refine (step_any m HG3.out (by omega)).mono ?_
    rintro e w4 ⟨A, c, rfl, hb4, hM4, hn4⟩
    obtain ⟨R, hR⟩ : ∃ R, R = m.step.home A c := ⟨_, rfl⟩
    rw [← hR]
    have hlR : R.x.length = 32 := by rw [hR]; exact HOK.out.step.len
    have hx4 := HX3.out.below hb4 HX3.out.lt
    have HB4 := HB3.out.trans (hb4.mono HB3.out.size)
    obtain ⟨W5, h5, s5, x5, b5, o5⟩ := mach_more w4
    obtain ⟨W6, h6, x6, s6, b6, o6⟩ := x5.lay rfl R hlR
    have hlt4 := hx4.lt
    have HXR := Lib.hid x6
    have HXM := Lib.hid (o6 _ _ (by omega) (o5 _ _ hx4))
    have HB6 := Lib.hid ((HB4.trans (b5.mono HB4.size)).trans (b6.mono HB4.size))
    have HR := Lib.hid hR
    have HM6 := Lib.hid (Sl.In.below hM4 (b5.trans b6))
    have HMM := Lib.hid (Sl.In.below (Sl.In.below HG3.out.mem hb4) ((b5.trans b6).mono (by have := hb4.size; omega)))
    have hsz34 : w3.heap.size ≤ w4.heap.size := hb4.size
    clear lk3 hb4 hM4 hn4 hx4 HB4 x5 b5 o5 x6 b6 o6 hR
    obtain ⟨c0, c1, c2, c3, c4, c5, c6⟩ := HXM.out.tail hl
    obtain ⟨d0, d1, d2, d3, d4, d5, d6⟩ := HXR.out.tail hlR
    clear c0 c1 c5 d0 d1 d4 d5
    by_cases hs : m.state = 0
    · have e1 : (m.state != 0) = false := by simp [hs]
      obtain ⟨hi, ho, hst⟩ := Mc.step_io hs
      rw [show m.step.inp = R.inp by rw [HR.out]; rfl] at hi
      rw [show m.step.out = R.out by rw [HR.out]; rfl] at ho
      rw [show m.step.steps = R.steps by rw [HR.out]; rfl] at hst
      rw [hst] at d6
      clear hs hst
      obtain ⟨I, hI⟩ : ∃ I, I = m.inp := ⟨_, rfl⟩
      obtain ⟨O, hO⟩ : ∃ O, O = m.out := ⟨_, rfl⟩
      obtain ⟨J, hJ⟩ : ∃ J, J = R.inp := ⟨_, rfl⟩
      obtain ⟨P, hP⟩ : ∃ P, P = R.out := ⟨_, rfl⟩
      have his := HOK.out.inp_
      rw [← hI] at c2 hi his
      rw [← hO] at c3 ho hout
      rw [← hJ] at d2 hi
      rw [← hP] at d3 ho
      clear hI hO hJ hP
      have HI := Lib.hid hi
      have HO := Lib.hid ho
      clear hi ho
      obtain ⟨o1, o2, o3⟩ := out_facts HO.out
      obtain ⟨i1, i2, i3⟩ := inp_facts HI.out
      have t1 : decide (P.size < O.size) = false := decide_eq_false (by omega)
      have t3 : decide ((O.size : Int) + 1 < (P.size : Int)) = false := decide_eq_false (by omega)
      have t4 : decide (I.size < J.size) = false := decide_eq_false (by omega)
      have t5 : decide ((J.size : Int) < (I.size : Int) - 1) = false := decide_eq_false (by omega)
      have u1 : (0 : Int) ≤ (O.size : Int) := by omega
      have u2 : (O.size : Int) ≤ (P.size : Int) := by omega
      go_wp2_with fail
      go_quiet (fail)
      clear t1 t3 t4 t5 u1 u2 o1 o2 o3 c3 d3
      go_wp2_with fail
      have v0 : IntKind.i64.wrap ((I.size : Int) - (J.size : Int)) = (I.size : Int) - (J.size : Int) := IntWalk.i64_in _ (by omega)
      have v1 : (0 : Int) ≤ (I.size : Int) - (J.size : Int) := by omega
      have v2 : (I.size : Int) - (J.size : Int) ≤ (I.size : Int) := by omega
      have v3 : ((I.size : Int) - (J.size : Int)).toNat = I.size - J.size := by omega
      go_quiet (fail)
      go_wp2
      go_ret
      exact ⟨rfl, below_drewN (below_drewN HB6.out _) _⟩
    · have e1 : (m.state != 0) = true := by simpa using hs
      have hm : R = m.home A c := by rw [HR.out, Mc.step_done hs]
      have HMR := Lib.hid hm
      clear hs hm
      have lk1 := HXR.out.loadVar hlR
      have lk2 := HXM.out.loadVar hl
      have hM1 : Mem W6 W6.heap.size A c m.mem := by
        have h1 := HM6.out
        rw [show m.step.mem = m.mem by have h2 : R.mem = m.mem := (by rw [HMR.out]; rfl); rw [← h2, HR.out]; rfl] at h1
        exact h1.more (by omega)
      have hM2 : Mem W6 W6.heap.size m.a m.cap m.mem := HMM.out.more (by omega)
      have HM1 := Lib.hid hM1
      have HM2 := Lib.hid hM2
      clear hM1 hM2
      go_wp2_with fail
      rw [HMR.out]
      refine (msame_homes m A m.a c m.cap (w := W6) HOK.out HM1.out HM2.out).mono ?_
      rintro e w9 ⟨rfl, hb9⟩
      have HB9 := Lib.hid (HB6.out.trans (hb9.mono HB6.out.size))
      clear hb9
      go_wp2
      go_ret
      exact ⟨rfl, HB9.out⟩
end Go.Proofs.YtajhehmkdlebbaaDoor
