/- RvZero: the register 0 stays 0; a step changes one register at most: the walk. -/
import Derived.Test.YtajhehmkdlebbaaDoorQRvPl
import Derived.Test.YtajhehmkdlebbaaDoorQRvEnd
import Derived.OrdersHeld
import Derived.BigQuiet
import Derived.Deep.QuietTactic
namespace Go.Proofs.YtajhehmkdlebbaaDoor
open Go.ChangeShapes Go.WideShapes Go.ChangeAt Go.RowKit Go.Deep
set_option maxRecDepth 100000
attribute [-go_sem] loadVar storeVar
set_option maxHeartbeats 2000000 in
theorem zero_any (m : Mc) {w : World} (hA : McA w m) (hT : Tab w) :
    Calls Tryd.prog 7 #[.agg m.cells.toArray] w fun e w' => e = .returned (.bool true) ∧ Below w.heap.size w w' := by
  have hG := hA.good hT
  have hl := hG.ok.len
  have hout := hA.2.2.2
  obtain ⟨W1, h1⟩ : ∃ W1, w.alloc (.cells m.cells.toArray 34) = W1 := ⟨_, rfl⟩
  have s1 : W1.heap.size = w.heap.size + 1 := by subst h1; simp
  have b1 : Below w.heap.size w W1 := by subst h1; exact (Below.refl _ w).alloc (Nat.le_refl _) _
  have x1 : MB W1 w.heap.size m := h1 ▸ mb_new w m
  have HOK := Lib.hid hG.ok
  have HG1 := Lib.hid (hG.step b1)
  have HX1 := Lib.hid x1
  have HB1 := Lib.hid b1
  clear hA hT hG x1 b1
  go_enter Tryd.func7, Tryd.ntmps7
  go_wp2_with fail
  refine (shown3_any HG1.out.tab).mono ?_
  rintro e w2 ⟨rfl, hb2⟩
  have HX2 := Lib.hid (HX1.out.below hb2 HX1.out.lt)
  have HG2 := Lib.hid (HG1.out.step hb2)
  have HB2 := Lib.hid (HB1.out.trans (hb2.mono HB1.out.size))
  clear hb2
  have lk2 := HX2.out.loadVar hl
  go_wp2_with fail
  refine (few_any m _ hl).mono ?_
  rintro e w3 ⟨rfl, hb3⟩
  have HX3 := Lib.hid (HX2.out.below hb3 HX2.out.lt)
  have HG3 := Lib.hid (HG2.out.step hb3)
  have HB3 := Lib.hid (HB2.out.trans (hb3.mono HB2.out.size))
  clear hb3 lk2
  cases hf : fewB m with
  | false =>
    clear hf
    go_wp2
    go_ret
    exact ⟨rfl, HB3.out⟩
  | true =>
    have h00 := Lib.hid (few_reg hf)
    clear hf
    have lk3 := HX3.out.loadVar hl
    go_wp2_with fail
    refine (step_any m HG3.out (by omega)).mono ?_
    rintro e w4 ⟨A, c, rfl, hb4, hM4, hn4⟩
    obtain ⟨R, hR⟩ : ∃ R, R = m.step.home A c := ⟨_, rfl⟩
    rw [← hR]
    have hlR : R.x.length = 32 := by rw [hR]; exact HOK.out.step.len
    have hx4 := HX3.out.below hb4 HX3.out.lt
    have HB4 := HB3.out.trans (hb4.mono HB3.out.size)
    obtain ⟨W5, h5, s5, x5, b5, o5⟩ := mach_more w4
    obtain ⟨W6, h6, x6, s6, b6, o6⟩ := x5.lay rfl R hlR
    have hlt4 := hx4.lt
    have HXR := Lib.hid x6
    have HXM := Lib.hid (o6 _ _ (by omega) (o5 _ _ hx4))
    have HB6 := Lib.hid ((HB4.trans (b5.mono HB4.size)).trans (b6.mono HB4.size))
    have HR := Lib.hid hR
    have HM6 := Lib.hid (Sl.In.below hM4 (b5.trans b6))
    have HMM := Lib.hid (Sl.In.below (Sl.In.below HG3.out.mem hb4) ((b5.trans b6).mono (by have := hb4.size; omega)))
    have hsz34 : w3.heap.size ≤ w4.heap.size := hb4.size
    clear lk3 hb4 hM4 hn4 hx4 HB4 x5 b5 o5 x6 b6 o6 hR
    have hRx : R.x = m.step.x := by rw [HR.out]; rfl
    have h0R := Lib.hid (show R.x.getD 0 0 = 0 by rw [hRx]; exact Mc.step_zero hl h00.out)
    have hone : ∃ r : Nat, ∀ i : Nat, i ≠ r → R.x.getD i 0 = m.x.getD i 0 := by rw [hRx]; exact Mc.step_one hl h00.out
    obtain ⟨r, hr⟩ := hone
    have HC := Lib.hid (fun k => (cntD_one hr k).1)
    have HW6 := Lib.hid (Below.refl W6.heap.size W6)
    clear hr hRx
    have x0 := HXR.out.lt
    have x1 := HXM.out.lt
    go_wp2
    go_loopw [6, 7] (fun n i wr => ∃ k : Nat, k ≤ 32 ∧ i = .int .i64 k ∧ n = .int .i64 (cntD m.x R.x k) ∧ Below W6.heap.size W6 wr) (fun _ i _ => 32 - (intOf i).toNat)
    case atStart => exact ⟨0, by omega, rfl, rfl, Below.refl _ _⟩
    case round =>
      obtain ⟨k, hk, rfl, rfl, hbw⟩ := hrel
      have bd := cntD_bd m.x R.x k
      by_cases hlt : k < 32
      · have c1 := (HXR.out.below hbw x0).reg hlR hlt
        have c2 := (HXM.out.below hbw x1).reg hl hlt
        have i1 : (0 : Int) ≤ (k : Int) := by omega
        have i2 : (k : Int) < 32 := by omega
        have HN := Lib.hid (show cntD m.x R.x (k + 1) = cntD m.x R.x k + if R.x.getD k 0 = m.x.getD k 0 then 0 else 1 from rfl)
        obtain ⟨u, hu⟩ : ∃ u, u = R.x.getD k 0 := ⟨_, rfl⟩
        obtain ⟨v, hv⟩ : ∃ v, v = m.x.getD k 0 := ⟨_, rfl⟩
        rw [← hu, ← hv] at HN
        rw [← hu] at c1
        rw [← hv] at c2
        obtain ⟨n, hn⟩ : ∃ n, n = cntD m.x R.x k := ⟨_, rfl⟩
        rw [← hn] at HN bd ⊢
        clear hu hv hn
        by_cases e : u = v
        · have e1 : (u != v) = false := by simpa using e
          have HE := Lib.hid e
          clear e
          go_wp2
          go_quiet (fail)
          go_wp2
          exact ⟨⟨k + 1, hlt, by go_num, by rw [HN.out, if_pos HE.out]; simp, below_drewN hbw _⟩, by simp [intOf]; omega⟩
        · have e1 : (u != v) = true := by simpa using e
          have HE := Lib.hid e
          clear e
          go_wp2
          go_quiet (fail)
          go_wp2
          exact ⟨⟨k + 1, hlt, by go_num, by rw [HN.out, if_neg HE.out], below_drewN hbw _⟩, by simp [intOf]; omega⟩
      · obtain rfl : k = 32 := by omega
        have c0 := (HXR.out.below hbw x0).reg hlR (i := 0) (by omega)
        rw [h0R.out] at c0
        have hc := HC.out 32
        have HBW := Lib.hid (HB6.out.trans (hbw.mono HB6.out.size))
        obtain ⟨n, hn⟩ : ∃ n, n = cntD m.x R.x 32 := ⟨_, rfl⟩
        rw [← hn] at bd hc ⊢
        clear hn hbw
        have d1 : decide (n ≤ 1) = true := decide_eq_true hc
        go_wp2
        go_ret
        exact ⟨rfl, HBW.out⟩
end Go.Proofs.YtajhehmkdlebbaaDoor
