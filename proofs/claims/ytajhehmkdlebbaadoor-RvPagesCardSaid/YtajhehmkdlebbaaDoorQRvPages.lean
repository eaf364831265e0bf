/- RvPages: memory's pages stay where they are, with what they grant; those that may not be written are as they were: the walk. -/
import Derived.Test.YtajhehmkdlebbaaDoorQRvPl
import Derived.Test.YtajhehmkdlebbaaDoorQRvEnd
import Derived.OrdersHeld
import Derived.BigQuiet
import Derived.Deep.QuietTactic
namespace Go.Proofs.YtajhehmkdlebbaaDoor
open Go.ChangeShapes Go.WideShapes Go.ChangeAt Go.RowKit Go.Deep
set_option maxRecDepth 100000
attribute [-go_sem] loadVar storeVar
theorem half_wrap {y : Int} (h : -9223372036854775808 ≤ y ∧ y ≤ 9223372036854775807) : IntKind.i64.wrap (y.tdiv 2) = y.tdiv 2 := by
  refine IntWalk.i64_in _ ?_
  by_cases h0 : 0 ≤ y
  · rw [Int.tdiv_eq_ediv_of_nonneg h0]; omega
  · obtain ⟨z, rfl⟩ : ∃ z, y = -z := ⟨-y, by omega⟩
    rw [Int.neg_tdiv, Int.tdiv_eq_ediv_of_nonneg (by omega)]; omega
set_option maxHeartbeats 2000000 in
theorem pages3_any (m : Mc) {w : World} (hA : McA w m) (hT : Tab w) :
    Calls Tryd.prog 8 #[.agg m.cells.toArray] w fun e w' => e = .returned (.bool true) ∧ Below w.heap.size w w' := by
  have hG := hA.good hT
  have hl := hG.ok.len
  have hout := hA.2.2.2
  obtain ⟨W1, h1⟩ : ∃ W1, w.alloc (.cells m.cells.toArray 34) = W1 := ⟨_, rfl⟩
  have s1 : W1.heap.size = w.heap.size + 1 := by subst h1; simp
  have b1 : Below w.heap.size w W1 := by subst h1; exact (Below.refl _ w).alloc (Nat.le_refl _) _
  have x1 : MB W1 w.heap.size m := h1 ▸ mb_new w m
  have HOK := Lib.hid hG.ok
  have HG1 := Lib.hid (hG.step b1)
  have HX1 := Lib.hid x1
  have HB1 := Lib.hid b1
  clear hA hT hG x1 b1
  go_enter Tryd.func8, Tryd.ntmps8
  go_wp2_with fail
  refine (shown3_any HG1.out.tab).mono ?_
  rintro e w2 ⟨rfl, hb2⟩
  have HX2 := Lib.hid (HX1.out.below hb2 HX1.out.lt)
  have HG2 := Lib.hid (HG1.out.step hb2)
  have HB2 := Lib.hid (HB1.out.trans (hb2.mono HB1.out.size))
  clear hb2
  have lk2 := HX2.out.loadVar hl
  go_wp2_with fail
  refine (few_any m _ hl).mono ?_
  rintro e w3 ⟨rfl, hb3⟩
  have HX3 := Lib.hid (HX2.out.below hb3 HX2.out.lt)
  have HG3 := Lib.hid (HG2.out.step hb3)
  have HB3 := Lib.hid (HB2.out.trans (hb3.mono HB2.out.size))
  clear hb3 lk2
  cases hf : fewB m with
  | false =>
    clear hf
    go_wp2
    go_ret
    exact ⟨rfl, HB3.out⟩
  | true =>
    have h00 := Lib.hid (few_reg hf)
    clear hf
    have lk3 := HX3.out.loadVar hl
    go_wp2_with fail
    refine (step_any m HG3.out (by omega)).mono ?_
    rintro e w4 ⟨A, c, rfl, hb4, hM4, hn4⟩
    obtain ⟨R, hR⟩ : ∃ R, R = m.step.home A c := ⟨_, rfl⟩
    rw [← hR]
    have hlR : R.x.length = 32 := by rw [hR]; exact HOK.out.step.len
    have hx4 := HX3.out.below hb4 HX3.out.lt
    have HB4 := HB3.out.trans (hb4.mono HB3.out.size)
    obtain ⟨W5, h5, s5, x5, b5, o5⟩ := mach_more w4
    obtain ⟨W6, h6, x6, s6, b6, o6⟩ := x5.lay rfl R hlR
    have hlt4 := hx4.lt
    have HXR := Lib.hid x6
    have HXM := Lib.hid (o6 _ _ (by omega) (o5 _ _ hx4))
    have HB6 := Lib.hid ((HB4.trans (b5.mono HB4.size)).trans (b6.mono HB4.size))
    have HR := Lib.hid hR
    have HM6 := Lib.hid (Sl.In.below hM4 (b5.trans b6))
    have HMM := Lib.hid (Sl.In.below (Sl.In.below HG3.out.mem hb4) ((b5.trans b6).mono (by have := hb4.size; omega)))
    have hsz34 : w3.heap.size ≤ w4.heap.size := hb4.size
    clear lk3 hb4 hM4 hn4 hx4 HB4 x5 b5 o5 x6 b6 o6 hR
    have hwf := HOK.out.wf
    have hpg := fun (k : Nat) (hk : k < m.mem.length) => Mc.step_page (m := m) hwf hk
    have hlen := m.step_len
    have hsm := HOK.out.small
    have q1 := (HXM.out.tail hl).2.1
    have q2 : W6.cell? ⟨w4.heap.size, 33, none⟩ = some (.slice A m.mem.length c) := by
      rw [(HXR.out.tail hlR).2.1, HR.out, ← hlen]; rfl
    obtain ⟨S, hS⟩ : ∃ S, S = m.step.mem := ⟨_, rfl⟩
    rw [← hS] at HM6
    have HPG := Lib.hid (hS ▸ hpg)
    have x0 := HXR.out.lt
    have x1 := HXM.out.lt
    clear hwf hpg hlen hS
    go_wp2
    go_loopw [6] (fun i wr => ∃ k : Nat, k ≤ m.mem.length ∧ i = .int .i64 k ∧ Below W6.heap.size W6 wr) (fun i _ => m.mem.length - (intOf i).toNat)
    case atStart => exact ⟨0, Nat.zero_le _, rfl, Below.refl _ _⟩
    case round =>
      clear q1 q2
      obtain ⟨k, hk, rfl, hbw⟩ := hrel
      have q1 := ((HXM.out.below hbw x1).tail hl).2.1
      by_cases hlt : k < m.mem.length
      · have q2 : wr.cell? ⟨w4.heap.size, 33, none⟩ = some (.slice A m.mem.length c) := by
          rw [((HXR.out.below hbw x0).tail hlR).2.1, HR.out, ← Mc.step_len (m := m)]; rfl
        obtain ⟨q, hq, hqa, hqp, hqd⟩ := HPG.out k hlt
        obtain ⟨b', off', rfl, hb', hd⟩ := (Sl.In.below HM6.out (hbw.mono (by omega))).2 k q hq
        have d0 : wr.cell? ⟨b', off' + k * 3, none⟩ = some (.int .u64 q.at_) := hd 0 _ rfl
        have d1 := hd 1 _ rfl
        have d2 := hd 2 _ rfl
        obtain ⟨b, off, ha, hb, c0, c1, c2⟩ := Mem.pg (Sl.In.below HMM.out (hbw.mono (by omega))) hlt
        rw [ha] at q1
        rw [hqa] at d0
        rw [hqp] at d1
        clear hd hq hqa hqp ha
        obtain ⟨x, hx⟩ : ∃ x, x = (m.mem[k]).at_ := ⟨_, rfl⟩
        obtain ⟨y, hy⟩ : ∃ y, y = (m.mem[k]).perm := ⟨_, rfl⟩
        have hyb := (HOK.out.wf _ (List.getElem_mem hlt)).2.1
        obtain ⟨D, hD⟩ : ∃ D, D = (m.mem[k]).data := ⟨_, rfl⟩
        obtain ⟨E, hE⟩ : ∃ E, E = q.data := ⟨_, rfl⟩
        rw [← hx] at c0 d0
        rw [← hy] at c1 d1 hqd hyb
        rw [← hD] at c2 hqd
        rw [← hE] at d2 hqd
        clear hx hy hD hE
        have i1 : (0 : Int) ≤ (k : Int) := by omega
        have i2 : (k : Int) < (m.mem.length : Int) := by omega
        have HQD := Lib.hid hqd
        clear hqd
        have hw := half_wrap hyb
        have hw2 : wrap64 (y.tdiv 2) = y.tdiv 2 := (IntWalk.i64_left _).symm.trans hw
        by_cases ht : (y.tdiv 2).tmod 2 = 0
        · have t1 : ((IntKind.i64.wrap (y.tdiv 2)).tmod 2 == 0) = true := by rw [hw]; simpa using ht
          have t1' : ((wrap64 (y.tdiv 2)).tmod 2 == 0) = true := by rw [hw2]; simpa using ht
          clear hw hw2 hyb
          by_cases hy0 : 0 ≤ y
          · have e : E = D := HQD.out hy0 (by
              have h1 : y.tdiv 2 = y / 2 := Int.tdiv_eq_ediv_of_nonneg hy0
              rw [h1, Int.tmod_eq_emod_of_nonneg (by omega)] at ht
              exact ht)
            subst e
            have t2 : decide (0 ≤ y) = true := decide_eq_true hy0
            clear ht hy0
            go_wp2
            go_quiet (fail)
            go_wp2
            exact ⟨⟨k + 1, hlt, by go_num, below_drewN hbw _⟩, by simp [intOf]; omega⟩
          · have t2 : decide (0 ≤ y) = false := decide_eq_false hy0
            clear ht hy0
            go_wp2
            go_quiet (fail)
            go_wp2
            exact ⟨⟨k + 1, hlt, by go_num, below_drewN hbw _⟩, by simp [intOf]; omega⟩
        · have t1 : ((IntKind.i64.wrap (y.tdiv 2)).tmod 2 == 0) = false := by rw [hw]; simpa using ht
          have t1' : ((wrap64 (y.tdiv 2)).tmod 2 == 0) = false := by rw [hw2]; simpa using ht
          clear ht hw hw2 hyb
          go_wp2
          go_quiet (fail)
          go_wp2
          exact ⟨⟨k + 1, hlt, by go_num, below_drewN hbw _⟩, by simp [intOf]; omega⟩
      · obtain rfl : k = m.mem.length := by omega
        have HBW := Lib.hid (HB6.out.trans (hbw.mono HB6.out.size))
        clear hbw
        go_wp2
        go_ret
        exact ⟨rfl, HBW.out⟩
end Go.Proofs.YtajhehmkdlebbaaDoor
