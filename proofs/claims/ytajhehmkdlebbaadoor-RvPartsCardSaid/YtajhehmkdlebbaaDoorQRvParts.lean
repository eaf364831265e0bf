/- RvParts: so many steps, and so many more, are those of both together: the walk. -/
import Derived.Test.YtajhehmkdlebbaaDoorQRvEnd
import Derived.OrdersHeld
namespace Go.Proofs.YtajhehmkdlebbaaDoor
open Go.ChangeShapes Go.WideShapes Go.ChangeAt Go.RowKit Go.Deep
set_option maxRecDepth 100000
attribute [-go_sem] loadVar storeVar
set_option maxHeartbeats 2000000 in
theorem partsL_any (m : Mc) (a b : Int) {w : World} (hA : McA w m) (hT : Tab w) :
    Calls Tryd.prog 10 #[.agg m.cells.toArray, .int .i64 a, .int .i64 b] w fun e w' => e = .returned (.bool true) ∧ Below w.heap.size w w' := by
  have hG := hA.good hT
  have hl := hG.ok.len
  have hout := hA.2.2.2
  obtain ⟨W1, h1⟩ : ∃ W1, w.alloc (.cells m.cells.toArray 34) = W1 := ⟨_, rfl⟩
  have s1 : W1.heap.size = w.heap.size + 1 := by subst h1; simp
  have b1 : Below w.heap.size w W1 := by subst h1; exact (Below.refl _ w).alloc (Nat.le_refl _) _
  have x1 : MB W1 w.heap.size m := h1 ▸ mb_new w m
  have HOK := Lib.hid hG.ok
  have HG1 := Lib.hid (hG.step b1)
  have HX1 := Lib.hid x1
  have HB1 := Lib.hid b1
  clear hA hT hG x1 b1
  go_enter Tryd.func10, Tryd.ntmps10
  go_wp2_with fail
  refine (shown3_any HG1.out.tab).mono ?_
  rintro e w2 ⟨rfl, hb2⟩
  have HX2 := Lib.hid (HX1.out.below hb2 HX1.out.lt)
  have HG2 := Lib.hid (HG1.out.step hb2)
  have HB2 := Lib.hid (HB1.out.trans (hb2.mono HB1.out.size))
  clear hb2
  have lk2 := HX2.out.loadVar hl
  go_wp2_with fail
  refine (few_any m _ hl).mono ?_
  rintro e w3 ⟨rfl, hb3⟩
  have HX3 := Lib.hid (HX2.out.below hb3 HX2.out.lt)
  have HG3 := Lib.hid (HG2.out.step hb3)
  have HB3 := Lib.hid (HB2.out.trans (hb3.mono HB2.out.size))
  clear hb3 lk2
  cases hf : fewB m with
  | false =>
    clear hf
    go_wp2
    go_ret
    exact ⟨rfl, HB3.out⟩
  | true =>
    have h00 := Lib.hid (few_reg hf)
    clear hf
    by_cases hc : a < 0
    · go_wp2
      go_ret
      exact ⟨rfl, HB3.out⟩
    have ha0 : 0 ≤ a := by omega
    have ha0' : decide (a < 0) = false := decide_eq_false hc
    clear hc
    by_cases hc : b < 0
    · go_wp2
      go_ret
      exact ⟨rfl, HB3.out⟩
    have hb0 : 0 ≤ b := by omega
    have hb0' : decide (b < 0) = false := decide_eq_false hc
    clear hc
    by_cases hc : 150 < a
    · go_wp2
      go_ret
      exact ⟨rfl, HB3.out⟩
    have ha1 : a ≤ 150 := by omega
    have ha1' : decide (150 < a) = false := decide_eq_false hc
    clear hc
    by_cases hc : 150 < b
    · go_wp2
      go_ret
      exact ⟨rfl, HB3.out⟩
    have hb1 : b ≤ 150 := by omega
    have hb1' : decide (150 < b) = false := decide_eq_false hc
    clear hc
    have HXD := Lib.hid (HX3.out.drew 1)
    have HGD := Lib.hid (HG3.out.step (Below.refl _ w3).drew)
    have HBD := Lib.hid HB3.out.drew
    have hab : IntKind.i64.wrap (a + b) = a + b := IntWalk.i64_in _ (by omega)
    go_wp2_with fail
    refine wp_region_noPanic ?_
    refine wp_region_held_drew (S := fun w' => MB w' w.heap.size m) (by kernel_rfl) HX3.out (fun hHeld => ?_)
    refine takeH (i := 0) (d := some 32) (v := .agg m.cells.toArray) rfl (by kernel_rfl) (by kernel_rfl) (by kernel_rfl) (fun _ _ _ h => h) rfl (Or.inl ⟨by rfl, ?_⟩) hHeld ?_
    · intro w' hSw; have lk := MB.loadVar hSw hl; go_simp
    (try simp only [Act.put, List.setIfInBounds_toArray, List.set_cons_zero, List.set_cons_succ])
    refine takeH (i := 1) (d := some 33) (v := ?_) rfl (by kernel_rfl) (by kernel_rfl) (by kernel_rfl) (fun _ _ _ h => h) rfl (Or.inl ⟨by rfl, ?_⟩) hHeld ?_
    rotate_left
    · intro w' hSw; go_simp; (try with_reducible rfl)
    (try simp only [Act.put, List.setIfInBounds_toArray, List.set_cons_zero, List.set_cons_succ])
    refine takeH (i := 3) (d := some 35) (v := ?_) rfl (by kernel_rfl) (by kernel_rfl) (by kernel_rfl) (fun _ _ _ h => h) rfl (Or.inl ⟨by rfl, ?_⟩) hHeld ?_
    rotate_left
    · intro w' hSw; go_simp; (try with_reducible rfl)
    (try simp only [Act.put, List.setIfInBounds_toArray, List.set_cons_zero, List.set_cons_succ])
    refine takeH (i := 5) (d := some 37) (v := .agg m.cells.toArray) rfl (by kernel_rfl) (by kernel_rfl) (by kernel_rfl) (fun _ _ _ h => h) rfl (Or.inl ⟨by rfl, ?_⟩) hHeld ?_
    · intro w' hSw; have lk := MB.loadVar hSw hl; go_simp
    (try simp only [Act.put, List.setIfInBounds_toArray, List.set_cons_zero, List.set_cons_succ])
    refine takeH (i := 6) (d := some 38) (v := ?_) rfl (by kernel_rfl) (by kernel_rfl) (by kernel_rfl) (fun _ _ _ h => h) rfl (Or.inl ⟨by rfl, ?_⟩) hHeld ?_
    rotate_left
    · intro w' hSw; go_simp; (try with_reducible rfl)
    (try simp only [Act.put, List.setIfInBounds_toArray, List.set_cons_zero, List.set_cons_succ])
    refine takeH (i := 7) (d := some 39) (v := ?_) rfl (by kernel_rfl) (by kernel_rfl) (by kernel_rfl) (fun _ _ _ h => h) rfl (Or.inl ⟨by rfl, ?_⟩) hHeld ?_
    rotate_left
    · intro w' hSw; go_simp; (try with_reducible rfl)
    (try simp only [Act.put, List.setIfInBounds_toArray, List.set_cons_zero, List.set_cons_succ])
    refine takeH (i := 8) (d := some 40) (v := .int .i64 (a + b)) rfl (by kernel_rfl) (by kernel_rfl) (by kernel_rfl) (fun _ _ _ h => h) rfl (Or.inl ⟨by rfl, ?_⟩) hHeld ?_
    · intro w' hSw; go_simp
    (try simp only [Act.put, List.setIfInBounds_toArray, List.set_cons_zero, List.set_cons_succ])
    refine wpAnyH_ready (rs := [2]) (by kernel_rfl) (by simp) ?_
    refine AllReadyH.cons rfl (fun K hK => ?_) AllReadyH.nil
    go_simp
    go_at_call 24
    with_reducible refine (run_any m a (w := w3.drew) HGD.out (by omega) (by omega)).mono ?_
    rintro e w4 ⟨A, c, rfl, hb4, hM4, hn4⟩
    have HX4 := Lib.hid (HXD.out.below hb4 HXD.out.lt)
    have HG4 := Lib.hid (HGD.out.step hb4)
    have HB4 := Lib.hid (HBD.out.trans (hb4.mono HBD.out.size))
    have HK4 := Lib.hid (show McG w4 ((m.run a.toNat).home A c) from ⟨(HOK.out.run _).home, HG4.out.tab, hM4, hn4⟩)
    have hso : ((m.run a.toNat).home A c).out.size + b.toNat ≤ 900000000000000 := by
      have h1 := Mc.run_out (m := m) a.toNat
      have h2 : (m.run a.toNat).out.size + b.toNat ≤ 900000000000000 := by omega
      exact h2
    clear hb4 hM4 hn4
    go_wp2_with fail
    refine hK.out _ _ HX4.out (fun hHeld => ?_)
    clear hK K
    (try simp only [Act.put, List.setIfInBounds_toArray, List.set_cons_zero, List.set_cons_succ])
    refine wpAnyH_ready (rs := [4]) (by kernel_rfl) (by simp) ?_
    refine AllReadyH.cons rfl (fun K hK => ?_) AllReadyH.nil
    go_simp
    go_at_call 24
    with_reducible refine (run_any ((m.run a.toNat).home A c) b HK4.out (by omega) hso).mono ?_
    rintro e w5 ⟨A', c', rfl, hb5, hM5, hn5⟩
    rw [Mc.run_home, Mc.run_add, Mc.home_home]
    have HX5 := Lib.hid (HX4.out.below hb5 HX4.out.lt)
    have HG5 := Lib.hid (HG4.out.step hb5)
    have HB5 := Lib.hid (HB4.out.trans (hb5.mono HB4.out.size))
    have hM5b : Mem w5 w5.heap.size A' c' (m.run (a.toNat + b.toNat)).mem := by rw [Mc.run_home, Mc.run_add] at hM5; exact hM5
    have HM5 := Lib.hid hM5b
    clear hb5 hM5 hn5 hM5b
    go_wp2_with fail
    refine hK.out _ _ HX5.out (fun hHeld => ?_)
    clear hK K
    (try simp only [Act.put, List.setIfInBounds_toArray, List.set_cons_zero, List.set_cons_succ])
    refine wpAnyH_ready (rs := [9]) (by kernel_rfl) (by simp) ?_
    refine AllReadyH.cons rfl (fun K hK => ?_) AllReadyH.nil
    go_simp
    go_at_call 24
    with_reducible refine (run_any m (a + b) HG5.out (by omega) (by omega)).mono ?_
    rintro e w6 ⟨A2, c2, rfl, hb6, hM6, hn6⟩
    rw [show (a + b).toNat = a.toNat + b.toNat by omega]
    have HX6 := Lib.hid (HX5.out.below hb6 HX5.out.lt)
    have HB6 := Lib.hid (HB5.out.trans (hb6.mono HB5.out.size))
    have HM6 := Lib.hid (show Mem w6 w6.heap.size A' c' (m.run (a.toNat + b.toNat)).mem from Mem.step HM5.out hb6)
    have hM6b : Mem w6 w6.heap.size A2 c2 (m.run (a.toNat + b.toNat)).mem := by rw [show (a + b).toNat = a.toNat + b.toNat by omega] at hM6; exact hM6
    have HM6' := Lib.hid (show Mem w6 w6.heap.size A2 c2 (m.run (a.toNat + b.toNat)).mem from hM6b)
    clear hb6 hM6 hn6 hM6b
    go_wp2_with fail
    refine hK.out _ _ HX6.out (fun hHeld => ?_)
    clear hK K
    (try simp only [Act.put, List.setIfInBounds_toArray, List.set_cons_zero, List.set_cons_succ])
    refine wpAnyH_ready (rs := [10]) (by kernel_rfl) (by simp) ?_
    refine AllReadyH.cons rfl (fun K hK => ?_) AllReadyH.nil
    go_simp
    go_at_call 21
    with_reducible refine (msame_homes (m.run (a.toNat + b.toNat)) A' A2 c' c2 (w := w6) (HOK.out.run _) HM6.out HM6'.out).mono ?_
    rintro e w7 ⟨rfl, hb7⟩
    have HX7 := Lib.hid (HX6.out.below hb7 HX6.out.lt)
    have HB7 := Lib.hid (HB6.out.trans (hb7.mono HB6.out.size))
    clear hb7
    go_wp2_with fail
    refine hK.out _ _ HX7.out (fun hHeld => ?_)
    clear hK K
    (try simp only [Act.put, List.setIfInBounds_toArray, List.set_cons_zero, List.set_cons_succ])
    refine takeH (i := 11) (d := some 9) (v := ?_) rfl (by kernel_rfl) (by kernel_rfl) (by kernel_rfl) (fun _ _ _ h => h) rfl (Or.inl ⟨by rfl, ?_⟩) hHeld ?_
    rotate_left
    · intro w' hSw; go_simp; (try with_reducible rfl)
    (try simp only [Act.put, List.setIfInBounds_toArray, List.set_cons_zero, List.set_cons_succ])
    refine wpAnyH_done (by kernel_rfl) ?_ _
    refine NoPanic.normal ?_
    go_wp2
    go_ret
    exact ⟨rfl, HB7.out⟩
end Go.Proofs.YtajhehmkdlebbaaDoor
