/- RvRuns: what some steps come to is as the document says: the walk. -/
import Derived.Test.YtajhehmkdlebbaaDoorQRvEnd
import Derived.OrdersHeld
namespace Go.Proofs.YtajhehmkdlebbaaDoor
open Go.ChangeShapes Go.WideShapes Go.ChangeAt Go.RowKit Go.Deep
set_option maxRecDepth 100000
attribute [-go_sem] loadVar storeVar
set_option maxHeartbeats 2000000 in
theorem runs_any (m : Mc) (n : Int) {w : World} (hA : McA w m) (hT : Tab w) :
    Calls Tryd.prog 5 #[.agg m.cells.toArray, .int .i64 n] w fun e w' => e = .returned (.bool true) ∧ Below w.heap.size w w' := by
  have hG := hA.good hT
  have hl := hG.ok.len
  have hout := hA.2.2.2
  obtain ⟨W1, h1⟩ : ∃ W1, w.alloc (.cells m.cells.toArray 34) = W1 := ⟨_, rfl⟩
  have s1 : W1.heap.size = w.heap.size + 1 := by subst h1; simp
  have b1 : Below w.heap.size w W1 := by subst h1; exact (Below.refl _ w).alloc (Nat.le_refl _) _
  have x1 : MB W1 w.heap.size m := h1 ▸ mb_new w m
  have HOK := Lib.hid hG.ok
  have HG1 := Lib.hid (hG.step b1)
  have HX1 := Lib.hid x1
  have HB1 := Lib.hid b1
  clear hA hT hG x1 b1
  go_enter Tryd.func5, Tryd.ntmps5
  go_wp2_with fail
  refine (shown3_any HG1.out.tab).mono ?_
  rintro e w2 ⟨rfl, hb2⟩
  have HX2 := Lib.hid (HX1.out.below hb2 HX1.out.lt)
  have HG2 := Lib.hid (HG1.out.step hb2)
  have HB2 := Lib.hid (HB1.out.trans (hb2.mono HB1.out.size))
  clear hb2
  have lk2 := HX2.out.loadVar hl
  go_wp2_with fail
  refine (few_any m _ hl).mono ?_
  rintro e w3 ⟨rfl, hb3⟩
  have HX3 := Lib.hid (HX2.out.below hb3 HX2.out.lt)
  have HG3 := Lib.hid (HG2.out.step hb3)
  have HB3 := Lib.hid (HB2.out.trans (hb3.mono HB2.out.size))
  clear hb3 lk2
  cases hf : fewB m with
  | false =>
    clear hf
    go_wp2
    go_ret
    exact ⟨rfl, HB3.out⟩
  | true =>
    have h00 := Lib.hid (few_reg hf)
    clear hf
    by_cases hn : 300 < n
    · go_wp2
      go_ret
      exact ⟨rfl, HB3.out⟩
    have hn0 : decide (300 < n) = false := decide_eq_false hn
    have hn1 : n ≤ 300 := by omega
    clear hn
    have HXD := Lib.hid (HX3.out.drew 1)
    have HGD := Lib.hid (HG3.out.step (Below.refl _ w3).drew)
    have HBD := Lib.hid HB3.out.drew
    go_wp2_with fail
    refine wp_region_noPanic ?_
    refine wp_region_held_drew (S := fun w' => MB w' w.heap.size m) (by kernel_rfl) HX3.out (fun hHeld => ?_)
    refine takeH (i := 0) (d := some 18) (v := .agg m.cells.toArray) rfl (by kernel_rfl) (by kernel_rfl) (by kernel_rfl) (fun _ _ _ h => h) rfl (Or.inl ⟨by rfl, ?_⟩) hHeld ?_
    · intro w' hSw; have lk := MB.loadVar hSw hl; go_simp
    (try simp only [Act.put, List.setIfInBounds_toArray, List.set_cons_zero, List.set_cons_succ])
    refine takeH (i := 1) (d := some 19) (v := ?_) rfl (by kernel_rfl) (by kernel_rfl) (by kernel_rfl) (fun _ _ _ h => h) rfl (Or.inl ⟨by rfl, ?_⟩) hHeld ?_
    rotate_left
    · intro w' hSw; go_simp; (try with_reducible rfl)
    (try simp only [Act.put, List.setIfInBounds_toArray, List.set_cons_zero, List.set_cons_succ])
    refine takeH (i := 3) (d := some 21) (v := .agg m.cells.toArray) rfl (by kernel_rfl) (by kernel_rfl) (by kernel_rfl) (fun _ _ _ h => h) rfl (Or.inl ⟨by rfl, ?_⟩) hHeld ?_
    · intro w' hSw; have lk := MB.loadVar hSw hl; go_simp
    (try simp only [Act.put, List.setIfInBounds_toArray, List.set_cons_zero, List.set_cons_succ])
    refine takeH (i := 4) (d := some 22) (v := ?_) rfl (by kernel_rfl) (by kernel_rfl) (by kernel_rfl) (fun _ _ _ h => h) rfl (Or.inl ⟨by rfl, ?_⟩) hHeld ?_
    rotate_left
    · intro w' hSw; go_simp; (try with_reducible rfl)
    (try simp only [Act.put, List.setIfInBounds_toArray, List.set_cons_zero, List.set_cons_succ])
    refine wpAnyH_ready (rs := [2]) (by kernel_rfl) (by simp) ?_
    refine AllReadyH.cons rfl (fun K hK => ?_) AllReadyH.nil
    go_simp
    go_at_call 24
    with_reducible refine (run_any m n (w := w3.drew) HGD.out (by omega) (by omega)).mono ?_
    rintro e w4 ⟨A, c, rfl, hb4, hM4, hn4⟩
    have HX4 := Lib.hid (HXD.out.below hb4 HXD.out.lt)
    have HG4 := Lib.hid (HGD.out.step hb4)
    have HB4 := Lib.hid (HBD.out.trans (hb4.mono HBD.out.size))
    have HM4 := Lib.hid hM4
    clear hb4 hM4 hn4
    go_wp2_with fail
    refine hK.out _ _ HX4.out (fun hHeld => ?_)
    clear hK K
    (try simp only [Act.put, List.setIfInBounds_toArray, List.set_cons_zero, List.set_cons_succ])
    refine wpAnyH_ready (rs := [5]) (by kernel_rfl) (by simp) ?_
    refine AllReadyH.cons rfl (fun K hK => ?_) AllReadyH.nil
    go_simp
    go_at_call 25
    with_reducible refine (rrun_any m n HG4.out h00.out (by omega) (by omega)).mono ?_
    rintro e w5 ⟨A', c', rfl, hb5, hM5, hn5⟩
    have HX5 := Lib.hid (HX4.out.below hb5 HX4.out.lt)
    have HB5 := Lib.hid (HB4.out.trans (hb5.mono HB4.out.size))
    have HM5 := Lib.hid (show Mem w5 w5.heap.size A c (m.run n.toNat).mem from Mem.step HM4.out hb5)
    have HM5' := Lib.hid (show Mem w5 w5.heap.size A' c' (m.run n.toNat).mem from hM5)
    clear hb5 hM5 hn5
    go_wp2_with fail
    refine hK.out _ _ HX5.out (fun hHeld => ?_)
    clear hK K
    (try simp only [Act.put, List.setIfInBounds_toArray, List.set_cons_zero, List.set_cons_succ])
    refine wpAnyH_ready (rs := [6]) (by kernel_rfl) (by simp) ?_
    refine AllReadyH.cons rfl (fun K hK => ?_) AllReadyH.nil
    go_simp
    go_at_call 21
    with_reducible refine (msame_homes (m.run n.toNat) A A' c c' (w := w5) (HOK.out.run _) HM5.out HM5'.out).mono ?_
    rintro e w6 ⟨rfl, hb6⟩
    have HX6 := Lib.hid (HX5.out.below hb6 HX5.out.lt)
    have HB6 := Lib.hid (HB5.out.trans (hb6.mono HB5.out.size))
    clear hb6
    go_wp2_with fail
    refine hK.out _ _ HX6.out (fun hHeld => ?_)
    clear hK K
    (try simp only [Act.put, List.setIfInBounds_toArray, List.set_cons_zero, List.set_cons_succ])
    refine takeH (i := 7) (d := some 7) (v := ?_) rfl (by kernel_rfl) (by kernel_rfl) (by kernel_rfl) (fun _ _ _ h => h) rfl (Or.inl ⟨by rfl, ?_⟩) hHeld ?_
    rotate_left
    · intro w' hSw; go_simp; (try with_reducible rfl)
    (try simp only [Act.put, List.setIfInBounds_toArray, List.set_cons_zero, List.set_cons_succ])
    refine wpAnyH_done (by kernel_rfl) ?_ _
    refine NoPanic.normal ?_
    go_wp2
    go_ret
    exact ⟨rfl, HB6.out⟩
end Go.Proofs.YtajhehmkdlebbaaDoor
