/- The reference's Back: the same program of bytes. -/
import Derived.Test.YthnekmfcbbohkaaDoorBack
import Derived.Test.YthnekmfcbbohkaaDoorRefTake
namespace Go.Proofs.YthnekmfcbbohkaaDoor
open Go.ChangeShapes Go.WideShapes Go.ChangeAt Go.RowKit Go.Deep
set_option maxRecDepth 100000
theorem word_sum {s : ByteArray} {q : Nat} (h : q + 3 < s.size) :
    IntKind.u32.wrap (IntKind.u32.wrap (IntKind.u32.wrap (IntKind.u32.wrap (s[q].toNat : Int) + IntKind.u32.wrap (256 * IntKind.u32.wrap (s[q + 1].toNat : Int))) + IntKind.u32.wrap (65536 * IntKind.u32.wrap (s[q + 2].toNat : Int))) + IntKind.u32.wrap (16777216 * IntKind.u32.wrap (s[q + 3].toNat : Int))) = wordAt s q := by
  rw [byteI_at, byteI_at, byteI_at, byteI_at]
  unfold wordAt
  have h0 := byteI_bd s q
  have h1 := byteI_bd s (q + 1)
  have h2 := byteI_bd s (q + 2)
  have h3 := byteI_bd s (q + 3)
  generalize byteI s q = a at *
  generalize byteI s (q + 1) = b at *
  generalize byteI s (q + 2) = c at *
  generalize byteI s (q + 3) = d at *
  have i : ∀ x : Int, 0 ≤ x ∧ x < 4294967296 → IntKind.u32.wrap x = x := fun x h => by rw [IntKind.wrap_u32]; omega
  rw [i a (by omega), i b (by omega), i c (by omega), i d (by omega), i (256 * b) (by omega), i (65536 * c) (by omega), i (16777216 * d) (by omega), i (a + 256 * b) (by omega), i (a + 256 * b + 65536 * c) (by omega), i _ (by omega)]
theorem rtakes_some {x v : Int} {k : Nat} {w : World} (hx : x = v) (hv : 0 ≤ v ∧ v < 4294967296) (h : takeK v = some k) :
    Calls Tryd.prog 16 #[.int .u32 x] w fun e w' => e = .returned (.tuple #[.agg #[.int .i64 k, .int .i64 (pRd (formI k) v), .int .i64 (pA (formI k) v), .int .i64 (pB (formI k) v), .int .i64 (pI (formI k) v)], .int .i64 0]) ∧ Below w.heap.size w w' := by
  rw [hx]; exact (rtake_any v w hv).mono fun e w' ⟨he, hb⟩ => ⟨by rw [he]; unfold takeV takeE; rw [h], hb⟩
theorem rtakes_none {x v : Int} {w : World} (hx : x = v) (hv : 0 ≤ v ∧ v < 4294967296) (h : takeK v = none) :
    Calls Tryd.prog 16 #[.int .u32 x] w fun e w' => e = .returned (.tuple #[.agg #[.int .i64 0, .int .i64 0, .int .i64 0, .int .i64 0, .int .i64 0], .int .i64 5]) ∧ Below w.heap.size w w' := by
  rw [hx]; exact (rtake_any v w hv).mono fun e w' ⟨he, hb⟩ => ⟨by rw [he]; unfold takeV takeE; rw [h], hb⟩
set_option maxHeartbeats 1600000 in
theorem rbacks_any (s : ByteArray) {w : World} (hs : s.size ≤ 1000000) :
    Calls Tryd.prog 22 #[.string s] w fun e w' => ∃ v, e = .returned (.tuple #[v, .int .i64 (backE s)]) ∧ w'.ownsRow w.heap.size 23 5 v (backL s).length (opCells (backL s)) ∧ Below w.heap.size w w' := by
  obtain ⟨i0, hi, hz0, hz1, hz2⟩ := info_parts Tryd.info23
  by_cases h4 : s.size % 4 = 0
  · obtain ⟨n, hn⟩ : ∃ n, s.size = 4 * n := ⟨s.size / 4, by omega⟩
    have HN := Lib.hid hn
    have hc : ((s.size : Int) % 4 != 0) = false := by simp; omega
    have eL : backL s = (backN s n).getD [] := by unfold backL; rw [if_pos h4, hn, Nat.mul_div_cancel_left _ (by decide)]
    have eE : backE s = (match backN s n with | some _ => 0 | none => 5) := by unfold backE; rw [if_pos h4, hn, Nat.mul_div_cancel_left _ (by decide)]; rfl
    have EL := Lib.hid eL
    have EE := Lib.hid eE
    clear hn eL eE h4
    go_enter Tryd.func22, Tryd.ntmps22
    go_wp2
    go_loopg [4, 5] n (fun r v i wr => ∃ k q : Nat, Hid (q = 4 * k) ∧ k + r = n ∧ i = .int .i64 q ∧ (∃ l, Hid (backN s k = some l) ∧ wr.ownsRow w.heap.size 23 5 v k (opCells l)) ∧ Below w.heap.size w wr)
    case atStart => exact ⟨0, 0, rfl, Nat.zero_add _, rfl, ⟨[], rfl, World.ownsRow_nil _ _ _ _⟩, Below.refl _ _⟩
    case round =>
      obtain ⟨k, q, hq, hk, rfl, ⟨l, hl, hown⟩, hbw⟩ := hrel
      by_cases hlt : k < n
      · have hq4 : q + 3 < s.size := by have := HN.out; have := hq.out; omega
        have hq3 : q + 2 < s.size := by omega
        have hq2 : q + 1 < s.size := by omega
        have hq1 : q < s.size := by omega
        have ew := wordAt_bd s q
        have HW := Lib.hid (word_sum hq4)
        have hsw := hbw.size
        have eq : wordAt s (4 * k) = wordAt s q := by rw [hq.out]
        have HQ := Lib.hid eq
        have hkm : k + 1 ≤ 250000 := by have := HN.out; omega
        have HKM := Lib.hid hkm
        have h5 : (5 != 0) = true := rfl
        clear eq hkm
        cases hk' : takeK (wordAt s q) with
        | some j =>
          have HK := Lib.hid hk'
          clear hk'
          go_upto_region 7 with fail
          go_cut [6, 7] (fun p e wx => ∃ g : Nat, p = .pointer (some ⟨g, 0, none⟩) ∧ e = .int .i64 0 ∧ OpAt wx g (opOf (wordAt s q) j) ∧ Below wr.heap.size wr wx)
          case first =>
            have b1 : (0 : Int) ≤ (q : Int) + 1 := by omega
            have d1 : (q : Int) + 1 < (s.size : Int) := by omega
            have e1 : ((q : Int) + 1).toNat = q + 1 := by omega
            have b2 : (0 : Int) ≤ (q : Int) + 2 := by omega
            have d2 : (q : Int) + 2 < (s.size : Int) := by omega
            have e2 : ((q : Int) + 2).toNat = q + 2 := by omega
            have b3 : (0 : Int) ≤ (q : Int) + 3 := by omega
            have d3 : (q : Int) + 3 < (s.size : Int) := by omega
            have e3 : ((q : Int) + 3).toNat = q + 3 := by omega
            have d0 : (q : Int) < (s.size : Int) := by omega
            have u1' : IntKind.i64.wrap ((q : Int) + 1) = (q : Int) + 1 := IntWalk.i64_in _ (by omega)
            have u2' : IntKind.i64.wrap ((q : Int) + 2) = (q : Int) + 2 := IntWalk.i64_in _ (by omega)
            have u3' : IntKind.i64.wrap ((q : Int) + 3) = (q : Int) + 3 := IntWalk.i64_in _ (by omega)
            refine wp_region_noPanic ?_
            refine wp_region_held_drew (S := fun _ => True) (by kernel_rfl) trivial (fun hHeld => ?_)
            refine takeH (i := 0) (d := some 20) (v := ?_) rfl (by kernel_rfl) (by kernel_rfl) (by kernel_rfl) (fun _ _ _ h => h) rfl (Or.inl ⟨by rfl, ?_⟩) trivial ?_
            rotate_left
            · intro w hSw; go_simp; (try with_reducible rfl)
            (try simp only [Act.put, List.setIfInBounds_toArray, List.set_cons_zero, List.set_cons_succ])
            refine takeH (i := 1) (d := some 21) (v := ?_) rfl (by kernel_rfl) (by kernel_rfl) (by kernel_rfl) (fun _ _ _ h => h) rfl (Or.inl ⟨by rfl, ?_⟩) trivial ?_
            rotate_left
            · intro w hSw; go_simp; (try with_reducible rfl)
            (try simp only [Act.put, List.setIfInBounds_toArray, List.set_cons_zero, List.set_cons_succ])
            refine takeH (i := 2) (d := some 22) (v := ?_) rfl (by kernel_rfl) (by kernel_rfl) (by kernel_rfl) (fun _ _ _ h => h) rfl (Or.inl ⟨by rfl, ?_⟩) trivial ?_
            rotate_left
            · intro w hSw; go_simp; (try with_reducible rfl)
            (try simp only [Act.put, List.setIfInBounds_toArray, List.set_cons_zero, List.set_cons_succ])
            refine takeH (i := 3) (d := some 23) (v := ?_) rfl (by kernel_rfl) (by kernel_rfl) (by kernel_rfl) (fun _ _ _ h => h) rfl (Or.inl ⟨by rfl, ?_⟩) trivial ?_
            rotate_left
            · intro w hSw; go_simp; (try with_reducible rfl)
            (try simp only [Act.put, List.setIfInBounds_toArray, List.set_cons_zero, List.set_cons_succ])
            refine takeH (i := 4) (d := some 24) (v := ?_) rfl (by kernel_rfl) (by kernel_rfl) (by kernel_rfl) (fun _ _ _ h => h) rfl (Or.inl ⟨by rfl, ?_⟩) trivial ?_
            rotate_left
            · intro w hSw; go_simp; (try with_reducible rfl)
            (try simp only [Act.put, List.setIfInBounds_toArray, List.set_cons_zero, List.set_cons_succ])
            refine takeH (i := 5) (d := some 25) (v := ?_) rfl (by kernel_rfl) (by kernel_rfl) (by kernel_rfl) (fun _ _ _ h => h) rfl (Or.inl ⟨by rfl, ?_⟩) trivial ?_
            rotate_left
            · intro w hSw; go_simp; (try with_reducible rfl)
            (try simp only [Act.put, List.setIfInBounds_toArray, List.set_cons_zero, List.set_cons_succ])
            refine takeH (i := 6) (d := some 26) (v := ?_) rfl (by kernel_rfl) (by kernel_rfl) (by kernel_rfl) (fun _ _ _ h => h) rfl (Or.inl ⟨by rfl, ?_⟩) trivial ?_
            rotate_left
            · intro w hSw; go_simp; (try with_reducible rfl)
            (try simp only [Act.put, List.setIfInBounds_toArray, List.set_cons_zero, List.set_cons_succ])
            refine takeH (i := 7) (d := some 27) (v := ?_) rfl (by kernel_rfl) (by kernel_rfl) (by kernel_rfl) (fun _ _ _ h => h) rfl (Or.inl ⟨by rfl, ?_⟩) trivial ?_
            rotate_left
            · intro w hSw; go_simp; (try with_reducible rfl)
            (try simp only [Act.put, List.setIfInBounds_toArray, List.set_cons_zero, List.set_cons_succ])
            refine takeH (i := 8) (d := some 28) (v := ?_) rfl (by kernel_rfl) (by kernel_rfl) (by kernel_rfl) (fun _ _ _ h => h) rfl (Or.inl ⟨by rfl, ?_⟩) trivial ?_
            rotate_left
            · intro w hSw; go_simp; (try with_reducible rfl)
            (try simp only [Act.put, List.setIfInBounds_toArray, List.set_cons_zero, List.set_cons_succ])
            refine takeH (i := 9) (d := some 29) (v := ?_) rfl (by kernel_rfl) (by kernel_rfl) (by kernel_rfl) (fun _ _ _ h => h) rfl (Or.inl ⟨by rfl, ?_⟩) trivial ?_
            rotate_left
            · intro w hSw; go_simp; (try with_reducible rfl)
            (try simp only [Act.put, List.setIfInBounds_toArray, List.set_cons_zero, List.set_cons_succ])
            refine takeH (i := 10) (d := some 30) (v := ?_) rfl (by kernel_rfl) (by kernel_rfl) (by kernel_rfl) (fun _ _ _ h => h) rfl (Or.inl ⟨by rfl, ?_⟩) trivial ?_
            rotate_left
            · intro w hSw; go_simp; (try with_reducible rfl)
            (try simp only [Act.put, List.setIfInBounds_toArray, List.set_cons_zero, List.set_cons_succ])
            refine takeH (i := 11) (d := some 31) (v := ?_) rfl (by kernel_rfl) (by kernel_rfl) (by kernel_rfl) (fun _ _ _ h => h) rfl (Or.inl ⟨by rfl, ?_⟩) trivial ?_
            rotate_left
            · intro w hSw; go_simp; (try with_reducible rfl)
            (try simp only [Act.put, List.setIfInBounds_toArray, List.set_cons_zero, List.set_cons_succ])
            refine takeH (i := 12) (d := some 32) (v := ?_) rfl (by kernel_rfl) (by kernel_rfl) (by kernel_rfl) (fun _ _ _ h => h) rfl (Or.inl ⟨by rfl, ?_⟩) trivial ?_
            rotate_left
            · intro w hSw; go_simp; (try with_reducible rfl)
            (try simp only [Act.put, List.setIfInBounds_toArray, List.set_cons_zero, List.set_cons_succ])
            refine takeH (i := 13) (d := some 33) (v := ?_) rfl (by kernel_rfl) (by kernel_rfl) (by kernel_rfl) (fun _ _ _ h => h) rfl (Or.inl ⟨by rfl, ?_⟩) trivial ?_
            rotate_left
            · intro w hSw; go_simp; (try with_reducible rfl)
            (try simp only [Act.put, List.setIfInBounds_toArray, List.set_cons_zero, List.set_cons_succ])
            refine takeH (i := 14) (d := some 34) (v := ?_) rfl (by kernel_rfl) (by kernel_rfl) (by kernel_rfl) (fun _ _ _ h => h) rfl (Or.inl ⟨by rfl, ?_⟩) trivial ?_
            rotate_left
            · intro w hSw; go_simp; (try with_reducible rfl)
            (try simp only [Act.put, List.setIfInBounds_toArray, List.set_cons_zero, List.set_cons_succ])
            refine takeH (i := 15) (d := some 35) (v := ?_) rfl (by kernel_rfl) (by kernel_rfl) (by kernel_rfl) (fun _ _ _ h => h) rfl (Or.inl ⟨by rfl, ?_⟩) trivial ?_
            rotate_left
            · intro w hSw; go_simp; (try with_reducible rfl)
            (try simp only [Act.put, List.setIfInBounds_toArray, List.set_cons_zero, List.set_cons_succ])
            refine takeH (i := 16) (d := some 36) (v := ?_) rfl (by kernel_rfl) (by kernel_rfl) (by kernel_rfl) (fun _ _ _ h => h) rfl (Or.inl ⟨by rfl, ?_⟩) trivial ?_
            rotate_left
            · intro w hSw; go_simp; (try with_reducible rfl)
            (try simp only [Act.put, List.setIfInBounds_toArray, List.set_cons_zero, List.set_cons_succ])
            refine takeH (i := 17) (d := some 37) (v := ?_) rfl (by kernel_rfl) (by kernel_rfl) (by kernel_rfl) (fun _ _ _ h => h) rfl (Or.inl ⟨by rfl, ?_⟩) trivial ?_
            rotate_left
            · intro w hSw; go_simp; (try with_reducible rfl)
            (try simp only [Act.put, List.setIfInBounds_toArray, List.set_cons_zero, List.set_cons_succ])
            refine takeH (i := 18) (d := some 38) (v := ?_) rfl (by kernel_rfl) (by kernel_rfl) (by kernel_rfl) (fun _ _ _ h => h) rfl (Or.inl ⟨by rfl, ?_⟩) trivial ?_
            rotate_left
            · intro w hSw; go_simp; (try with_reducible rfl)
            (try simp only [Act.put, List.setIfInBounds_toArray, List.set_cons_zero, List.set_cons_succ])
            refine takeH (i := 19) (d := some 39) (v := ?_) rfl (by kernel_rfl) (by kernel_rfl) (by kernel_rfl) (fun _ _ _ h => h) rfl (Or.inl ⟨by rfl, ?_⟩) trivial ?_
            rotate_left
            · intro w hSw; go_simp; (try with_reducible rfl)
            (try simp only [Act.put, List.setIfInBounds_toArray, List.set_cons_zero, List.set_cons_succ])
            refine takeH (i := 20) (d := some 40) (v := ?_) rfl (by kernel_rfl) (by kernel_rfl) (by kernel_rfl) (fun _ _ _ h => h) rfl (Or.inl ⟨by rfl, ?_⟩) trivial ?_
            rotate_left
            · intro w hSw; go_simp; (try with_reducible rfl)
            (try simp only [Act.put, List.setIfInBounds_toArray, List.set_cons_zero, List.set_cons_succ])
            refine takeH (i := 21) (d := some 41) (v := ?_) rfl (by kernel_rfl) (by kernel_rfl) (by kernel_rfl) (fun _ _ _ h => h) rfl (Or.inl ⟨by rfl, ?_⟩) trivial ?_
            rotate_left
            · intro w hSw; go_simp; (try with_reducible rfl)
            (try simp only [Act.put, List.setIfInBounds_toArray, List.set_cons_zero, List.set_cons_succ])
            refine takeH (i := 22) (d := some 42) (v := ?_) rfl (by kernel_rfl) (by kernel_rfl) (by kernel_rfl) (fun _ _ _ h => h) rfl (Or.inl ⟨by rfl, ?_⟩) trivial ?_
            rotate_left
            · intro w hSw; go_simp; (try with_reducible rfl)
            (try simp only [Act.put, List.setIfInBounds_toArray, List.set_cons_zero, List.set_cons_succ])
            refine takeH (i := 23) (d := some 43) (v := ?_) rfl (by kernel_rfl) (by kernel_rfl) (by kernel_rfl) (fun _ _ _ h => h) rfl (Or.inl ⟨by rfl, ?_⟩) trivial ?_
            rotate_left
            · intro w hSw; go_simp; (try with_reducible rfl)
            (try simp only [Act.put, List.setIfInBounds_toArray, List.set_cons_zero, List.set_cons_succ])
            refine takeH (i := 24) (d := some 44) (v := ?_) rfl (by kernel_rfl) (by kernel_rfl) (by kernel_rfl) (fun _ _ _ h => h) rfl (Or.inl ⟨by rfl, ?_⟩) trivial ?_
            rotate_left
            · intro w hSw; go_simp; (try with_reducible rfl)
            (try simp only [Act.put, List.setIfInBounds_toArray, List.set_cons_zero, List.set_cons_succ])
            refine wpAnyH_ready (rs := [25, 29]) (by kernel_rfl) (by simp) ?_
            refine AllReadyH.cons rfl (fun K hK => ?_) (AllReadyH.cons rfl (fun K hK => ?_) AllReadyH.nil)
            · go_simp
              go_at_call 16
              with_reducible refine (rtakes_some (w := wr.drew) HW.out ew HK.out).mono ?_
              rintro e w2 ⟨rfl, hb2⟩
              go_wp2_with fail
              refine hK.out _ _ trivial (fun hHeld => ?_)
              clear hK K
              (try simp only [Act.put, List.setIfInBounds_toArray, List.set_cons_zero, List.set_cons_succ])
              refine takeH (i := 26) (d := some 19) (v := ?_) rfl (by kernel_rfl) (by kernel_rfl) (by kernel_rfl) (fun _ _ _ h => h) rfl (Or.inl ⟨by rfl, ?_⟩) trivial ?_
              rotate_left
              · intro w hSw; go_simp; (try with_reducible rfl)
              (try simp only [Act.put, List.setIfInBounds_toArray, List.set_cons_zero, List.set_cons_succ])
              refine takeH (i := 27) (d := some 46) (v := ?_) rfl (by kernel_rfl) (by kernel_rfl) (by kernel_rfl) (fun _ _ _ h => h) rfl (Or.inl ⟨by rfl, ?_⟩) trivial ?_
              rotate_left
              · intro w hSw; go_simp; (try with_reducible rfl)
              (try simp only [Act.put, List.setIfInBounds_toArray, List.set_cons_zero, List.set_cons_succ])
              refine takeH (i := 28) (d := some 47) (v := ?_) rfl (by kernel_rfl) (by kernel_rfl) (by kernel_rfl) (fun _ _ _ h => h) rfl (Or.inl ⟨by rfl, ?_⟩) trivial ?_
              rotate_left
              · intro w hSw; go_simp; (try with_reducible rfl)
              (try simp only [Act.put, List.setIfInBounds_toArray, List.set_cons_zero, List.set_cons_succ])
              refine wpAnyH_ready (rs := [29]) (by kernel_rfl) (by simp) ?_
              refine AllReadyH.cons rfl (fun K hK => ?_) AllReadyH.nil
              go_simp
              refine hK.out _ _ trivial (fun hHeld => ?_)
              clear hK K
              (try simp only [Act.put, List.setIfInBounds_toArray, List.set_cons_zero, List.set_cons_succ])
              refine wpAnyH_ready (rs := [30]) (by kernel_rfl) (by simp) ?_
              refine AllReadyH.cons rfl (fun K hK => ?_) AllReadyH.nil
              go_simp
              refine hK.out _ _ trivial (fun hHeld => ?_)
              clear hK K
              (try simp only [Act.put, List.setIfInBounds_toArray, List.set_cons_zero, List.set_cons_succ])
              refine takeH (i := 31) (d := some 7) (v := ?_) rfl (by kernel_rfl) (by kernel_rfl) (by kernel_rfl) (fun _ _ _ h => h) rfl (Or.inl ⟨by rfl, ?_⟩) trivial ?_
              rotate_left
              · intro w hSw; go_simp; (try with_reducible rfl)
              (try simp only [Act.put, List.setIfInBounds_toArray, List.set_cons_zero, List.set_cons_succ])
              refine wpAnyH_done (by kernel_rfl) ?_ _
              refine NoPanic.normal ?_
              go_wp2_with fail
              go_meet
              exact ⟨_, rfl, rfl, opAt_new _ _ _, ((Below.refl wr.heap.size wr).drew.trans hb2).alloc hb2.size _⟩
            · go_simp
              refine hK.out _ _ trivial (fun hHeld => ?_)
              clear hK K
              (try simp only [Act.put, List.setIfInBounds_toArray, List.set_cons_zero, List.set_cons_succ])
              refine wpAnyH_ready (rs := [25]) (by kernel_rfl) (by simp) ?_
              refine AllReadyH.cons rfl (fun K hK => ?_) AllReadyH.nil
              go_simp
              go_at_call 16
              with_reducible refine (rtakes_some (w := (wr.alloc _).drew) HW.out ew HK.out).mono ?_
              rintro e w2 ⟨rfl, hb2⟩
              obtain ⟨⟨r0, r1, r2, r3, r4⟩, g0, g1, g2, g3, g4⟩ := box_cells hb2
              go_wp2_with fail
              refine hK.out _ _ trivial (fun hHeld => ?_)
              clear hK K
              (try simp only [Act.put, List.setIfInBounds_toArray, List.set_cons_zero, List.set_cons_succ])
              refine takeH (i := 26) (d := some 19) (v := ?_) rfl (by kernel_rfl) (by kernel_rfl) (by kernel_rfl) (fun _ _ _ h => h) rfl (Or.inl ⟨by rfl, ?_⟩) trivial ?_
              rotate_left
              · intro w hSw; go_simp; (try with_reducible rfl)
              (try simp only [Act.put, List.setIfInBounds_toArray, List.set_cons_zero, List.set_cons_succ])
              refine takeH (i := 27) (d := some 46) (v := ?_) rfl (by kernel_rfl) (by kernel_rfl) (by kernel_rfl) (fun _ _ _ h => h) rfl (Or.inl ⟨by rfl, ?_⟩) trivial ?_
              rotate_left
              · intro w hSw; go_simp; (try with_reducible rfl)
              (try simp only [Act.put, List.setIfInBounds_toArray, List.set_cons_zero, List.set_cons_succ])
              refine takeH (i := 28) (d := some 47) (v := ?_) rfl (by kernel_rfl) (by kernel_rfl) (by kernel_rfl) (fun _ _ _ h => h) rfl (Or.inl ⟨by rfl, ?_⟩) trivial ?_
              rotate_left
              · intro w hSw; go_simp; (try with_reducible rfl)
              (try simp only [Act.put, List.setIfInBounds_toArray, List.set_cons_zero, List.set_cons_succ])
              refine wpAnyH_ready (rs := [30]) (by kernel_rfl) (by simp) ?_
              refine AllReadyH.cons rfl (fun K hK => ?_) AllReadyH.nil
              go_simp
              refine hK.out _ _ trivial (fun hHeld => ?_)
              clear hK K
              (try simp only [Act.put, List.setIfInBounds_toArray, List.set_cons_zero, List.set_cons_succ])
              refine takeH (i := 31) (d := some 7) (v := ?_) rfl (by kernel_rfl) (by kernel_rfl) (by kernel_rfl) (fun _ _ _ h => h) rfl (Or.inl ⟨by rfl, ?_⟩) trivial ?_
              rotate_left
              · intro w hSw; go_simp; (try with_reducible rfl)
              (try simp only [Act.put, List.setIfInBounds_toArray, List.set_cons_zero, List.set_cons_succ])
              refine wpAnyH_done (by kernel_rfl) ?_ _
              refine NoPanic.normal ?_
              go_wp2_with fail
              go_meet
              refine ⟨_, rfl, rfl, ?_, (((((((Below.refl wr.heap.size wr).alloc (Nat.le_refl _) _).drew.trans (hb2.mono (by simp))).setCell (Nat.le_refl _) _).setCell (Nat.le_refl _) _).setCell (Nat.le_refl _) _).setCell (Nat.le_refl _) _).setCell (Nat.le_refl _) _⟩
              unfold opOf; exact opAt_set r0 r1 r2 r3 r4
          case rest =>
            obtain ⟨g, rfl, rfl, hop, hbx⟩ := hcut
            have c0 := hop 0 _ rfl
            have c1 := hop 1 _ rfl
            have c2 := hop 2 _ rfl
            have c3 := hop 3 _ rfl
            have c4 := hop 4 _ rfl
            have hown1 := own_below hown hbx
            have hbw1 := hbw.trans (hbx.mono hsw)
            have hsz1 := hbx.size
            go_wp2_with
              (at_builtin
               refine wpList_append_own_wide _ rfl (.tmp 51) (.tmp 53) 41 rfl w.heap.size 23 i0 _ 5 40 Tryd.underlying41 hi hz0 hz1 hz2 rfl (by omega) _ k _ rfl (hown1.alloc _) ⟨wc.heap.size, 0, none⟩ 1 1 _ rfl rfl (cells_new _ (opOf (wordAt s q) j).cells 23 _ rfl rfl) (fun u hu => ?_) ?_ ?_ ?_ ?_
               rotate_right
               intro v1 w1 hown2 hg1 _
               have hb1 : Below w.heap.size w w1 := (hbw1.alloc (by omega) _).grown hg1 (by simp; omega) (fun k hk => (hown1.lt k hk).1))
            case refine_1 => exact OpD.one _ u hu
            case refine_2 => have := HKM.out; simp only [maxLen]; omega
            case refine_3 => have := HKM.out; omega
            case refine_4 => simp; omega
            go_roundg (gk - 1)
            case measure => omega
            case rel => exact ⟨k + 1, q + 4, by have := hq.out; show q + 4 = 4 * (k + 1); omega, by omega, by go_num, ⟨l ++ [opOf (wordAt s q) j], backN_step hl.out HQ.out HK.out, by rw [opCells_snoc]; exact hown2⟩, hb1⟩
        | none =>
          have HK := Lib.hid hk'
          clear hk'
          go_upto_region 7 with fail
          go_cut [6, 7] (fun _ e wx => e = .int .i64 5 ∧ Below wr.heap.size wr wx)
          case first =>
            have b1 : (0 : Int) ≤ (q : Int) + 1 := by omega
            have d1 : (q : Int) + 1 < (s.size : Int) := by omega
            have e1 : ((q : Int) + 1).toNat = q + 1 := by omega
            have b2 : (0 : Int) ≤ (q : Int) + 2 := by omega
            have d2 : (q : Int) + 2 < (s.size : Int) := by omega
            have e2 : ((q : Int) + 2).toNat = q + 2 := by omega
            have b3 : (0 : Int) ≤ (q : Int) + 3 := by omega
            have d3 : (q : Int) + 3 < (s.size : Int) := by omega
            have e3 : ((q : Int) + 3).toNat = q + 3 := by omega
            have d0 : (q : Int) < (s.size : Int) := by omega
            have u1' : IntKind.i64.wrap ((q : Int) + 1) = (q : Int) + 1 := IntWalk.i64_in _ (by omega)
            have u2' : IntKind.i64.wrap ((q : Int) + 2) = (q : Int) + 2 := IntWalk.i64_in _ (by omega)
            have u3' : IntKind.i64.wrap ((q : Int) + 3) = (q : Int) + 3 := IntWalk.i64_in _ (by omega)
            refine wp_region_noPanic ?_
            refine wp_region_held_drew (S := fun _ => True) (by kernel_rfl) trivial (fun hHeld => ?_)
            refine takeH (i := 0) (d := some 20) (v := ?_) rfl (by kernel_rfl) (by kernel_rfl) (by kernel_rfl) (fun _ _ _ h => h) rfl (Or.inl ⟨by rfl, ?_⟩) trivial ?_
            rotate_left
            · intro w hSw; go_simp; (try with_reducible rfl)
            (try simp only [Act.put, List.setIfInBounds_toArray, List.set_cons_zero, List.set_cons_succ])
            refine takeH (i := 1) (d := some 21) (v := ?_) rfl (by kernel_rfl) (by kernel_rfl) (by kernel_rfl) (fun _ _ _ h => h) rfl (Or.inl ⟨by rfl, ?_⟩) trivial ?_
            rotate_left
            · intro w hSw; go_simp; (try with_reducible rfl)
            (try simp only [Act.put, List.setIfInBounds_toArray, List.set_cons_zero, List.set_cons_succ])
            refine takeH (i := 2) (d := some 22) (v := ?_) rfl (by kernel_rfl) (by kernel_rfl) (by kernel_rfl) (fun _ _ _ h => h) rfl (Or.inl ⟨by rfl, ?_⟩) trivial ?_
            rotate_left
            · intro w hSw; go_simp; (try with_reducible rfl)
            (try simp only [Act.put, List.setIfInBounds_toArray, List.set_cons_zero, List.set_cons_succ])
            refine takeH (i := 3) (d := some 23) (v := ?_) rfl (by kernel_rfl) (by kernel_rfl) (by kernel_rfl) (fun _ _ _ h => h) rfl (Or.inl ⟨by rfl, ?_⟩) trivial ?_
            rotate_left
            · intro w hSw; go_simp; (try with_reducible rfl)
            (try simp only [Act.put, List.setIfInBounds_toArray, List.set_cons_zero, List.set_cons_succ])
            refine takeH (i := 4) (d := some 24) (v := ?_) rfl (by kernel_rfl) (by kernel_rfl) (by kernel_rfl) (fun _ _ _ h => h) rfl (Or.inl ⟨by rfl, ?_⟩) trivial ?_
            rotate_left
            · intro w hSw; go_simp; (try with_reducible rfl)
            (try simp only [Act.put, List.setIfInBounds_toArray, List.set_cons_zero, List.set_cons_succ])
            refine takeH (i := 5) (d := some 25) (v := ?_) rfl (by kernel_rfl) (by kernel_rfl) (by kernel_rfl) (fun _ _ _ h => h) rfl (Or.inl ⟨by rfl, ?_⟩) trivial ?_
            rotate_left
            · intro w hSw; go_simp; (try with_reducible rfl)
            (try simp only [Act.put, List.setIfInBounds_toArray, List.set_cons_zero, List.set_cons_succ])
            refine takeH (i := 6) (d := some 26) (v := ?_) rfl (by kernel_rfl) (by kernel_rfl) (by kernel_rfl) (fun _ _ _ h => h) rfl (Or.inl ⟨by rfl, ?_⟩) trivial ?_
            rotate_left
            · intro w hSw; go_simp; (try with_reducible rfl)
            (try simp only [Act.put, List.setIfInBounds_toArray, List.set_cons_zero, List.set_cons_succ])
            refine takeH (i := 7) (d := some 27) (v := ?_) rfl (by kernel_rfl) (by kernel_rfl) (by kernel_rfl) (fun _ _ _ h => h) rfl (Or.inl ⟨by rfl, ?_⟩) trivial ?_
            rotate_left
            · intro w hSw; go_simp; (try with_reducible rfl)
            (try simp only [Act.put, List.setIfInBounds_toArray, List.set_cons_zero, List.set_cons_succ])
            refine takeH (i := 8) (d := some 28) (v := ?_) rfl (by kernel_rfl) (by kernel_rfl) (by kernel_rfl) (fun _ _ _ h => h) rfl (Or.inl ⟨by rfl, ?_⟩) trivial ?_
            rotate_left
            · intro w hSw; go_simp; (try with_reducible rfl)
            (try simp only [Act.put, List.setIfInBounds_toArray, List.set_cons_zero, List.set_cons_succ])
            refine takeH (i := 9) (d := some 29) (v := ?_) rfl (by kernel_rfl) (by kernel_rfl) (by kernel_rfl) (fun _ _ _ h => h) rfl (Or.inl ⟨by rfl, ?_⟩) trivial ?_
            rotate_left
            · intro w hSw; go_simp; (try with_reducible rfl)
            (try simp only [Act.put, List.setIfInBounds_toArray, List.set_cons_zero, List.set_cons_succ])
            refine takeH (i := 10) (d := some 30) (v := ?_) rfl (by kernel_rfl) (by kernel_rfl) (by kernel_rfl) (fun _ _ _ h => h) rfl (Or.inl ⟨by rfl, ?_⟩) trivial ?_
            rotate_left
            · intro w hSw; go_simp; (try with_reducible rfl)
            (try simp only [Act.put, List.setIfInBounds_toArray, List.set_cons_zero, List.set_cons_succ])
            refine takeH (i := 11) (d := some 31) (v := ?_) rfl (by kernel_rfl) (by kernel_rfl) (by kernel_rfl) (fun _ _ _ h => h) rfl (Or.inl ⟨by rfl, ?_⟩) trivial ?_
            rotate_left
            · intro w hSw; go_simp; (try with_reducible rfl)
            (try simp only [Act.put, List.setIfInBounds_toArray, List.set_cons_zero, List.set_cons_succ])
            refine takeH (i := 12) (d := some 32) (v := ?_) rfl (by kernel_rfl) (by kernel_rfl) (by kernel_rfl) (fun _ _ _ h => h) rfl (Or.inl ⟨by rfl, ?_⟩) trivial ?_
            rotate_left
            · intro w hSw; go_simp; (try with_reducible rfl)
            (try simp only [Act.put, List.setIfInBounds_toArray, List.set_cons_zero, List.set_cons_succ])
            refine takeH (i := 13) (d := some 33) (v := ?_) rfl (by kernel_rfl) (by kernel_rfl) (by kernel_rfl) (fun _ _ _ h => h) rfl (Or.inl ⟨by rfl, ?_⟩) trivial ?_
            rotate_left
            · intro w hSw; go_simp; (try with_reducible rfl)
            (try simp only [Act.put, List.setIfInBounds_toArray, List.set_cons_zero, List.set_cons_succ])
            refine takeH (i := 14) (d := some 34) (v := ?_) rfl (by kernel_rfl) (by kernel_rfl) (by kernel_rfl) (fun _ _ _ h => h) rfl (Or.inl ⟨by rfl, ?_⟩) trivial ?_
            rotate_left
            · intro w hSw; go_simp; (try with_reducible rfl)
            (try simp only [Act.put, List.setIfInBounds_toArray, List.set_cons_zero, List.set_cons_succ])
            refine takeH (i := 15) (d := some 35) (v := ?_) rfl (by kernel_rfl) (by kernel_rfl) (by kernel_rfl) (fun _ _ _ h => h) rfl (Or.inl ⟨by rfl, ?_⟩) trivial ?_
            rotate_left
            · intro w hSw; go_simp; (try with_reducible rfl)
            (try simp only [Act.put, List.setIfInBounds_toArray, List.set_cons_zero, List.set_cons_succ])
            refine takeH (i := 16) (d := some 36) (v := ?_) rfl (by kernel_rfl) (by kernel_rfl) (by kernel_rfl) (fun _ _ _ h => h) rfl (Or.inl ⟨by rfl, ?_⟩) trivial ?_
            rotate_left
            · intro w hSw; go_simp; (try with_reducible rfl)
            (try simp only [Act.put, List.setIfInBounds_toArray, List.set_cons_zero, List.set_cons_succ])
            refine takeH (i := 17) (d := some 37) (v := ?_) rfl (by kernel_rfl) (by kernel_rfl) (by kernel_rfl) (fun _ _ _ h => h) rfl (Or.inl ⟨by rfl, ?_⟩) trivial ?_
            rotate_left
            · intro w hSw; go_simp; (try with_reducible rfl)
            (try simp only [Act.put, List.setIfInBounds_toArray, List.set_cons_zero, List.set_cons_succ])
            refine takeH (i := 18) (d := some 38) (v := ?_) rfl (by kernel_rfl) (by kernel_rfl) (by kernel_rfl) (fun _ _ _ h => h) rfl (Or.inl ⟨by rfl, ?_⟩) trivial ?_
            rotate_left
            · intro w hSw; go_simp; (try with_reducible rfl)
            (try simp only [Act.put, List.setIfInBounds_toArray, List.set_cons_zero, List.set_cons_succ])
            refine takeH (i := 19) (d := some 39) (v := ?_) rfl (by kernel_rfl) (by kernel_rfl) (by kernel_rfl) (fun _ _ _ h => h) rfl (Or.inl ⟨by rfl, ?_⟩) trivial ?_
            rotate_left
            · intro w hSw; go_simp; (try with_reducible rfl)
            (try simp only [Act.put, List.setIfInBounds_toArray, List.set_cons_zero, List.set_cons_succ])
            refine takeH (i := 20) (d := some 40) (v := ?_) rfl (by kernel_rfl) (by kernel_rfl) (by kernel_rfl) (fun _ _ _ h => h) rfl (Or.inl ⟨by rfl, ?_⟩) trivial ?_
            rotate_left
            · intro w hSw; go_simp; (try with_reducible rfl)
            (try simp only [Act.put, List.setIfInBounds_toArray, List.set_cons_zero, List.set_cons_succ])
            refine takeH (i := 21) (d := some 41) (v := ?_) rfl (by kernel_rfl) (by kernel_rfl) (by kernel_rfl) (fun _ _ _ h => h) rfl (Or.inl ⟨by rfl, ?_⟩) trivial ?_
            rotate_left
            · intro w hSw; go_simp; (try with_reducible rfl)
            (try simp only [Act.put, List.setIfInBounds_toArray, List.set_cons_zero, List.set_cons_succ])
            refine takeH (i := 22) (d := some 42) (v := ?_) rfl (by kernel_rfl) (by kernel_rfl) (by kernel_rfl) (fun _ _ _ h => h) rfl (Or.inl ⟨by rfl, ?_⟩) trivial ?_
            rotate_left
            · intro w hSw; go_simp; (try with_reducible rfl)
            (try simp only [Act.put, List.setIfInBounds_toArray, List.set_cons_zero, List.set_cons_succ])
            refine takeH (i := 23) (d := some 43) (v := ?_) rfl (by kernel_rfl) (by kernel_rfl) (by kernel_rfl) (fun _ _ _ h => h) rfl (Or.inl ⟨by rfl, ?_⟩) trivial ?_
            rotate_left
            · intro w hSw; go_simp; (try with_reducible rfl)
            (try simp only [Act.put, List.setIfInBounds_toArray, List.set_cons_zero, List.set_cons_succ])
            refine takeH (i := 24) (d := some 44) (v := ?_) rfl (by kernel_rfl) (by kernel_rfl) (by kernel_rfl) (fun _ _ _ h => h) rfl (Or.inl ⟨by rfl, ?_⟩) trivial ?_
            rotate_left
            · intro w hSw; go_simp; (try with_reducible rfl)
            (try simp only [Act.put, List.setIfInBounds_toArray, List.set_cons_zero, List.set_cons_succ])
            refine wpAnyH_ready (rs := [25, 29]) (by kernel_rfl) (by simp) ?_
            refine AllReadyH.cons rfl (fun K hK => ?_) (AllReadyH.cons rfl (fun K hK => ?_) AllReadyH.nil)
            · go_simp
              go_at_call 16
              with_reducible refine (rtakes_none (w := wr.drew) HW.out ew HK.out).mono ?_
              rintro e w2 ⟨rfl, hb2⟩
              go_wp2_with fail
              refine hK.out _ _ trivial (fun hHeld => ?_)
              clear hK K
              (try simp only [Act.put, List.setIfInBounds_toArray, List.set_cons_zero, List.set_cons_succ])
              refine takeH (i := 26) (d := some 19) (v := ?_) rfl (by kernel_rfl) (by kernel_rfl) (by kernel_rfl) (fun _ _ _ h => h) rfl (Or.inl ⟨by rfl, ?_⟩) trivial ?_
              rotate_left
              · intro w hSw; go_simp; (try with_reducible rfl)
              (try simp only [Act.put, List.setIfInBounds_toArray, List.set_cons_zero, List.set_cons_succ])
              refine takeH (i := 27) (d := some 46) (v := ?_) rfl (by kernel_rfl) (by kernel_rfl) (by kernel_rfl) (fun _ _ _ h => h) rfl (Or.inl ⟨by rfl, ?_⟩) trivial ?_
              rotate_left
              · intro w hSw; go_simp; (try with_reducible rfl)
              (try simp only [Act.put, List.setIfInBounds_toArray, List.set_cons_zero, List.set_cons_succ])
              refine takeH (i := 28) (d := some 47) (v := ?_) rfl (by kernel_rfl) (by kernel_rfl) (by kernel_rfl) (fun _ _ _ h => h) rfl (Or.inl ⟨by rfl, ?_⟩) trivial ?_
              rotate_left
              · intro w hSw; go_simp; (try with_reducible rfl)
              (try simp only [Act.put, List.setIfInBounds_toArray, List.set_cons_zero, List.set_cons_succ])
              refine wpAnyH_ready (rs := [29]) (by kernel_rfl) (by simp) ?_
              refine AllReadyH.cons rfl (fun K hK => ?_) AllReadyH.nil
              go_simp
              refine hK.out _ _ trivial (fun hHeld => ?_)
              clear hK K
              (try simp only [Act.put, List.setIfInBounds_toArray, List.set_cons_zero, List.set_cons_succ])
              refine wpAnyH_ready (rs := [30]) (by kernel_rfl) (by simp) ?_
              refine AllReadyH.cons rfl (fun K hK => ?_) AllReadyH.nil
              go_simp
              refine hK.out _ _ trivial (fun hHeld => ?_)
              clear hK K
              (try simp only [Act.put, List.setIfInBounds_toArray, List.set_cons_zero, List.set_cons_succ])
              refine takeH (i := 31) (d := some 7) (v := ?_) rfl (by kernel_rfl) (by kernel_rfl) (by kernel_rfl) (fun _ _ _ h => h) rfl (Or.inl ⟨by rfl, ?_⟩) trivial ?_
              rotate_left
              · intro w hSw; go_simp; (try with_reducible rfl)
              (try simp only [Act.put, List.setIfInBounds_toArray, List.set_cons_zero, List.set_cons_succ])
              refine wpAnyH_done (by kernel_rfl) ?_ _
              refine NoPanic.normal ?_
              go_wp2_with fail
              go_meet
              exact ⟨rfl, ((Below.refl wr.heap.size wr).drew.trans hb2).alloc hb2.size _⟩
            · go_simp
              refine hK.out _ _ trivial (fun hHeld => ?_)
              clear hK K
              (try simp only [Act.put, List.setIfInBounds_toArray, List.set_cons_zero, List.set_cons_succ])
              refine wpAnyH_ready (rs := [25]) (by kernel_rfl) (by simp) ?_
              refine AllReadyH.cons rfl (fun K hK => ?_) AllReadyH.nil
              go_simp
              go_at_call 16
              with_reducible refine (rtakes_none (w := (wr.alloc _).drew) HW.out ew HK.out).mono ?_
              rintro e w2 ⟨rfl, hb2⟩
              obtain ⟨⟨r0, r1, r2, r3, r4⟩, g0, g1, g2, g3, g4⟩ := box_cells hb2
              go_wp2_with fail
              refine hK.out _ _ trivial (fun hHeld => ?_)
              clear hK K
              (try simp only [Act.put, List.setIfInBounds_toArray, List.set_cons_zero, List.set_cons_succ])
              refine takeH (i := 26) (d := some 19) (v := ?_) rfl (by kernel_rfl) (by kernel_rfl) (by kernel_rfl) (fun _ _ _ h => h) rfl (Or.inl ⟨by rfl, ?_⟩) trivial ?_
              rotate_left
              · intro w hSw; go_simp; (try with_reducible rfl)
              (try simp only [Act.put, List.setIfInBounds_toArray, List.set_cons_zero, List.set_cons_succ])
              refine takeH (i := 27) (d := some 46) (v := ?_) rfl (by kernel_rfl) (by kernel_rfl) (by kernel_rfl) (fun _ _ _ h => h) rfl (Or.inl ⟨by rfl, ?_⟩) trivial ?_
              rotate_left
              · intro w hSw; go_simp; (try with_reducible rfl)
              (try simp only [Act.put, List.setIfInBounds_toArray, List.set_cons_zero, List.set_cons_succ])
              refine takeH (i := 28) (d := some 47) (v := ?_) rfl (by kernel_rfl) (by kernel_rfl) (by kernel_rfl) (fun _ _ _ h => h) rfl (Or.inl ⟨by rfl, ?_⟩) trivial ?_
              rotate_left
              · intro w hSw; go_simp; (try with_reducible rfl)
              (try simp only [Act.put, List.setIfInBounds_toArray, List.set_cons_zero, List.set_cons_succ])
              refine wpAnyH_ready (rs := [30]) (by kernel_rfl) (by simp) ?_
              refine AllReadyH.cons rfl (fun K hK => ?_) AllReadyH.nil
              go_simp
              refine hK.out _ _ trivial (fun hHeld => ?_)
              clear hK K
              (try simp only [Act.put, List.setIfInBounds_toArray, List.set_cons_zero, List.set_cons_succ])
              refine takeH (i := 31) (d := some 7) (v := ?_) rfl (by kernel_rfl) (by kernel_rfl) (by kernel_rfl) (fun _ _ _ h => h) rfl (Or.inl ⟨by rfl, ?_⟩) trivial ?_
              rotate_left
              · intro w hSw; go_simp; (try with_reducible rfl)
              (try simp only [Act.put, List.setIfInBounds_toArray, List.set_cons_zero, List.set_cons_succ])
              refine wpAnyH_done (by kernel_rfl) ?_ _
              refine NoPanic.normal ?_
              go_wp2_with fail
              go_meet
              exact ⟨rfl, (((((((Below.refl wr.heap.size wr).alloc (Nat.le_refl _) _).drew.trans (hb2.mono (by simp))).setCell (Nat.le_refl _) _).setCell (Nat.le_refl _) _).setCell (Nat.le_refl _) _).setCell (Nat.le_refl _) _).setCell (Nat.le_refl _) _⟩
          case rest =>
            obtain ⟨rfl, hbx⟩ := hcut
            have hbw1 := hbw.trans (hbx.mono hsw)
            have hno : backN s n = none := backN_none (n := k + 1) (backN_fail hl.out HQ.out HK.out) (by omega)
            have HNO := Lib.hid hno
            clear hno
            go_wp2
            go_ret2
            rw [EL.out, EE.out, HNO.out]
            exact ⟨_, rfl, World.ownsRow_nil _ _ _ _, hbw1⟩
      · obtain rfl : k = n := by omega
        have hlast : s.size = q := by have := HN.out; have := hq.out; omega
        have HLAST := Lib.hid hlast
        have hle : s.size ≤ q := by omega
        have hge : q ≤ s.size := by omega
        clear hlast
        go_wp2
        go_ret2
        rw [EL.out, EE.out, hl.out]
        exact ⟨_, rfl, by rw [Option.getD_some, backN_len hl.out]; exact hown, hbw⟩
  · have hc : ((s.size : Int) % 4 != 0) = true := by simp; omega
    have eL : backL s = [] := by unfold backL; rw [if_neg h4]
    have eE : backE s = 2 := by unfold backE; rw [if_neg h4]
    rw [eL, eE]
    clear h4 eL eE
    go_enter Tryd.func22, Tryd.ntmps22
    go_wp2
    go_ret2
    exact ⟨_, rfl, World.ownsRow_nil _ _ _ _, Below.refl _ _⟩
end Go.Proofs.YthnekmfcbbohkaaDoor
