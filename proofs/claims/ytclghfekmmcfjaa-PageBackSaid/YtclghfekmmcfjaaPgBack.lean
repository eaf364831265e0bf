/- PageBack: what was stored is loaded, where it may be read; bytes at other places are as they were: the walk. -/
import Derived.Test.YtclghfekmmcfjaaPgPl3
namespace Go.Proofs.Ytclghfekmmcfjaa
open Go.ChangeShapes Go.WideShapes Go.ChangeAt Go.RowKit Go.Deep Go.Maps Go.WideMaps
set_option maxRecDepth 100000

structure BackD where
  M : Sl Pg
  at_ : Int
  v : Int
  other : Int
def BackD.cells (x : BackD) : List Value := [x.M.v, .int .u64 x.at_, .int .u64 x.v, .int .u64 x.other]
theorem opens_BackD {w : World} : Opens Try.prog w 81 BackD.cells (fun x => MemG w x.M.a x.M.cap x.M.l ∧ (0 ≤ x.at_ ∧ x.at_ ≤ 18446744073709551615) ∧ (0 ≤ x.v ∧ x.v ≤ 18446744073709551615) ∧ (0 ≤ x.other ∧ x.other ≤ 18446744073709551615)) := by
  intro H enc fuel cs y h hw
  obtain ⟨n, hl, hf⟩ := open_one Try.underlying81 (by kernel_rfl) (show Try.prog.cellsOf 81 = 4 by kernel_rfl) h hw
  match cs, hl with
  | [c0, c1, c2, c3], _ =>
    obtain ⟨v0, y0, e0, t0, w0⟩ := hf 0 _ rfl
    obtain ⟨v1, y1, e1, t1, w1⟩ := hf 1 _ rfl
    obtain ⟨v2, y2, e2, t2, w2⟩ := hf 2 _ rfl
    obtain ⟨v3, y3, e3, t3, w3⟩ := hf 3 _ rfl
    obtain ⟨x0, h0, g0⟩ := opens_mem enc _ _ _ t0 w0
    obtain ⟨x1, h1, g1⟩ := opens_int Try.underlying22 enc _ _ _ t1 w1
    obtain ⟨x2, h2, g2⟩ := opens_int Try.underlying22 enc _ _ _ t2 w2
    obtain ⟨x3, h3, g3⟩ := opens_int Try.underlying22 enc _ _ _ t3 w3
    simp only [List.getElem?_cons_zero, List.getElem?_cons_succ, Option.some.injEq, List.cons.injEq, and_true] at e0 e1 e2 e3 h0 h1 h2 h3
    subst e0 e1 e2 e3 h0 h1 h2 h3
    exact ⟨⟨x0, x1, x2, x3⟩, rfl, MemG.of g0, u64_bd g1, u64_bd g2, u64_bd g3⟩
set_option maxHeartbeats 1000000 in
theorem back_any {AM : Option Addr} {cM : Nat} {M : List Pg} {at_ v other : Int} {w : World} (hM : MemG w AM cM M) (hat : 0 ≤ at_ ∧ at_ ≤ 18446744073709551615) (hvb : 0 ≤ v ∧ v ≤ 18446744073709551615) (hob : 0 ≤ other ∧ other ≤ 18446744073709551615) :
    Calls Try.prog 15 #[.agg #[.slice AM M.length cM, .int .u64 at_, .int .u64 v, .int .u64 other]] w fun e w' => e = .returned (.bool true) ∧ Below w.heap.size w w' := by
  have HM := Lib.hid hM
  have hlen := hM.2.2.2
  clear hM
  by_cases hbig : 200 < M.length
  · have hb : 200 < (M.length : Int) := by omega
    have HB0 : Hid (Below w.heap.size w (w.alloc (.cells #[.slice AM M.length cM, .int .u64 at_, .int .u64 v, .int .u64 other] 81))) := (Below.refl _ _).alloc (Nat.le_refl _) _
    go_enter Try.func15, Try.ntmps15
    go_wp2_with fail
    refine (shown_any _).mono ?_
    rintro e w1 ⟨rfl, hb1⟩
    have HB1 := Lib.hid (HB0.out.trans (hb1.mono HB0.out.size))
    clear hb1
    go_wp2
    go_ret
    exact ⟨rfl, HB1.out⟩
  · have hb : decide (200 < (M.length : Int)) = false := decide_eq_false (by omega)
    by_cases hE : loadE M at_ 8 2 = 0
    · obtain ⟨l1, l2, l3⟩ := back_law HM.out.2.2.1 hat hvb hE
      obtain ⟨l4, l5⟩ := l3 other hob
      obtain ⟨X, hX⟩ : ∃ X, storeX M at_ 8 v = X := ⟨_, rfl⟩
      have hXl : X.length ≤ 140737488351232 := by rw [← hX, storeX_len]; exact hlen
      have HXo : Hid (∀ p ∈ X, p.ok) := by rw [← hX]; exact storeX_okP HM.out.2.2.1
      rw [hX] at l1 l2 l4 l5
      obtain ⟨a, ha⟩ : ∃ a, loadV M other 1 0 = a := ⟨_, rfl⟩
      obtain ⟨b, hbb⟩ : ∃ b, loadV X other 1 0 = b := ⟨_, rfl⟩
      obtain ⟨g, hg⟩ : ∃ g, loadE M other 1 0 = g := ⟨_, rfl⟩
      rw [hg] at l4
      rw [ha, hbb] at l5
      have HE := Lib.hid hE
      have HX := Lib.hid hX
      have L1 := Lib.hid l1
      have L2 := Lib.hid l2
      have L4 := Lib.hid l4
      have HA := Lib.hid ha
      have HBB := Lib.hid hbb
      have HG := Lib.hid hg
      clear hE hX l1 l2 l3 l4 ha hbb hg
      by_cases c1 : at_ ≤ other
      · have e1 : IntKind.u64.wrap (other - at_) = other - at_ := by rw [IntKind.wrap_u64]; omega
        by_cases c2 : other - at_ < 8
        · have d1 : decide (at_ ≤ other) = true := decide_eq_true c1
          have d2 : decide (other - at_ < 8) = true := decide_eq_true c2
          clear l5
          have HB0 : Hid (Below w.heap.size w (w.alloc (.cells #[.slice AM M.length cM, .int .u64 at_, .int .u64 v, .int .u64 other] 81))) := (Below.refl _ _).alloc (Nat.le_refl _) _
          have MM_0 := Lib.hid (Mem.step HM.out.1 HB0.out)
          go_enter Try.func15, Try.ntmps15
          go_wp2_with fail
          refine (shown_any _).mono ?_
          rintro e w1 ⟨rfl, hb1⟩
          have HB1 := Lib.hid (HB0.out.trans (hb1.mono HB0.out.size))
          have MM_1 := Lib.hid (Mem.step MM_0.out hb1)
          clear hb1
          go_wp2_with fail
          refine (store_any at_ 8 v hat MM_1.out HM.out.2.1 (Nat.le_refl _) HM.out.2.2.1 hlen).mono ?_
          rintro e w2 ⟨hb2, u, rfl, hv⟩
          rw [HE.out]
          rw [HX.out] at hv
          have HB2 := Lib.hid (HB1.out.trans (hb2.mono HB1.out.size))
          have MM_2 := Lib.hid (Mem.step MM_1.out hb2)
          clear hb2
          obtain ⟨AX, cX, rfl, hm, hn⟩ := hv
          have MX_2 := Lib.hid hm
          have NX := Lib.hid hn
          clear hm hn
          go_wp2_with fail
          refine (load_any at_ 8 0 MX_2.out (Nat.le_refl _) HXo.out hXl).mono ?_
          rintro e w3 ⟨rfl, hb3⟩
          rw [L1.out, L2.out]
          have HB3 := Lib.hid (HB2.out.trans (hb3.mono HB2.out.size))
          have MM_3 := Lib.hid (Mem.step MM_2.out hb3)
          have MX_3 := Lib.hid (Mem.step MX_2.out hb3)
          clear hb3
          go_wp2_with fail
          refine (load_any other 1 0 MM_3.out (Nat.le_refl _) HM.out.2.2.1 hlen).mono ?_
          rintro e w4 ⟨rfl, hb4⟩
          rw [HA.out, HG.out]
          have HB4 := Lib.hid (HB3.out.trans (hb4.mono HB3.out.size))
          have MM_4 := Lib.hid (Mem.step MM_3.out hb4)
          have MX_4 := Lib.hid (Mem.step MX_3.out hb4)
          clear hb4
          go_wp2_with fail
          refine (load_any other 1 0 MX_4.out (Nat.le_refl _) HXo.out hXl).mono ?_
          rintro e w5 ⟨rfl, hb5⟩
          rw [HBB.out, L4.out]
          have HB5 := Lib.hid (HB4.out.trans (hb5.mono HB4.out.size))
          have MM_5 := Lib.hid (Mem.step MM_4.out hb5)
          have MX_5 := Lib.hid (Mem.step MX_4.out hb5)
          clear hb5
          go_wp2
          go_ret
          exact ⟨ret_bool (by simp), HB5.out⟩
        · obtain rfl := l5 (fun h => c2 h.2)
          have d1 : decide (at_ ≤ other) = true := decide_eq_true c1
          have d2 : decide (other - at_ < 8) = false := decide_eq_false c2
          clear l5
          have HB0 : Hid (Below w.heap.size w (w.alloc (.cells #[.slice AM M.length cM, .int .u64 at_, .int .u64 v, .int .u64 other] 81))) := (Below.refl _ _).alloc (Nat.le_refl _) _
          have MM_0 := Lib.hid (Mem.step HM.out.1 HB0.out)
          go_enter Try.func15, Try.ntmps15
          go_wp2_with fail
          refine (shown_any _).mono ?_
          rintro e w1 ⟨rfl, hb1⟩
          have HB1 := Lib.hid (HB0.out.trans (hb1.mono HB0.out.size))
          have MM_1 := Lib.hid (Mem.step MM_0.out hb1)
          clear hb1
          go_wp2_with fail
          refine (store_any at_ 8 v hat MM_1.out HM.out.2.1 (Nat.le_refl _) HM.out.2.2.1 hlen).mono ?_
          rintro e w2 ⟨hb2, u, rfl, hv⟩
          rw [HE.out]
          rw [HX.out] at hv
          have HB2 := Lib.hid (HB1.out.trans (hb2.mono HB1.out.size))
          have MM_2 := Lib.hid (Mem.step MM_1.out hb2)
          clear hb2
          obtain ⟨AX, cX, rfl, hm, hn⟩ := hv
          have MX_2 := Lib.hid hm
          have NX := Lib.hid hn
          clear hm hn
          go_wp2_with fail
          refine (load_any at_ 8 0 MX_2.out (Nat.le_refl _) HXo.out hXl).mono ?_
          rintro e w3 ⟨rfl, hb3⟩
          rw [L1.out, L2.out]
          have HB3 := Lib.hid (HB2.out.trans (hb3.mono HB2.out.size))
          have MM_3 := Lib.hid (Mem.step MM_2.out hb3)
          have MX_3 := Lib.hid (Mem.step MX_2.out hb3)
          clear hb3
          go_wp2_with fail
          refine (load_any other 1 0 MM_3.out (Nat.le_refl _) HM.out.2.2.1 hlen).mono ?_
          rintro e w4 ⟨rfl, hb4⟩
          rw [HA.out, HG.out]
          have HB4 := Lib.hid (HB3.out.trans (hb4.mono HB3.out.size))
          have MM_4 := Lib.hid (Mem.step MM_3.out hb4)
          have MX_4 := Lib.hid (Mem.step MX_3.out hb4)
          clear hb4
          go_wp2_with fail
          refine (load_any other 1 0 MX_4.out (Nat.le_refl _) HXo.out hXl).mono ?_
          rintro e w5 ⟨rfl, hb5⟩
          rw [HBB.out, L4.out]
          have HB5 := Lib.hid (HB4.out.trans (hb5.mono HB4.out.size))
          have MM_5 := Lib.hid (Mem.step MM_4.out hb5)
          have MX_5 := Lib.hid (Mem.step MX_4.out hb5)
          clear hb5
          go_wp2
          go_ret
          exact ⟨ret_bool (by simp), HB5.out⟩
      · obtain rfl := l5 (fun h => c1 h.1)
        have d1 : decide (at_ ≤ other) = false := decide_eq_false c1
        clear l5
        have HB0 : Hid (Below w.heap.size w (w.alloc (.cells #[.slice AM M.length cM, .int .u64 at_, .int .u64 v, .int .u64 other] 81))) := (Below.refl _ _).alloc (Nat.le_refl _) _
        have MM_0 := Lib.hid (Mem.step HM.out.1 HB0.out)
        go_enter Try.func15, Try.ntmps15
        go_wp2_with fail
        refine (shown_any _).mono ?_
        rintro e w1 ⟨rfl, hb1⟩
        have HB1 := Lib.hid (HB0.out.trans (hb1.mono HB0.out.size))
        have MM_1 := Lib.hid (Mem.step MM_0.out hb1)
        clear hb1
        go_wp2_with fail
        refine (store_any at_ 8 v hat MM_1.out HM.out.2.1 (Nat.le_refl _) HM.out.2.2.1 hlen).mono ?_
        rintro e w2 ⟨hb2, u, rfl, hv⟩
        rw [HE.out]
        rw [HX.out] at hv
        have HB2 := Lib.hid (HB1.out.trans (hb2.mono HB1.out.size))
        have MM_2 := Lib.hid (Mem.step MM_1.out hb2)
        clear hb2
        obtain ⟨AX, cX, rfl, hm, hn⟩ := hv
        have MX_2 := Lib.hid hm
        have NX := Lib.hid hn
        clear hm hn
        go_wp2_with fail
        refine (load_any at_ 8 0 MX_2.out (Nat.le_refl _) HXo.out hXl).mono ?_
        rintro e w3 ⟨rfl, hb3⟩
        rw [L1.out, L2.out]
        have HB3 := Lib.hid (HB2.out.trans (hb3.mono HB2.out.size))
        have MM_3 := Lib.hid (Mem.step MM_2.out hb3)
        have MX_3 := Lib.hid (Mem.step MX_2.out hb3)
        clear hb3
        go_wp2_with fail
        refine (load_any other 1 0 MM_3.out (Nat.le_refl _) HM.out.2.2.1 hlen).mono ?_
        rintro e w4 ⟨rfl, hb4⟩
        rw [HA.out, HG.out]
        have HB4 := Lib.hid (HB3.out.trans (hb4.mono HB3.out.size))
        have MM_4 := Lib.hid (Mem.step MM_3.out hb4)
        have MX_4 := Lib.hid (Mem.step MX_3.out hb4)
        clear hb4
        go_wp2_with fail
        refine (load_any other 1 0 MX_4.out (Nat.le_refl _) HXo.out hXl).mono ?_
        rintro e w5 ⟨rfl, hb5⟩
        rw [HBB.out, L4.out]
        have HB5 := Lib.hid (HB4.out.trans (hb5.mono HB4.out.size))
        have MM_5 := Lib.hid (Mem.step MM_4.out hb5)
        have MX_5 := Lib.hid (Mem.step MX_4.out hb5)
        clear hb5
        go_wp2
        go_ret
        exact ⟨ret_bool (by simp), HB5.out⟩
    · obtain ⟨E, hE2⟩ : ∃ E, loadE M at_ 8 2 = E := ⟨_, rfl⟩
      have hX := store_fail (v := v) hE
      rw [hE2] at hE
      have e1 : (E != 0) = true := by simpa using hE
      have HE := Lib.hid hE2
      have HX := Lib.hid hX
      have HXX : Hid (sameB M M = true) := decide_eq_true rfl
      clear hE hE2 hX
      have HB0 : Hid (Below w.heap.size w (w.alloc (.cells #[.slice AM M.length cM, .int .u64 at_, .int .u64 v, .int .u64 other] 81))) := (Below.refl _ _).alloc (Nat.le_refl _) _
      have MM_0 := Lib.hid (Mem.step HM.out.1 HB0.out)
      go_enter Try.func15, Try.ntmps15
      go_wp2_with fail
      refine (shown_any _).mono ?_
      rintro e w1 ⟨rfl, hb1⟩
      have HB1 := Lib.hid (HB0.out.trans (hb1.mono HB0.out.size))
      have MM_1 := Lib.hid (Mem.step MM_0.out hb1)
      clear hb1
      go_wp2_with fail
      refine (store_any at_ 8 v hat MM_1.out HM.out.2.1 (Nat.le_refl _) HM.out.2.2.1 hlen).mono ?_
      rintro e w2 ⟨hb2, u, rfl, hv⟩
      rw [HE.out]
      rw [HX.out] at hv
      have HB2 := Lib.hid (HB1.out.trans (hb2.mono HB1.out.size))
      have MM_2 := Lib.hid (Mem.step MM_1.out hb2)
      clear hb2
      obtain ⟨AX, cX, rfl, hm, hn⟩ := hv
      have MX_2 := Lib.hid hm
      have NX := Lib.hid hn
      clear hm hn
      go_wp2_with fail
      refine (same_any MX_2.out MM_2.out (Nat.le_refl _) (Nat.le_refl _) hlen).mono ?_
      rintro e w3 ⟨rfl, hb3⟩
      rw [HXX.out]
      have HB3 := Lib.hid (HB2.out.trans (hb3.mono HB2.out.size))
      have MM_3 := Lib.hid (Mem.step MM_2.out hb3)
      have MX_3 := Lib.hid (Mem.step MX_2.out hb3)
      clear hb3
      go_wp2
      go_ret
      exact ⟨rfl, HB3.out⟩
end Go.Proofs.Ytclghfekmmcfjaa
