/- PageGuards: what a page doesn't grant is refused: the walk. -/
import Derived.Test.YtclghfekmmcfjaaPgPl3
namespace Go.Proofs.Ytclghfekmmcfjaa
open Go.ChangeShapes Go.WideShapes Go.ChangeAt Go.RowKit Go.Deep Go.Maps Go.WideMaps
set_option maxRecDepth 100000

structure GuardsD where
  M : Sl Pg
  at_ : Int
  i : Int
  perm : Int
def GuardsD.cells (x : GuardsD) : List Value := [x.M.v, .int .u64 x.at_, .int .i64 x.i, .int .i64 x.perm]
theorem opens_GuardsD {w : World} : Opens Try.prog w 66 GuardsD.cells (fun x => MemG w x.M.a x.M.cap x.M.l ∧ (0 ≤ x.at_ ∧ x.at_ ≤ 18446744073709551615) ∧ (-9223372036854775808 ≤ x.i ∧ x.i ≤ 9223372036854775807) ∧ (-9223372036854775808 ≤ x.perm ∧ x.perm ≤ 9223372036854775807)) := by
  intro H enc fuel cs y h hw
  obtain ⟨n, hl, hf⟩ := open_one Try.underlying66 (by kernel_rfl) (show Try.prog.cellsOf 66 = 4 by kernel_rfl) h hw
  match cs, hl with
  | [c0, c1, c2, c3], _ =>
    obtain ⟨v0, y0, e0, t0, w0⟩ := hf 0 _ rfl
    obtain ⟨v1, y1, e1, t1, w1⟩ := hf 1 _ rfl
    obtain ⟨v2, y2, e2, t2, w2⟩ := hf 2 _ rfl
    obtain ⟨v3, y3, e3, t3, w3⟩ := hf 3 _ rfl
    obtain ⟨x0, h0, g0⟩ := opens_mem enc _ _ _ t0 w0
    obtain ⟨x1, h1, g1⟩ := opens_int Try.underlying22 enc _ _ _ t1 w1
    obtain ⟨x2, h2, g2⟩ := opens_int Try.underlying3 enc _ _ _ t2 w2
    obtain ⟨x3, h3, g3⟩ := opens_int Try.underlying3 enc _ _ _ t3 w3
    simp only [List.getElem?_cons_zero, List.getElem?_cons_succ, Option.some.injEq, List.cons.injEq, and_true] at e0 e1 e2 e3 h0 h1 h2 h3
    subst e0 e1 e2 e3 h0 h1 h2 h3
    exact ⟨⟨x0, x1, x2, x3⟩, rfl, MemG.of g0, u64_bd g1, i64_bd g2, i64_bd g3⟩
set_option maxHeartbeats 1000000 in
theorem guards_out {AM : Option Addr} {cM : Nat} {M : List Pg} {at_ i perm : Int} {w : World} (hM : MemG w AM cM M) (hout : rightB M = false ∨ i < 0 ∨ (0 ≤ i ∧ ((M.length : Int) ≤ i ∨ (i < M.length ∧ (perm < 1 ∨ 1 ≤ perm ∧ 7 < perm))))) :
    Calls Try.prog 11 #[.agg #[.slice AM M.length cM, .int .u64 at_, .int .i64 i, .int .i64 perm]] w fun e w' => e = .returned (.bool true) ∧ Below w.heap.size w w' := by
  have HM := Lib.hid hM
  have hlen := hM.2.2.2
  clear hM
  obtain ⟨R, hR⟩ : ∃ R, rightB M = R := ⟨_, rfl⟩
  rw [hR] at hout
  have HR := Lib.hid hR
  clear hR
  rcases hout with rfl | c | ⟨c, c' | ⟨c', c'' | ⟨c'', c3⟩⟩⟩
  · skip
    have HB0 : Hid (Below w.heap.size w (w.alloc (.cells #[.slice AM M.length cM, .int .u64 at_, .int .i64 i, .int .i64 perm] 66))) := (Below.refl _ _).alloc (Nat.le_refl _) _
    have MM_0 := Lib.hid (Mem.step HM.out.1 HB0.out)
    go_enter Try.func11, Try.ntmps11
    go_wp2_with fail
    refine (shown_any _).mono ?_
    rintro e w1 ⟨rfl, hb1⟩
    have HB1 := Lib.hid (HB0.out.trans (hb1.mono HB0.out.size))
    have MM_1 := Lib.hid (Mem.step MM_0.out hb1)
    clear hb1
    go_wp2_with fail
    refine (rright_any MM_1.out (Nat.le_refl _) HM.out.2.2.1).mono ?_
    rintro e w2 ⟨rfl, hb2⟩
    rw [HR.out]
    have HB2 := Lib.hid (HB1.out.trans (hb2.mono HB1.out.size))
    have MM_2 := Lib.hid (Mem.step MM_1.out hb2)
    clear hb2
    go_wp2
    go_ret
    exact ⟨rfl, HB2.out⟩
  · cases R
    · skip
      have HB0 : Hid (Below w.heap.size w (w.alloc (.cells #[.slice AM M.length cM, .int .u64 at_, .int .i64 i, .int .i64 perm] 66))) := (Below.refl _ _).alloc (Nat.le_refl _) _
      have MM_0 := Lib.hid (Mem.step HM.out.1 HB0.out)
      go_enter Try.func11, Try.ntmps11
      go_wp2_with fail
      refine (shown_any _).mono ?_
      rintro e w1 ⟨rfl, hb1⟩
      have HB1 := Lib.hid (HB0.out.trans (hb1.mono HB0.out.size))
      have MM_1 := Lib.hid (Mem.step MM_0.out hb1)
      clear hb1
      go_wp2_with fail
      refine (rright_any MM_1.out (Nat.le_refl _) HM.out.2.2.1).mono ?_
      rintro e w2 ⟨rfl, hb2⟩
      rw [HR.out]
      have HB2 := Lib.hid (HB1.out.trans (hb2.mono HB1.out.size))
      have MM_2 := Lib.hid (Mem.step MM_1.out hb2)
      clear hb2
      go_wp2
      go_ret
      exact ⟨rfl, HB2.out⟩
    · skip
      have HB0 : Hid (Below w.heap.size w (w.alloc (.cells #[.slice AM M.length cM, .int .u64 at_, .int .i64 i, .int .i64 perm] 66))) := (Below.refl _ _).alloc (Nat.le_refl _) _
      have MM_0 := Lib.hid (Mem.step HM.out.1 HB0.out)
      go_enter Try.func11, Try.ntmps11
      go_wp2_with fail
      refine (shown_any _).mono ?_
      rintro e w1 ⟨rfl, hb1⟩
      have HB1 := Lib.hid (HB0.out.trans (hb1.mono HB0.out.size))
      have MM_1 := Lib.hid (Mem.step MM_0.out hb1)
      clear hb1
      go_wp2_with fail
      refine (rright_any MM_1.out (Nat.le_refl _) HM.out.2.2.1).mono ?_
      rintro e w2 ⟨rfl, hb2⟩
      rw [HR.out]
      have HB2 := Lib.hid (HB1.out.trans (hb2.mono HB1.out.size))
      have MM_2 := Lib.hid (Mem.step MM_1.out hb2)
      clear hb2
      go_wp2
      go_ret
      exact ⟨rfl, HB2.out⟩
  · cases R
    · skip
      have HB0 : Hid (Below w.heap.size w (w.alloc (.cells #[.slice AM M.length cM, .int .u64 at_, .int .i64 i, .int .i64 perm] 66))) := (Below.refl _ _).alloc (Nat.le_refl _) _
      have MM_0 := Lib.hid (Mem.step HM.out.1 HB0.out)
      go_enter Try.func11, Try.ntmps11
      go_wp2_with fail
      refine (shown_any _).mono ?_
      rintro e w1 ⟨rfl, hb1⟩
      have HB1 := Lib.hid (HB0.out.trans (hb1.mono HB0.out.size))
      have MM_1 := Lib.hid (Mem.step MM_0.out hb1)
      clear hb1
      go_wp2_with fail
      refine (rright_any MM_1.out (Nat.le_refl _) HM.out.2.2.1).mono ?_
      rintro e w2 ⟨rfl, hb2⟩
      rw [HR.out]
      have HB2 := Lib.hid (HB1.out.trans (hb2.mono HB1.out.size))
      have MM_2 := Lib.hid (Mem.step MM_1.out hb2)
      clear hb2
      go_wp2
      go_ret
      exact ⟨rfl, HB2.out⟩
    · skip
      have HB0 : Hid (Below w.heap.size w (w.alloc (.cells #[.slice AM M.length cM, .int .u64 at_, .int .i64 i, .int .i64 perm] 66))) := (Below.refl _ _).alloc (Nat.le_refl _) _
      have MM_0 := Lib.hid (Mem.step HM.out.1 HB0.out)
      go_enter Try.func11, Try.ntmps11
      go_wp2_with fail
      refine (shown_any _).mono ?_
      rintro e w1 ⟨rfl, hb1⟩
      have HB1 := Lib.hid (HB0.out.trans (hb1.mono HB0.out.size))
      have MM_1 := Lib.hid (Mem.step MM_0.out hb1)
      clear hb1
      go_wp2_with fail
      refine (rright_any MM_1.out (Nat.le_refl _) HM.out.2.2.1).mono ?_
      rintro e w2 ⟨rfl, hb2⟩
      rw [HR.out]
      have HB2 := Lib.hid (HB1.out.trans (hb2.mono HB1.out.size))
      have MM_2 := Lib.hid (Mem.step MM_1.out hb2)
      clear hb2
      go_wp2
      go_ret
      exact ⟨rfl, HB2.out⟩
  · cases R
    · skip
      have HB0 : Hid (Below w.heap.size w (w.alloc (.cells #[.slice AM M.length cM, .int .u64 at_, .int .i64 i, .int .i64 perm] 66))) := (Below.refl _ _).alloc (Nat.le_refl _) _
      have MM_0 := Lib.hid (Mem.step HM.out.1 HB0.out)
      go_enter Try.func11, Try.ntmps11
      go_wp2_with fail
      refine (shown_any _).mono ?_
      rintro e w1 ⟨rfl, hb1⟩
      have HB1 := Lib.hid (HB0.out.trans (hb1.mono HB0.out.size))
      have MM_1 := Lib.hid (Mem.step MM_0.out hb1)
      clear hb1
      go_wp2_with fail
      refine (rright_any MM_1.out (Nat.le_refl _) HM.out.2.2.1).mono ?_
      rintro e w2 ⟨rfl, hb2⟩
      rw [HR.out]
      have HB2 := Lib.hid (HB1.out.trans (hb2.mono HB1.out.size))
      have MM_2 := Lib.hid (Mem.step MM_1.out hb2)
      clear hb2
      go_wp2
      go_ret
      exact ⟨rfl, HB2.out⟩
    · skip
      have HB0 : Hid (Below w.heap.size w (w.alloc (.cells #[.slice AM M.length cM, .int .u64 at_, .int .i64 i, .int .i64 perm] 66))) := (Below.refl _ _).alloc (Nat.le_refl _) _
      have MM_0 := Lib.hid (Mem.step HM.out.1 HB0.out)
      go_enter Try.func11, Try.ntmps11
      go_wp2_with fail
      refine (shown_any _).mono ?_
      rintro e w1 ⟨rfl, hb1⟩
      have HB1 := Lib.hid (HB0.out.trans (hb1.mono HB0.out.size))
      have MM_1 := Lib.hid (Mem.step MM_0.out hb1)
      clear hb1
      go_wp2_with fail
      refine (rright_any MM_1.out (Nat.le_refl _) HM.out.2.2.1).mono ?_
      rintro e w2 ⟨rfl, hb2⟩
      rw [HR.out]
      have HB2 := Lib.hid (HB1.out.trans (hb2.mono HB1.out.size))
      have MM_2 := Lib.hid (Mem.step MM_1.out hb2)
      clear hb2
      go_wp2
      go_ret
      exact ⟨rfl, HB2.out⟩
  · cases R
    · skip
      have HB0 : Hid (Below w.heap.size w (w.alloc (.cells #[.slice AM M.length cM, .int .u64 at_, .int .i64 i, .int .i64 perm] 66))) := (Below.refl _ _).alloc (Nat.le_refl _) _
      have MM_0 := Lib.hid (Mem.step HM.out.1 HB0.out)
      go_enter Try.func11, Try.ntmps11
      go_wp2_with fail
      refine (shown_any _).mono ?_
      rintro e w1 ⟨rfl, hb1⟩
      have HB1 := Lib.hid (HB0.out.trans (hb1.mono HB0.out.size))
      have MM_1 := Lib.hid (Mem.step MM_0.out hb1)
      clear hb1
      go_wp2_with fail
      refine (rright_any MM_1.out (Nat.le_refl _) HM.out.2.2.1).mono ?_
      rintro e w2 ⟨rfl, hb2⟩
      rw [HR.out]
      have HB2 := Lib.hid (HB1.out.trans (hb2.mono HB1.out.size))
      have MM_2 := Lib.hid (Mem.step MM_1.out hb2)
      clear hb2
      go_wp2
      go_ret
      exact ⟨rfl, HB2.out⟩
    · skip
      have HB0 : Hid (Below w.heap.size w (w.alloc (.cells #[.slice AM M.length cM, .int .u64 at_, .int .i64 i, .int .i64 perm] 66))) := (Below.refl _ _).alloc (Nat.le_refl _) _
      have MM_0 := Lib.hid (Mem.step HM.out.1 HB0.out)
      go_enter Try.func11, Try.ntmps11
      go_wp2_with fail
      refine (shown_any _).mono ?_
      rintro e w1 ⟨rfl, hb1⟩
      have HB1 := Lib.hid (HB0.out.trans (hb1.mono HB0.out.size))
      have MM_1 := Lib.hid (Mem.step MM_0.out hb1)
      clear hb1
      go_wp2_with fail
      refine (rright_any MM_1.out (Nat.le_refl _) HM.out.2.2.1).mono ?_
      rintro e w2 ⟨rfl, hb2⟩
      rw [HR.out]
      have HB2 := Lib.hid (HB1.out.trans (hb2.mono HB1.out.size))
      have MM_2 := Lib.hid (Mem.step MM_1.out hb2)
      clear hb2
      go_wp2
      go_ret
      exact ⟨rfl, HB2.out⟩
set_option maxHeartbeats 1000000 in
theorem guards_in {AM : Option Addr} {cM : Nat} {M : List Pg} {at_ perm : Int} {i : Nat} {w : World} (hM : MemG w AM cM M) (hat : 0 ≤ at_ ∧ at_ ≤ 18446744073709551615) (hR : rightB M = true) (hi : i < M.length) (hp : 1 ≤ perm ∧ perm ≤ 7) :
    Calls Try.prog 11 #[.agg #[.slice AM M.length cM, .int .u64 at_, .int .i64 (i : Int), .int .i64 perm]] w fun e w' => e = .returned (.bool true) ∧ Below w.heap.size w w' := by
  have HM := Lib.hid hM
  have hlen := hM.2.2.2
  clear hM
  have hRP := rightB_out hR
  have hpm := right_perm hRP hi
  obtain ⟨at1, hat1⟩ : ∃ a, (M[i]).at_ = a := ⟨_, rfl⟩
  obtain ⟨pm, hpmd⟩ : ∃ a, (M[i]).perm = a := ⟨_, rfl⟩
  have hab := (HM.out.2.2.1 _ (List.getElem_mem hi)).1
  have hmod := right_mod hRP hi
  have hg1 := guard_byte hRP hi (r := at_ % 256) (by omega) HM.out.2.2.1 perm
  have hg2 := guard_byte hRP hi (r := at_ % 256) (by omega) HM.out.2.2.1 2
  rw [grant_or hpm (by omega)] at hg1
  rw [grant_two hpm] at hg2
  rw [hat1] at hab hmod hg1 hg2
  rw [hpmd] at hpm hg1 hg2
  obtain ⟨tt, hto⟩ : ∃ t, at1 + at_ % 256 = t := ⟨_, rfl⟩
  rw [hto] at hg1 hg2
  have htb : 0 ≤ tt ∧ tt ≤ 18446744073709551615 := by omega
  have hwr : IntKind.u64.wrap (at1 + at_ % 256) = tt := by rw [IntKind.wrap_u64]; omega
  have hl1 : loadE M tt 1 perm = if (bits .or .i64 pm perm == pm) then 0 else 6 := by rw [loadE_one hR, hg1]
  have hl2 : loadE M tt 1 2 = if (pm / 2 % 2 == 1) then 0 else 6 := by rw [loadE_one hR, hg2]
  obtain ⟨U, hU⟩ : ∃ U, bits .or .i64 pm perm = U := ⟨_, rfl⟩
  rw [hU] at hl1
  obtain ⟨X, hX⟩ : ∃ X, storeX M tt 1 7 = X := ⟨_, rfl⟩
  have e8 : pm % 8 = pm := by omega
  obtain ⟨b, off, rfl, hb, c0, c1, c2⟩ := Mem.pg HM.out.1 hi
  rw [hat1] at c0
  rw [hpmd] at c1
  have hbw : b < w.heap.size := hb
  clear c2 hg1 hg2 hat1 hpmd
  have i1 : (0 : Int) ≤ (i : Int) := by omega
  have i2 : (i : Int) < (M.length : Int) := by omega
  have b1 : decide (perm < 1) = false := decide_eq_false (by omega)
  have b2 : decide (7 < perm) = false := decide_eq_false (by omega)
  have HL1 := Lib.hid hl1
  have HL2 := Lib.hid hl2
  have HR := Lib.hid hR
  have HX := Lib.hid hX
  have HTO := Lib.hid hto
  have HMOD := Lib.hid hmod
  clear hl1 hl2 hR hX hto hmod hRP
  cases hq1 : (U == pm)
  all_goals cases hq2 : (pm / 2 % 2 == 1)
  all_goals rw [hq1] at HL1
  all_goals rw [hq2] at HL2
  · skip
    have HB0 : Hid (Below w.heap.size w (w.alloc (.cells #[.slice (some ⟨b, off, none⟩) M.length cM, .int .u64 at_, .int .i64 (i : Int), .int .i64 perm] 66))) := (Below.refl _ _).alloc (Nat.le_refl _) _
    have MM_0 := Lib.hid (Mem.step HM.out.1 HB0.out)
    go_enter Try.func11, Try.ntmps11
    go_wp2_with fail
    refine (shown_any _).mono ?_
    rintro e w1 ⟨rfl, hb1⟩
    have HB1 := Lib.hid (HB0.out.trans (hb1.mono HB0.out.size))
    have MM_1 := Lib.hid (Mem.step MM_0.out hb1)
    clear hb1
    go_wp2_with fail
    refine (rright_any MM_1.out (Nat.le_refl _) HM.out.2.2.1).mono ?_
    rintro e w2 ⟨rfl, hb2⟩
    rw [HR.out]
    have HB2 := Lib.hid (HB1.out.trans (hb2.mono HB1.out.size))
    have MM_2 := Lib.hid (Mem.step MM_1.out hb2)
    clear hb2
    have d0 := (HB2.out.cell (p := ⟨b, off + i * 3, none⟩) hbw).trans c0
    have d1 := (HB2.out.cell (p := ⟨b, off + i * 3 + 1, none⟩) hbw).trans c1
    go_wp2_with fail
    refine (load_any tt 1 perm MM_2.out (Nat.le_refl _) HM.out.2.2.1 hlen).mono ?_
    rintro e w3 ⟨rfl, hb3⟩
    rw [HL1.out]
    clear d0 d1
    generalize loadV M tt 1 perm = V
    have HB3 := Lib.hid (HB2.out.trans (hb3.mono HB2.out.size))
    have MM_3 := Lib.hid (Mem.step MM_2.out hb3)
    clear hb3
    have d0 := (HB3.out.cell (p := ⟨b, off + i * 3, none⟩) hbw).trans c0
    have d1 := (HB3.out.cell (p := ⟨b, off + i * 3 + 1, none⟩) hbw).trans c1
    go_wp2_with fail
    refine (store_any tt 1 7 htb MM_3.out HM.out.2.1 (Nat.le_refl _) HM.out.2.2.1 hlen).mono ?_
    rintro e w4 ⟨hb4, u, rfl, hv⟩
    rw [HL2.out]
    rw [HX.out] at hv
    clear d0 d1
    have HB4 := Lib.hid (HB3.out.trans (hb4.mono HB3.out.size))
    have MM_4 := Lib.hid (Mem.step MM_3.out hb4)
    clear hb4
    have d0 := (HB4.out.cell (p := ⟨b, off + i * 3, none⟩) hbw).trans c0
    have d1 := (HB4.out.cell (p := ⟨b, off + i * 3 + 1, none⟩) hbw).trans c1
    obtain ⟨AX, cX, rfl, hm, hn⟩ := hv
    have MX_4 := Lib.hid hm
    have NX := Lib.hid hn
    clear hm hn
    go_wp2
    go_ret
    exact ⟨rfl, HB4.out⟩
  · skip
    have HB0 : Hid (Below w.heap.size w (w.alloc (.cells #[.slice (some ⟨b, off, none⟩) M.length cM, .int .u64 at_, .int .i64 (i : Int), .int .i64 perm] 66))) := (Below.refl _ _).alloc (Nat.le_refl _) _
    have MM_0 := Lib.hid (Mem.step HM.out.1 HB0.out)
    go_enter Try.func11, Try.ntmps11
    go_wp2_with fail
    refine (shown_any _).mono ?_
    rintro e w1 ⟨rfl, hb1⟩
    have HB1 := Lib.hid (HB0.out.trans (hb1.mono HB0.out.size))
    have MM_1 := Lib.hid (Mem.step MM_0.out hb1)
    clear hb1
    go_wp2_with fail
    refine (rright_any MM_1.out (Nat.le_refl _) HM.out.2.2.1).mono ?_
    rintro e w2 ⟨rfl, hb2⟩
    rw [HR.out]
    have HB2 := Lib.hid (HB1.out.trans (hb2.mono HB1.out.size))
    have MM_2 := Lib.hid (Mem.step MM_1.out hb2)
    clear hb2
    have d0 := (HB2.out.cell (p := ⟨b, off + i * 3, none⟩) hbw).trans c0
    have d1 := (HB2.out.cell (p := ⟨b, off + i * 3 + 1, none⟩) hbw).trans c1
    go_wp2_with fail
    refine (load_any tt 1 perm MM_2.out (Nat.le_refl _) HM.out.2.2.1 hlen).mono ?_
    rintro e w3 ⟨rfl, hb3⟩
    rw [HL1.out]
    clear d0 d1
    generalize loadV M tt 1 perm = V
    have HB3 := Lib.hid (HB2.out.trans (hb3.mono HB2.out.size))
    have MM_3 := Lib.hid (Mem.step MM_2.out hb3)
    clear hb3
    have d0 := (HB3.out.cell (p := ⟨b, off + i * 3, none⟩) hbw).trans c0
    have d1 := (HB3.out.cell (p := ⟨b, off + i * 3 + 1, none⟩) hbw).trans c1
    go_wp2_with fail
    refine (store_any tt 1 7 htb MM_3.out HM.out.2.1 (Nat.le_refl _) HM.out.2.2.1 hlen).mono ?_
    rintro e w4 ⟨hb4, u, rfl, hv⟩
    rw [HL2.out]
    rw [HX.out] at hv
    clear d0 d1
    have HB4 := Lib.hid (HB3.out.trans (hb4.mono HB3.out.size))
    have MM_4 := Lib.hid (Mem.step MM_3.out hb4)
    clear hb4
    have d0 := (HB4.out.cell (p := ⟨b, off + i * 3, none⟩) hbw).trans c0
    have d1 := (HB4.out.cell (p := ⟨b, off + i * 3 + 1, none⟩) hbw).trans c1
    obtain ⟨AX, cX, rfl, hm, hn⟩ := hv
    have MX_4 := Lib.hid hm
    have NX := Lib.hid hn
    clear hm hn
    go_wp2
    go_ret
    exact ⟨rfl, HB4.out⟩
  · skip
    have HB0 : Hid (Below w.heap.size w (w.alloc (.cells #[.slice (some ⟨b, off, none⟩) M.length cM, .int .u64 at_, .int .i64 (i : Int), .int .i64 perm] 66))) := (Below.refl _ _).alloc (Nat.le_refl _) _
    have MM_0 := Lib.hid (Mem.step HM.out.1 HB0.out)
    go_enter Try.func11, Try.ntmps11
    go_wp2_with fail
    refine (shown_any _).mono ?_
    rintro e w1 ⟨rfl, hb1⟩
    have HB1 := Lib.hid (HB0.out.trans (hb1.mono HB0.out.size))
    have MM_1 := Lib.hid (Mem.step MM_0.out hb1)
    clear hb1
    go_wp2_with fail
    refine (rright_any MM_1.out (Nat.le_refl _) HM.out.2.2.1).mono ?_
    rintro e w2 ⟨rfl, hb2⟩
    rw [HR.out]
    have HB2 := Lib.hid (HB1.out.trans (hb2.mono HB1.out.size))
    have MM_2 := Lib.hid (Mem.step MM_1.out hb2)
    clear hb2
    have d0 := (HB2.out.cell (p := ⟨b, off + i * 3, none⟩) hbw).trans c0
    have d1 := (HB2.out.cell (p := ⟨b, off + i * 3 + 1, none⟩) hbw).trans c1
    go_wp2_with fail
    refine (load_any tt 1 perm MM_2.out (Nat.le_refl _) HM.out.2.2.1 hlen).mono ?_
    rintro e w3 ⟨rfl, hb3⟩
    rw [HL1.out]
    clear d0 d1
    generalize loadV M tt 1 perm = V
    have HB3 := Lib.hid (HB2.out.trans (hb3.mono HB2.out.size))
    have MM_3 := Lib.hid (Mem.step MM_2.out hb3)
    clear hb3
    have d0 := (HB3.out.cell (p := ⟨b, off + i * 3, none⟩) hbw).trans c0
    have d1 := (HB3.out.cell (p := ⟨b, off + i * 3 + 1, none⟩) hbw).trans c1
    go_wp2_with fail
    refine (store_any tt 1 7 htb MM_3.out HM.out.2.1 (Nat.le_refl _) HM.out.2.2.1 hlen).mono ?_
    rintro e w4 ⟨hb4, u, rfl, hv⟩
    rw [HL2.out]
    rw [HX.out] at hv
    clear d0 d1
    have HB4 := Lib.hid (HB3.out.trans (hb4.mono HB3.out.size))
    have MM_4 := Lib.hid (Mem.step MM_3.out hb4)
    clear hb4
    have d0 := (HB4.out.cell (p := ⟨b, off + i * 3, none⟩) hbw).trans c0
    have d1 := (HB4.out.cell (p := ⟨b, off + i * 3 + 1, none⟩) hbw).trans c1
    obtain ⟨AX, cX, rfl, hm, hn⟩ := hv
    have MX_4 := Lib.hid hm
    have NX := Lib.hid hn
    clear hm hn
    go_wp2
    go_ret
    exact ⟨rfl, HB4.out⟩
  · skip
    have HB0 : Hid (Below w.heap.size w (w.alloc (.cells #[.slice (some ⟨b, off, none⟩) M.length cM, .int .u64 at_, .int .i64 (i : Int), .int .i64 perm] 66))) := (Below.refl _ _).alloc (Nat.le_refl _) _
    have MM_0 := Lib.hid (Mem.step HM.out.1 HB0.out)
    go_enter Try.func11, Try.ntmps11
    go_wp2_with fail
    refine (shown_any _).mono ?_
    rintro e w1 ⟨rfl, hb1⟩
    have HB1 := Lib.hid (HB0.out.trans (hb1.mono HB0.out.size))
    have MM_1 := Lib.hid (Mem.step MM_0.out hb1)
    clear hb1
    go_wp2_with fail
    refine (rright_any MM_1.out (Nat.le_refl _) HM.out.2.2.1).mono ?_
    rintro e w2 ⟨rfl, hb2⟩
    rw [HR.out]
    have HB2 := Lib.hid (HB1.out.trans (hb2.mono HB1.out.size))
    have MM_2 := Lib.hid (Mem.step MM_1.out hb2)
    clear hb2
    have d0 := (HB2.out.cell (p := ⟨b, off + i * 3, none⟩) hbw).trans c0
    have d1 := (HB2.out.cell (p := ⟨b, off + i * 3 + 1, none⟩) hbw).trans c1
    go_wp2_with fail
    refine (load_any tt 1 perm MM_2.out (Nat.le_refl _) HM.out.2.2.1 hlen).mono ?_
    rintro e w3 ⟨rfl, hb3⟩
    rw [HL1.out]
    clear d0 d1
    generalize loadV M tt 1 perm = V
    have HB3 := Lib.hid (HB2.out.trans (hb3.mono HB2.out.size))
    have MM_3 := Lib.hid (Mem.step MM_2.out hb3)
    clear hb3
    have d0 := (HB3.out.cell (p := ⟨b, off + i * 3, none⟩) hbw).trans c0
    have d1 := (HB3.out.cell (p := ⟨b, off + i * 3 + 1, none⟩) hbw).trans c1
    go_wp2_with fail
    refine (store_any tt 1 7 htb MM_3.out HM.out.2.1 (Nat.le_refl _) HM.out.2.2.1 hlen).mono ?_
    rintro e w4 ⟨hb4, u, rfl, hv⟩
    rw [HL2.out]
    rw [HX.out] at hv
    clear d0 d1
    have HB4 := Lib.hid (HB3.out.trans (hb4.mono HB3.out.size))
    have MM_4 := Lib.hid (Mem.step MM_3.out hb4)
    clear hb4
    have d0 := (HB4.out.cell (p := ⟨b, off + i * 3, none⟩) hbw).trans c0
    have d1 := (HB4.out.cell (p := ⟨b, off + i * 3 + 1, none⟩) hbw).trans c1
    obtain ⟨AX, cX, rfl, hm, hn⟩ := hv
    have MX_4 := Lib.hid hm
    have NX := Lib.hid hn
    clear hm hn
    go_wp2
    go_ret
    exact ⟨rfl, HB4.out⟩
theorem guards_any {AM : Option Addr} {cM : Nat} {M : List Pg} {at_ i perm : Int} {w : World} (hM : MemG w AM cM M) (hat : 0 ≤ at_ ∧ at_ ≤ 18446744073709551615) :
    Calls Try.prog 11 #[.agg #[.slice AM M.length cM, .int .u64 at_, .int .i64 i, .int .i64 perm]] w fun e w' => e = .returned (.bool true) ∧ Below w.heap.size w w' := by
  by_cases hout : rightB M = false ∨ i < 0 ∨ (0 ≤ i ∧ ((M.length : Int) ≤ i ∨ (i < M.length ∧ (perm < 1 ∨ 1 ≤ perm ∧ 7 < perm))))
  · exact guards_out hM hout
  · have hR : rightB M = true := by cases h : rightB M; exact absurd (.inl h) hout; rfl
    obtain ⟨k, rfl⟩ := Int.eq_ofNat_of_zero_le (show 0 ≤ i by omega)
    exact guards_in hM hat hR (by omega) (by omega)
end Go.Proofs.Ytclghfekmmcfjaa
