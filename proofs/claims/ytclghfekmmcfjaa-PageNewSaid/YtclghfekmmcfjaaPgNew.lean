/- PageNew: new pages are of noughts, with the perm that was asked for; all others are as they were: the walk. -/
import Derived.Test.YtclghfekmmcfjaaPgPl3
namespace Go.Proofs.Ytclghfekmmcfjaa
open Go.ChangeShapes Go.WideShapes Go.ChangeAt Go.RowKit Go.Deep Go.Maps Go.WideMaps
set_option maxRecDepth 100000

structure NewD where
  M : Sl Pg
  at_ : Int
  n : Int
  perm : Int
  tt : Int
def NewD.cells (x : NewD) : List Value := [x.M.v, .int .u64 x.at_, .int .i64 x.n, .int .i64 x.perm, .int .u64 x.tt]
theorem opens_NewD {w : World} : Opens Try.prog w 84 NewD.cells (fun x => MemG w x.M.a x.M.cap x.M.l ∧ (0 ≤ x.at_ ∧ x.at_ ≤ 18446744073709551615) ∧ (-9223372036854775808 ≤ x.n ∧ x.n ≤ 9223372036854775807) ∧ (-9223372036854775808 ≤ x.perm ∧ x.perm ≤ 9223372036854775807) ∧ (0 ≤ x.tt ∧ x.tt ≤ 18446744073709551615)) := by
  intro H enc fuel cs y h hw
  obtain ⟨n, hl, hf⟩ := open_one Try.underlying84 (by kernel_rfl) (show Try.prog.cellsOf 84 = 5 by kernel_rfl) h hw
  match cs, hl with
  | [c0, c1, c2, c3, c4], _ =>
    obtain ⟨v0, y0, e0, t0, w0⟩ := hf 0 _ rfl
    obtain ⟨v1, y1, e1, t1, w1⟩ := hf 1 _ rfl
    obtain ⟨v2, y2, e2, t2, w2⟩ := hf 2 _ rfl
    obtain ⟨v3, y3, e3, t3, w3⟩ := hf 3 _ rfl
    obtain ⟨v4, y4, e4, t4, w4⟩ := hf 4 _ rfl
    obtain ⟨x0, h0, g0⟩ := opens_mem enc _ _ _ t0 w0
    obtain ⟨x1, h1, g1⟩ := opens_int Try.underlying22 enc _ _ _ t1 w1
    obtain ⟨x2, h2, g2⟩ := opens_int Try.underlying3 enc _ _ _ t2 w2
    obtain ⟨x3, h3, g3⟩ := opens_int Try.underlying3 enc _ _ _ t3 w3
    obtain ⟨x4, h4, g4⟩ := opens_int Try.underlying22 enc _ _ _ t4 w4
    simp only [List.getElem?_cons_zero, List.getElem?_cons_succ, Option.some.injEq, List.cons.injEq, and_true] at e0 e1 e2 e3 e4 h0 h1 h2 h3 h4
    subst e0 e1 e2 e3 e4 h0 h1 h2 h3 h4
    exact ⟨⟨x0, x1, x2, x3, x4⟩, rfl, MemG.of g0, u64_bd g1, i64_bd g2, i64_bd g3, u64_bd g4⟩
set_option maxHeartbeats 1000000 in
theorem new_any {AM : Option Addr} {cM : Nat} {M : List Pg} {at_ n perm tt : Int} {w : World} (hM : MemG w AM cM M) (hat : 0 ≤ at_ ∧ at_ ≤ 18446744073709551615) (htb : 0 ≤ tt ∧ tt ≤ 18446744073709551615) :
    Calls Try.prog 16 #[.agg #[.slice AM M.length cM, .int .u64 at_, .int .i64 n, .int .i64 perm, .int .u64 tt]] w fun e w' => e = .returned (.bool true) ∧ Below w.heap.size w w' := by
  have HM := Lib.hid hM
  have hlen := hM.2.2.2
  clear hM
  obtain ⟨E, hE⟩ : ∃ E, mapE M at_ n perm = E := ⟨_, rfl⟩
  obtain ⟨X, hX⟩ : ∃ X, mapX M at_ n perm = X := ⟨_, rfl⟩
  have HE := Lib.hid hE
  have HX := Lib.hid hX
  by_cases h0 : E = 0
  · subst h0
    have hok := (mapE_zero hE).1
    have hR := hok.1
    have hn := hok.2.2.1
    have hRP := rightB_out hR
    have hl64 := hRP.1
    have hXl := mapX_lenE hE
    have hRX : rightB X = true := by rw [← hX]; exact rightB_in (mapX_rightP hRP)
    have HOX : Hid (∀ p ∈ X, p.ok) := by rw [← hX]; exact mapX_okP HM.out.2.2.1 hat.1
    rw [hX] at hXl
    have hXl2 : X.length ≤ 140737488351232 := by omega
    have hwn : IntKind.u64.wrap n = n := by rw [IntKind.wrap_u64]; omega
    have b1 : decide (64 < (M.length : Int)) = false := decide_eq_false (by omega)
    have b2 : ((X.length : Int) == (M.length : Int) + n) = true := by rw [hXl]; simp
    have hnew := fun h1 h2 => mapX_new hRP hE (T := tt) htb h1 h2
    have hold := fun h => mapX_old (perm' := 0) hRP hE (T := tt) htb h
    rw [hX] at hnew hold
    have hv1 := loadV_one hRX tt 0
    have he1 := loadE_one hRX tt 0
    have hv2 := loadV_one hR tt 0
    have he2 := loadE_one hR tt 0
    clear hok hRP hE hX hXl
    by_cases c1 : at_ ≤ tt
    · have e1 : IntKind.u64.wrap (tt - at_) = tt - at_ := by rw [IntKind.wrap_u64]; omega
      by_cases c2 : (tt - at_) / 256 < n
      · obtain ⟨a1, a2⟩ := hnew c1 c2
        rw [a1] at hv1 he1
        rw [a2] at hv2 he2
        have LV1 : Hid (loadV X tt 1 0 = 0) := hv1
        have LE1 : Hid (loadE X tt 1 0 = 0) := he1
        have LV2 : Hid (loadV M tt 1 0 = 0) := hv2
        have LE2 : Hid (loadE M tt 1 0 = 6) := he2
        have d1 : decide (at_ ≤ tt) = true := decide_eq_true c1
        have d2 : decide ((tt - at_) / 256 < n) = true := decide_eq_true c2
        clear hnew hold a1 a2 hv1 he1 hv2 he2 hR hRX
        have HB0 : Hid (Below w.heap.size w (w.alloc (.cells #[.slice AM M.length cM, .int .u64 at_, .int .i64 n, .int .i64 perm, .int .u64 tt] 84))) := (Below.refl _ _).alloc (Nat.le_refl _) _
        have MM_0 := Lib.hid (Mem.step HM.out.1 HB0.out)
        go_enter Try.func16, Try.ntmps16
        go_wp2_with fail
        refine (shown_any _).mono ?_
        rintro e w1 ⟨rfl, hb1⟩
        have HB1 := Lib.hid (HB0.out.trans (hb1.mono HB0.out.size))
        have MM_1 := Lib.hid (Mem.step MM_0.out hb1)
        clear hb1
        go_wp2_with fail
        refine (map_any at_ n perm hat MM_1.out HM.out.2.1 (Nat.le_refl _) HM.out.2.2.1 hlen).mono ?_
        rintro e w2 ⟨hb2, v, rfl, hv⟩
        rw [HE.out]
        rw [HX.out] at hv
        have HB2 := Lib.hid (HB1.out.trans (hb2.mono HB1.out.size))
        have MM_2 := Lib.hid (Mem.step MM_1.out hb2)
        clear hb2
        obtain ⟨AX, cX, rfl, hm, hn⟩ := hv
        have MX_2 := Lib.hid hm
        have NX := Lib.hid hn
        clear hm hn
        go_wp2_with fail
        refine (load_any tt 1 0 MX_2.out (Nat.le_refl _) HOX.out hXl2).mono ?_
        rintro e w3 ⟨rfl, hb3⟩
        rw [LV1.out, LE1.out]
        have HB3 := Lib.hid (HB2.out.trans (hb3.mono HB2.out.size))
        have MM_3 := Lib.hid (Mem.step MM_2.out hb3)
        have MX_3 := Lib.hid (Mem.step MX_2.out hb3)
        clear hb3
        go_wp2_with fail
        refine (load_any tt 1 0 MM_3.out (Nat.le_refl _) HM.out.2.2.1 hlen).mono ?_
        rintro e w4 ⟨rfl, hb4⟩
        rw [LV2.out, LE2.out]
        have HB4 := Lib.hid (HB3.out.trans (hb4.mono HB3.out.size))
        have MM_4 := Lib.hid (Mem.step MM_3.out hb4)
        have MX_4 := Lib.hid (Mem.step MX_3.out hb4)
        clear hb4
        go_wp2
        go_ret
        exact ⟨ret_bool (by simp), HB4.out⟩
      · have a1 := hold (fun h => c2 h.2)
        obtain ⟨U, hU⟩ : ∃ U, (byteAt M tt 0 0).getD 0 = U := ⟨_, rfl⟩
        obtain ⟨G, hG⟩ : ∃ G : Int, (if (byteAt M tt 0 0).isSome then 0 else 6) = G := ⟨_, rfl⟩
        rw [a1] at hv1 he1
        rw [hU] at hv1 hv2
        rw [hG] at he1 he2
        have LV1 : Hid (loadV X tt 1 0 = U) := hv1
        have LE1 : Hid (loadE X tt 1 0 = G) := he1
        have LV2 : Hid (loadV M tt 1 0 = U) := hv2
        have LE2 : Hid (loadE M tt 1 0 = G) := he2
        have d1 : decide (at_ ≤ tt) = true := decide_eq_true c1
        have d2 : decide ((tt - at_) / 256 < n) = false := decide_eq_false c2
        clear hnew hold a1 hv1 he1 hv2 he2 hR hRX hU hG
        have HB0 : Hid (Below w.heap.size w (w.alloc (.cells #[.slice AM M.length cM, .int .u64 at_, .int .i64 n, .int .i64 perm, .int .u64 tt] 84))) := (Below.refl _ _).alloc (Nat.le_refl _) _
        have MM_0 := Lib.hid (Mem.step HM.out.1 HB0.out)
        go_enter Try.func16, Try.ntmps16
        go_wp2_with fail
        refine (shown_any _).mono ?_
        rintro e w1 ⟨rfl, hb1⟩
        have HB1 := Lib.hid (HB0.out.trans (hb1.mono HB0.out.size))
        have MM_1 := Lib.hid (Mem.step MM_0.out hb1)
        clear hb1
        go_wp2_with fail
        refine (map_any at_ n perm hat MM_1.out HM.out.2.1 (Nat.le_refl _) HM.out.2.2.1 hlen).mono ?_
        rintro e w2 ⟨hb2, v, rfl, hv⟩
        rw [HE.out]
        rw [HX.out] at hv
        have HB2 := Lib.hid (HB1.out.trans (hb2.mono HB1.out.size))
        have MM_2 := Lib.hid (Mem.step MM_1.out hb2)
        clear hb2
        obtain ⟨AX, cX, rfl, hm, hn⟩ := hv
        have MX_2 := Lib.hid hm
        have NX := Lib.hid hn
        clear hm hn
        go_wp2_with fail
        refine (load_any tt 1 0 MX_2.out (Nat.le_refl _) HOX.out hXl2).mono ?_
        rintro e w3 ⟨rfl, hb3⟩
        rw [LV1.out, LE1.out]
        have HB3 := Lib.hid (HB2.out.trans (hb3.mono HB2.out.size))
        have MM_3 := Lib.hid (Mem.step MM_2.out hb3)
        have MX_3 := Lib.hid (Mem.step MX_2.out hb3)
        clear hb3
        go_wp2_with fail
        refine (load_any tt 1 0 MM_3.out (Nat.le_refl _) HM.out.2.2.1 hlen).mono ?_
        rintro e w4 ⟨rfl, hb4⟩
        rw [LV2.out, LE2.out]
        have HB4 := Lib.hid (HB3.out.trans (hb4.mono HB3.out.size))
        have MM_4 := Lib.hid (Mem.step MM_3.out hb4)
        have MX_4 := Lib.hid (Mem.step MX_3.out hb4)
        clear hb4
        go_wp2
        go_ret
        exact ⟨ret_bool (by simp), HB4.out⟩
    · have a1 := hold (fun h => c1 h.1)
      obtain ⟨U, hU⟩ : ∃ U, (byteAt M tt 0 0).getD 0 = U := ⟨_, rfl⟩
      obtain ⟨G, hG⟩ : ∃ G : Int, (if (byteAt M tt 0 0).isSome then 0 else 6) = G := ⟨_, rfl⟩
      rw [a1] at hv1 he1
      rw [hU] at hv1 hv2
      rw [hG] at he1 he2
      have LV1 : Hid (loadV X tt 1 0 = U) := hv1
      have LE1 : Hid (loadE X tt 1 0 = G) := he1
      have LV2 : Hid (loadV M tt 1 0 = U) := hv2
      have LE2 : Hid (loadE M tt 1 0 = G) := he2
      have d1 : decide (at_ ≤ tt) = false := decide_eq_false c1
      clear hnew hold a1 hv1 he1 hv2 he2 hR hRX hU hG
      have HB0 : Hid (Below w.heap.size w (w.alloc (.cells #[.slice AM M.length cM, .int .u64 at_, .int .i64 n, .int .i64 perm, .int .u64 tt] 84))) := (Below.refl _ _).alloc (Nat.le_refl _) _
      have MM_0 := Lib.hid (Mem.step HM.out.1 HB0.out)
      go_enter Try.func16, Try.ntmps16
      go_wp2_with fail
      refine (shown_any _).mono ?_
      rintro e w1 ⟨rfl, hb1⟩
      have HB1 := Lib.hid (HB0.out.trans (hb1.mono HB0.out.size))
      have MM_1 := Lib.hid (Mem.step MM_0.out hb1)
      clear hb1
      go_wp2_with fail
      refine (map_any at_ n perm hat MM_1.out HM.out.2.1 (Nat.le_refl _) HM.out.2.2.1 hlen).mono ?_
      rintro e w2 ⟨hb2, v, rfl, hv⟩
      rw [HE.out]
      rw [HX.out] at hv
      have HB2 := Lib.hid (HB1.out.trans (hb2.mono HB1.out.size))
      have MM_2 := Lib.hid (Mem.step MM_1.out hb2)
      clear hb2
      obtain ⟨AX, cX, rfl, hm, hn⟩ := hv
      have MX_2 := Lib.hid hm
      have NX := Lib.hid hn
      clear hm hn
      go_wp2_with fail
      refine (load_any tt 1 0 MX_2.out (Nat.le_refl _) HOX.out hXl2).mono ?_
      rintro e w3 ⟨rfl, hb3⟩
      rw [LV1.out, LE1.out]
      have HB3 := Lib.hid (HB2.out.trans (hb3.mono HB2.out.size))
      have MM_3 := Lib.hid (Mem.step MM_2.out hb3)
      have MX_3 := Lib.hid (Mem.step MX_2.out hb3)
      clear hb3
      go_wp2_with fail
      refine (load_any tt 1 0 MM_3.out (Nat.le_refl _) HM.out.2.2.1 hlen).mono ?_
      rintro e w4 ⟨rfl, hb4⟩
      rw [LV2.out, LE2.out]
      have HB4 := Lib.hid (HB3.out.trans (hb4.mono HB3.out.size))
      have MM_4 := Lib.hid (Mem.step MM_3.out hb4)
      have MX_4 := Lib.hid (Mem.step MX_3.out hb4)
      clear hb4
      go_wp2
      go_ret
      exact ⟨ret_bool (by simp), HB4.out⟩
  · have e1 : (E != 0) = true := by simpa using h0
    have hXM : X = M := by rw [← hX]; exact mapX_ne (by rw [hE]; exact h0)
    subst hXM
    have HXX : Hid (sameB X X = true) := decide_eq_true rfl
    clear hE h0 hX
    by_cases hbig : 64 < X.length
    · have b1 : decide (64 < (X.length : Int)) = true := decide_eq_true (by omega)
      have HB0 : Hid (Below w.heap.size w (w.alloc (.cells #[.slice AM X.length cM, .int .u64 at_, .int .i64 n, .int .i64 perm, .int .u64 tt] 84))) := (Below.refl _ _).alloc (Nat.le_refl _) _
      have MM_0 := Lib.hid (Mem.step HM.out.1 HB0.out)
      go_enter Try.func16, Try.ntmps16
      go_wp2_with fail
      refine (shown_any _).mono ?_
      rintro e w1 ⟨rfl, hb1⟩
      have HB1 := Lib.hid (HB0.out.trans (hb1.mono HB0.out.size))
      have MM_1 := Lib.hid (Mem.step MM_0.out hb1)
      clear hb1
      go_wp2_with fail
      refine (map_any at_ n perm hat MM_1.out HM.out.2.1 (Nat.le_refl _) HM.out.2.2.1 hlen).mono ?_
      rintro e w2 ⟨hb2, v, rfl, hv⟩
      rw [HE.out]
      rw [HX.out] at hv
      have HB2 := Lib.hid (HB1.out.trans (hb2.mono HB1.out.size))
      have MM_2 := Lib.hid (Mem.step MM_1.out hb2)
      clear hb2
      obtain ⟨AY, cY, rfl, hm, hn⟩ := hv
      have MY_2 := Lib.hid hm
      have NY := Lib.hid hn
      clear hm hn
      go_wp2
      go_ret
      exact ⟨rfl, HB2.out⟩
    · have b1 : decide (64 < (X.length : Int)) = false := decide_eq_false (by omega)
      have HB0 : Hid (Below w.heap.size w (w.alloc (.cells #[.slice AM X.length cM, .int .u64 at_, .int .i64 n, .int .i64 perm, .int .u64 tt] 84))) := (Below.refl _ _).alloc (Nat.le_refl _) _
      have MM_0 := Lib.hid (Mem.step HM.out.1 HB0.out)
      go_enter Try.func16, Try.ntmps16
      go_wp2_with fail
      refine (shown_any _).mono ?_
      rintro e w1 ⟨rfl, hb1⟩
      have HB1 := Lib.hid (HB0.out.trans (hb1.mono HB0.out.size))
      have MM_1 := Lib.hid (Mem.step MM_0.out hb1)
      clear hb1
      go_wp2_with fail
      refine (map_any at_ n perm hat MM_1.out HM.out.2.1 (Nat.le_refl _) HM.out.2.2.1 hlen).mono ?_
      rintro e w2 ⟨hb2, v, rfl, hv⟩
      rw [HE.out]
      rw [HX.out] at hv
      have HB2 := Lib.hid (HB1.out.trans (hb2.mono HB1.out.size))
      have MM_2 := Lib.hid (Mem.step MM_1.out hb2)
      clear hb2
      obtain ⟨AY, cY, rfl, hm, hn⟩ := hv
      have MY_2 := Lib.hid hm
      have NY := Lib.hid hn
      clear hm hn
      go_wp2_with fail
      refine (same_any MY_2.out MM_2.out (Nat.le_refl _) (Nat.le_refl _) hlen).mono ?_
      rintro e w3 ⟨rfl, hb3⟩
      rw [HXX.out]
      have HB3 := Lib.hid (HB2.out.trans (hb3.mono HB2.out.size))
      have MM_3 := Lib.hid (Mem.step MM_2.out hb3)
      have MY_3 := Lib.hid (Mem.step MY_2.out hb3)
      clear hb3
      go_wp2
      go_ret
      exact ⟨rfl, HB3.out⟩
end Go.Proofs.Ytclghfekmmcfjaa
