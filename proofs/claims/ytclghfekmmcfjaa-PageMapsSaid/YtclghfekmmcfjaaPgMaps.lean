/- PageMaps: whether memory is right, and memory with more pages, is as the document says: the walk. -/
import Derived.Test.YtclghfekmmcfjaaPgPl3
namespace Go.Proofs.Ytclghfekmmcfjaa
open Go.ChangeShapes Go.WideShapes Go.ChangeAt Go.RowKit Go.Deep Go.Maps Go.WideMaps
set_option maxRecDepth 100000

structure MapsD where
  M : Sl Pg
  at_ : Int
  n : Int
  perm : Int
  other : Sl Pg
def MapsD.cells (x : MapsD) : List Value := [x.M.v, .int .u64 x.at_, .int .i64 x.n, .int .i64 x.perm, x.other.v]
theorem opens_MapsD {w : World} : Opens Try.prog w 60 MapsD.cells (fun x => MemG w x.M.a x.M.cap x.M.l ∧ (0 ≤ x.at_ ∧ x.at_ ≤ 18446744073709551615) ∧ (-9223372036854775808 ≤ x.n ∧ x.n ≤ 9223372036854775807) ∧ (-9223372036854775808 ≤ x.perm ∧ x.perm ≤ 9223372036854775807) ∧ MemG w x.other.a x.other.cap x.other.l) := by
  intro H enc fuel cs y h hw
  obtain ⟨n, hl, hf⟩ := open_one Try.underlying60 (by kernel_rfl) (show Try.prog.cellsOf 60 = 5 by kernel_rfl) h hw
  match cs, hl with
  | [c0, c1, c2, c3, c4], _ =>
    obtain ⟨v0, y0, e0, t0, w0⟩ := hf 0 _ rfl
    obtain ⟨v1, y1, e1, t1, w1⟩ := hf 1 _ rfl
    obtain ⟨v2, y2, e2, t2, w2⟩ := hf 2 _ rfl
    obtain ⟨v3, y3, e3, t3, w3⟩ := hf 3 _ rfl
    obtain ⟨v4, y4, e4, t4, w4⟩ := hf 4 _ rfl
    obtain ⟨x0, h0, g0⟩ := opens_mem enc _ _ _ t0 w0
    obtain ⟨x1, h1, g1⟩ := opens_int Try.underlying22 enc _ _ _ t1 w1
    obtain ⟨x2, h2, g2⟩ := opens_int Try.underlying3 enc _ _ _ t2 w2
    obtain ⟨x3, h3, g3⟩ := opens_int Try.underlying3 enc _ _ _ t3 w3
    obtain ⟨x4, h4, g4⟩ := opens_mem enc _ _ _ t4 w4
    simp only [List.getElem?_cons_zero, List.getElem?_cons_succ, Option.some.injEq, List.cons.injEq, and_true] at e0 e1 e2 e3 e4 h0 h1 h2 h3 h4
    subst e0 e1 e2 e3 e4 h0 h1 h2 h3 h4
    exact ⟨⟨x0, x1, x2, x3, x4⟩, rfl, MemG.of g0, u64_bd g1, i64_bd g2, i64_bd g3, MemG.of g4⟩
set_option maxHeartbeats 1000000 in
theorem maps_any {AM AO : Option Addr} {cM cO : Nat} {M O : List Pg} {at_ n perm : Int} {w : World} (hM : MemG w AM cM M) (hO : MemG w AO cO O) (hat : 0 ≤ at_ ∧ at_ ≤ 18446744073709551615) :
    Calls Try.prog 10 #[.agg #[.slice AM M.length cM, .int .u64 at_, .int .i64 n, .int .i64 perm, .slice AO O.length cO]] w fun e w' => e = .returned (.bool true) ∧ Below w.heap.size w w' := by
  have HM := Lib.hid hM
  have HO := Lib.hid hO
  have hlen := hM.2.2.2
  have hlenO := hO.2.2.2
  clear hM hO
  by_cases hbig : 200 < M.length
  · have hb : 200 < (M.length : Int) := by omega
    have HB0 : Hid (Below w.heap.size w (w.alloc (.cells #[.slice AM M.length cM, .int .u64 at_, .int .i64 n, .int .i64 perm, .slice AO O.length cO] 60))) := (Below.refl _ _).alloc (Nat.le_refl _) _
    go_enter Try.func10, Try.ntmps10
    go_wp2_with fail
    refine (shown_any _).mono ?_
    rintro e w1 ⟨rfl, hb1⟩
    have HB1 := Lib.hid (HB0.out.trans (hb1.mono HB0.out.size))
    clear hb1
    go_wp2
    go_ret
    exact ⟨rfl, HB1.out⟩
  · obtain ⟨E, hE⟩ : ∃ E, mapE M at_ n perm = E := ⟨_, rfl⟩
    obtain ⟨X, hX⟩ : ∃ X, mapX M at_ n perm = X := ⟨_, rfl⟩
    obtain ⟨R, hR⟩ : ∃ R, rightB M = R := ⟨_, rfl⟩
    obtain ⟨S, hS⟩ : ∃ S, sameB M O = S := ⟨_, rfl⟩
    have hXl : X.length ≤ 140737488351232 := by
      rw [← hX]
      by_cases h0 : mapE M at_ n perm = 0
      · have := mapX_lenE h0
        have := (mapE_zero h0).2.2
        have := (mapE_zero h0).1.2.2.1
        omega
      · rw [mapX_ne h0]; exact hlen
    have HE := Lib.hid hE
    have HX := Lib.hid hX
    have HR := Lib.hid hR
    have HS := Lib.hid hS
    have HXX : Hid (sameB X X = true) := decide_eq_true rfl
    clear hE hX hR hS
    have HB0 : Hid (Below w.heap.size w (w.alloc (.cells #[.slice AM M.length cM, .int .u64 at_, .int .i64 n, .int .i64 perm, .slice AO O.length cO] 60))) := (Below.refl _ _).alloc (Nat.le_refl _) _
    have MM_0 := Lib.hid (Mem.step HM.out.1 HB0.out)
    have MO_0 := Lib.hid (Mem.step HO.out.1 HB0.out)
    go_enter Try.func10, Try.ntmps10
    go_wp2_with fail
    refine (shown_any _).mono ?_
    rintro e w1 ⟨rfl, hb1⟩
    have HB1 := Lib.hid (HB0.out.trans (hb1.mono HB0.out.size))
    have MM_1 := Lib.hid (Mem.step MM_0.out hb1)
    have MO_1 := Lib.hid (Mem.step MO_0.out hb1)
    clear hb1
    go_wp2_with fail
    refine (map_any at_ n perm hat MM_1.out HM.out.2.1 (Nat.le_refl _) HM.out.2.2.1 hlen).mono ?_
    rintro e w2 ⟨hb2, v, rfl, hv⟩
    rw [HE.out]
    rw [HX.out] at hv
    have HB2 := Lib.hid (HB1.out.trans (hb2.mono HB1.out.size))
    have MM_2 := Lib.hid (Mem.step MM_1.out hb2)
    have MO_2 := Lib.hid (Mem.step MO_1.out hb2)
    clear hb2
    obtain ⟨AX, cX, rfl, hm, hn⟩ := hv
    have MX_2 := Lib.hid hm
    have NX := Lib.hid hn
    clear hm hn
    go_wp2_with fail
    refine (rmap_any at_ n perm hat MM_2.out HM.out.2.1 (Nat.le_refl _) HM.out.2.2.1).mono ?_
    rintro e w3 ⟨hb3, v, rfl, hv⟩
    rw [HE.out]
    rw [HX.out] at hv
    have HB3 := Lib.hid (HB2.out.trans (hb3.mono HB2.out.size))
    have MM_3 := Lib.hid (Mem.step MM_2.out hb3)
    have MO_3 := Lib.hid (Mem.step MO_2.out hb3)
    have MX_3 := Lib.hid (Mem.step MX_2.out hb3)
    clear hb3
    obtain ⟨AY, cY, rfl, hm, hn⟩ := hv
    have MY_3 := Lib.hid hm
    have NY := Lib.hid hn
    clear hm hn
    go_wp2_with fail
    refine (rsame_any MX_3.out MY_3.out (Nat.le_refl _) (Nat.le_refl _) hXl).mono ?_
    rintro e w4 ⟨rfl, hb4⟩
    rw [HXX.out]
    have HB4 := Lib.hid (HB3.out.trans (hb4.mono HB3.out.size))
    have MM_4 := Lib.hid (Mem.step MM_3.out hb4)
    have MO_4 := Lib.hid (Mem.step MO_3.out hb4)
    have MX_4 := Lib.hid (Mem.step MX_3.out hb4)
    have MY_4 := Lib.hid (Mem.step MY_3.out hb4)
    clear hb4
    go_wp2_with fail
    refine (right_any MM_4.out (Nat.le_refl _) HM.out.2.2.1 hlen).mono ?_
    rintro e w5 ⟨rfl, hb5⟩
    rw [HR.out]
    have HB5 := Lib.hid (HB4.out.trans (hb5.mono HB4.out.size))
    have MM_5 := Lib.hid (Mem.step MM_4.out hb5)
    have MO_5 := Lib.hid (Mem.step MO_4.out hb5)
    clear hb5
    go_wp2_with fail
    refine (rright_any MM_5.out (Nat.le_refl _) HM.out.2.2.1).mono ?_
    rintro e w6 ⟨rfl, hb6⟩
    rw [HR.out]
    have HB6 := Lib.hid (HB5.out.trans (hb6.mono HB5.out.size))
    have MM_6 := Lib.hid (Mem.step MM_5.out hb6)
    have MO_6 := Lib.hid (Mem.step MO_5.out hb6)
    clear hb6
    go_wp2_with fail
    refine (same_any MM_6.out MO_6.out (Nat.le_refl _) (Nat.le_refl _) hlen).mono ?_
    rintro e w7 ⟨rfl, hb7⟩
    rw [HS.out]
    have HB7 := Lib.hid (HB6.out.trans (hb7.mono HB6.out.size))
    have MM_7 := Lib.hid (Mem.step MM_6.out hb7)
    have MO_7 := Lib.hid (Mem.step MO_6.out hb7)
    clear hb7
    go_wp2_with fail
    refine (rsame_any MM_7.out MO_7.out (Nat.le_refl _) (Nat.le_refl _) hlen).mono ?_
    rintro e w8 ⟨rfl, hb8⟩
    rw [HS.out]
    have HB8 := Lib.hid (HB7.out.trans (hb8.mono HB7.out.size))
    have MM_8 := Lib.hid (Mem.step MM_7.out hb8)
    have MO_8 := Lib.hid (Mem.step MO_7.out hb8)
    clear hb8
    go_wp2
    go_ret
    exact ⟨ret_bool (by simp), HB8.out⟩
end Go.Proofs.Ytclghfekmmcfjaa
