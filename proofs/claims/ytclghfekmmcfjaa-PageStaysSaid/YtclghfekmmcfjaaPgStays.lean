/- PageStays: right memory stays right, whatever is done with it: the walk. -/
import Derived.Test.YtclghfekmmcfjaaPgPl3
namespace Go.Proofs.Ytclghfekmmcfjaa
open Go.ChangeShapes Go.WideShapes Go.ChangeAt Go.RowKit Go.Deep Go.Maps Go.WideMaps
set_option maxRecDepth 100000

structure StaysD where
  M : Sl Pg
  at_ : Int
  n : Int
  perm : Int
  v : Int
  s : ByteArray
def StaysD.cells (x : StaysD) : List Value := [x.M.v, .int .u64 x.at_, .int .i64 x.n, .int .i64 x.perm, .int .u64 x.v, .string x.s]
theorem opens_StaysD {w : World} : Opens Try.prog w 52 StaysD.cells (fun x => MemG w x.M.a x.M.cap x.M.l ∧ (0 ≤ x.at_ ∧ x.at_ ≤ 18446744073709551615) ∧ (-9223372036854775808 ≤ x.n ∧ x.n ≤ 9223372036854775807) ∧ (-9223372036854775808 ≤ x.perm ∧ x.perm ≤ 9223372036854775807) ∧ (0 ≤ x.v ∧ x.v ≤ 18446744073709551615) ∧ x.s.size ≤ 140737488351232) := by
  intro H enc fuel cs y h hw
  obtain ⟨n, hl, hf⟩ := open_one Try.underlying52 (by kernel_rfl) (show Try.prog.cellsOf 52 = 6 by kernel_rfl) h hw
  match cs, hl with
  | [c0, c1, c2, c3, c4, c5], _ =>
    obtain ⟨v0, y0, e0, t0, w0⟩ := hf 0 _ rfl
    obtain ⟨v1, y1, e1, t1, w1⟩ := hf 1 _ rfl
    obtain ⟨v2, y2, e2, t2, w2⟩ := hf 2 _ rfl
    obtain ⟨v3, y3, e3, t3, w3⟩ := hf 3 _ rfl
    obtain ⟨v4, y4, e4, t4, w4⟩ := hf 4 _ rfl
    obtain ⟨v5, y5, e5, t5, w5⟩ := hf 5 _ rfl
    obtain ⟨x0, h0, g0⟩ := opens_mem enc _ _ _ t0 w0
    obtain ⟨x1, h1, g1⟩ := opens_int Try.underlying22 enc _ _ _ t1 w1
    obtain ⟨x2, h2, g2⟩ := opens_int Try.underlying3 enc _ _ _ t2 w2
    obtain ⟨x3, h3, g3⟩ := opens_int Try.underlying3 enc _ _ _ t3 w3
    obtain ⟨x4, h4, g4⟩ := opens_int Try.underlying22 enc _ _ _ t4 w4
    obtain ⟨x5, h5, g5⟩ := opens_string Try.underlying9 enc _ _ _ t5 w5
    simp only [List.getElem?_cons_zero, List.getElem?_cons_succ, Option.some.injEq, List.cons.injEq, and_true] at e0 e1 e2 e3 e4 e5 h0 h1 h2 h3 h4 h5
    subst e0 e1 e2 e3 e4 e5 h0 h1 h2 h3 h4 h5
    exact ⟨⟨x0, x1, x2, x3, x4, x5⟩, rfl, MemG.of g0, u64_bd g1, i64_bd g2, i64_bd g3, u64_bd g4, g5⟩
set_option maxHeartbeats 1000000 in
theorem stays_any {AM : Option Addr} {cM : Nat} {M : List Pg} {at_ n perm v : Int} {s : ByteArray} {w : World} (hM : MemG w AM cM M) (hat : 0 ≤ at_ ∧ at_ ≤ 18446744073709551615) (hs : s.size ≤ 140737488351232) :
    Calls Try.prog 9 #[.agg #[.slice AM M.length cM, .int .u64 at_, .int .i64 n, .int .i64 perm, .int .u64 v, .string s]] w fun e w' => e = .returned (.bool true) ∧ Below w.heap.size w w' := by
  have HM := Lib.hid hM
  have hlen := hM.2.2.2
  clear hM
  cases hR : rightB M
  · have HR := Lib.hid hR
    clear hR
    have HB0 : Hid (Below w.heap.size w (w.alloc (.cells #[.slice AM M.length cM, .int .u64 at_, .int .i64 n, .int .i64 perm, .int .u64 v, .string s] 52))) := (Below.refl _ _).alloc (Nat.le_refl _) _
    have MM_0 := Lib.hid (Mem.step HM.out.1 HB0.out)
    go_enter Try.func9, Try.ntmps9
    go_wp2_with fail
    refine (shown_any _).mono ?_
    rintro e w1 ⟨rfl, hb1⟩
    have HB1 := Lib.hid (HB0.out.trans (hb1.mono HB0.out.size))
    have MM_1 := Lib.hid (Mem.step MM_0.out hb1)
    clear hb1
    go_wp2_with fail
    refine (rright_any MM_1.out (Nat.le_refl _) HM.out.2.2.1).mono ?_
    rintro e w2 ⟨rfl, hb2⟩
    rw [HR.out]
    have HB2 := Lib.hid (HB1.out.trans (hb2.mono HB1.out.size))
    have MM_2 := Lib.hid (Mem.step MM_1.out hb2)
    clear hb2
    go_wp2
    go_ret
    exact ⟨rfl, HB2.out⟩
  · by_cases hbig : 1000 < s.size
    · have hb : 1000 < (s.size : Int) := by omega
      have HR := Lib.hid hR
      clear hR
      have HB0 : Hid (Below w.heap.size w (w.alloc (.cells #[.slice AM M.length cM, .int .u64 at_, .int .i64 n, .int .i64 perm, .int .u64 v, .string s] 52))) := (Below.refl _ _).alloc (Nat.le_refl _) _
      have MM_0 := Lib.hid (Mem.step HM.out.1 HB0.out)
      go_enter Try.func9, Try.ntmps9
      go_wp2_with fail
      refine (shown_any _).mono ?_
      rintro e w1 ⟨rfl, hb1⟩
      have HB1 := Lib.hid (HB0.out.trans (hb1.mono HB0.out.size))
      have MM_1 := Lib.hid (Mem.step MM_0.out hb1)
      clear hb1
      go_wp2_with fail
      refine (rright_any MM_1.out (Nat.le_refl _) HM.out.2.2.1).mono ?_
      rintro e w2 ⟨rfl, hb2⟩
      rw [HR.out]
      have HB2 := Lib.hid (HB1.out.trans (hb2.mono HB1.out.size))
      have MM_2 := Lib.hid (Mem.step MM_1.out hb2)
      clear hb2
      go_wp2
      go_ret
      exact ⟨rfl, HB2.out⟩
    · have hb : decide (1000 < (s.size : Int)) = false := decide_eq_false (by omega)
      have hRP := rightB_out hR
      obtain ⟨E, hE⟩ : ∃ E, mapE M at_ n perm = E := ⟨_, rfl⟩
      obtain ⟨X, hX⟩ : ∃ X, mapX M at_ n perm = X := ⟨_, rfl⟩
      obtain ⟨E2, hE2⟩ : ∃ E, loadE M at_ n 2 = E := ⟨_, rfl⟩
      obtain ⟨Y, hY⟩ : ∃ X, storeX M at_ n v = X := ⟨_, rfl⟩
      obtain ⟨E3, hE3⟩ : ∃ E, fillE M at_ s = E := ⟨_, rfl⟩
      obtain ⟨Z, hZ⟩ : ∃ Z, fillX M at_ s = Z := ⟨_, rfl⟩
      have HRX : Hid (rightB X = true) := by rw [← hX]; exact rightB_in (mapX_rightP hRP)
      have HRY : Hid (rightB Y = true) := by rw [← hY]; exact rightB_in (storeX_rightP hRP)
      have HRZ : Hid (rightB Z = true) := by rw [← hZ]; exact rightB_in (fillX_rightP hRP)
      have HOX : Hid (∀ p ∈ X, p.ok) := by rw [← hX]; exact mapX_okP HM.out.2.2.1 hat.1
      have HOY : Hid (∀ p ∈ Y, p.ok) := by rw [← hY]; exact storeX_okP HM.out.2.2.1
      have HOZ : Hid (∀ p ∈ Z, p.ok) := by rw [← hZ]; exact fillX_okP HM.out.2.2.1
      have hYl : Y.length = M.length := by rw [← hY, storeX_len]
      have hZl : Z.length = M.length := by rw [← hZ, fillX_len]
      have b1 : ((Y.length : Int) == (M.length : Int)) = true := by rw [hYl]; simp
      have b2 : ((Z.length : Int) == (M.length : Int)) = true := by rw [hZl]; simp
      have HR := Lib.hid hR
      have HE := Lib.hid hE
      have HE2 := Lib.hid hE2
      have HE3 := Lib.hid hE3
      have HX := Lib.hid hX
      have HY := Lib.hid hY
      have HZ := Lib.hid hZ
      clear hR hRP hE hE2 hE3 hX hY hZ hYl hZl
      have HB0 : Hid (Below w.heap.size w (w.alloc (.cells #[.slice AM M.length cM, .int .u64 at_, .int .i64 n, .int .i64 perm, .int .u64 v, .string s] 52))) := (Below.refl _ _).alloc (Nat.le_refl _) _
      have MM_0 := Lib.hid (Mem.step HM.out.1 HB0.out)
      go_enter Try.func9, Try.ntmps9
      go_wp2_with fail
      refine (shown_any _).mono ?_
      rintro e w1 ⟨rfl, hb1⟩
      have HB1 := Lib.hid (HB0.out.trans (hb1.mono HB0.out.size))
      have MM_1 := Lib.hid (Mem.step MM_0.out hb1)
      clear hb1
      go_wp2_with fail
      refine (rright_any MM_1.out (Nat.le_refl _) HM.out.2.2.1).mono ?_
      rintro e w2 ⟨rfl, hb2⟩
      rw [HR.out]
      have HB2 := Lib.hid (HB1.out.trans (hb2.mono HB1.out.size))
      have MM_2 := Lib.hid (Mem.step MM_1.out hb2)
      clear hb2
      go_wp2_with fail
      refine (map_any at_ n perm hat MM_2.out HM.out.2.1 (Nat.le_refl _) HM.out.2.2.1 hlen).mono ?_
      rintro e w3 ⟨hb3, v, rfl, hv⟩
      rw [HE.out]
      rw [HX.out] at hv
      have HB3 := Lib.hid (HB2.out.trans (hb3.mono HB2.out.size))
      have MM_3 := Lib.hid (Mem.step MM_2.out hb3)
      clear hb3
      obtain ⟨AX, cX, rfl, hm, hn⟩ := hv
      have MX_3 := Lib.hid hm
      have NX := Lib.hid hn
      clear hm hn
      go_wp2_with fail
      refine (store_any at_ n v hat MM_3.out HM.out.2.1 (Nat.le_refl _) HM.out.2.2.1 hlen).mono ?_
      rintro e w4 ⟨hb4, u, rfl, hv⟩
      rw [HE2.out]
      rw [HY.out] at hv
      have HB4 := Lib.hid (HB3.out.trans (hb4.mono HB3.out.size))
      have MM_4 := Lib.hid (Mem.step MM_3.out hb4)
      have MX_4 := Lib.hid (Mem.step MX_3.out hb4)
      clear hb4
      obtain ⟨AY, cY, rfl, hm, hn⟩ := hv
      have MY_4 := Lib.hid hm
      have NY := Lib.hid hn
      clear hm hn
      go_wp2_with fail
      refine (fill_any at_ s hat hs MM_4.out HM.out.2.1 (Nat.le_refl _) HM.out.2.2.1 hlen).mono ?_
      rintro e w5 ⟨hb5, u, rfl, hv⟩
      rw [HE3.out]
      rw [HZ.out] at hv
      have HB5 := Lib.hid (HB4.out.trans (hb5.mono HB4.out.size))
      have MM_5 := Lib.hid (Mem.step MM_4.out hb5)
      have MX_5 := Lib.hid (Mem.step MX_4.out hb5)
      have MY_5 := Lib.hid (Mem.step MY_4.out hb5)
      clear hb5
      obtain ⟨AZ, cZ, rfl, hm, hn⟩ := hv
      have MZ_5 := Lib.hid hm
      have NZ := Lib.hid hn
      clear hm hn
      go_wp2_with fail
      refine (rright_any MX_5.out (Nat.le_refl _) HOX.out).mono ?_
      rintro e w6 ⟨rfl, hb6⟩
      rw [HRX.out]
      have HB6 := Lib.hid (HB5.out.trans (hb6.mono HB5.out.size))
      have MM_6 := Lib.hid (Mem.step MM_5.out hb6)
      have MX_6 := Lib.hid (Mem.step MX_5.out hb6)
      have MY_6 := Lib.hid (Mem.step MY_5.out hb6)
      have MZ_6 := Lib.hid (Mem.step MZ_5.out hb6)
      clear hb6
      go_wp2_with fail
      refine (rright_any MY_6.out (Nat.le_refl _) HOY.out).mono ?_
      rintro e w7 ⟨rfl, hb7⟩
      rw [HRY.out]
      have HB7 := Lib.hid (HB6.out.trans (hb7.mono HB6.out.size))
      have MM_7 := Lib.hid (Mem.step MM_6.out hb7)
      have MX_7 := Lib.hid (Mem.step MX_6.out hb7)
      have MY_7 := Lib.hid (Mem.step MY_6.out hb7)
      have MZ_7 := Lib.hid (Mem.step MZ_6.out hb7)
      clear hb7
      go_wp2_with fail
      refine (rright_any MZ_7.out (Nat.le_refl _) HOZ.out).mono ?_
      rintro e w8 ⟨rfl, hb8⟩
      rw [HRZ.out]
      have HB8 := Lib.hid (HB7.out.trans (hb8.mono HB7.out.size))
      have MM_8 := Lib.hid (Mem.step MM_7.out hb8)
      have MX_8 := Lib.hid (Mem.step MX_7.out hb8)
      have MY_8 := Lib.hid (Mem.step MY_7.out hb8)
      have MZ_8 := Lib.hid (Mem.step MZ_7.out hb8)
      clear hb8
      go_wp2
      go_ret
      exact ⟨ret_bool (by simp), HB8.out⟩
end Go.Proofs.Ytclghfekmmcfjaa
