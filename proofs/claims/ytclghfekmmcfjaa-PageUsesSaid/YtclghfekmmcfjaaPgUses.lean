/- PageUses: what is loaded, stored and filled in is as the document says: the walk. -/
import Derived.Test.YtclghfekmmcfjaaPgPl3
namespace Go.Proofs.Ytclghfekmmcfjaa
open Go.ChangeShapes Go.WideShapes Go.ChangeAt Go.RowKit Go.Deep Go.Maps Go.WideMaps
set_option maxRecDepth 100000

structure UsesD where
  M : Sl Pg
  at_ : Int
  n : Int
  perm : Int
  v : Int
  s : ByteArray
def UsesD.cells (x : UsesD) : List Value := [x.M.v, .int .u64 x.at_, .int .i64 x.n, .int .i64 x.perm, .int .u64 x.v, .string x.s]
theorem opens_UsesD {w : World} : Opens Try.prog w 76 UsesD.cells (fun x => MemG w x.M.a x.M.cap x.M.l ∧ (0 ≤ x.at_ ∧ x.at_ ≤ 18446744073709551615) ∧ (-9223372036854775808 ≤ x.n ∧ x.n ≤ 9223372036854775807) ∧ (-9223372036854775808 ≤ x.perm ∧ x.perm ≤ 9223372036854775807) ∧ (0 ≤ x.v ∧ x.v ≤ 18446744073709551615) ∧ x.s.size ≤ 140737488351232) := by
  intro H enc fuel cs y h hw
  obtain ⟨n, hl, hf⟩ := open_one Try.underlying76 (by kernel_rfl) (show Try.prog.cellsOf 76 = 6 by kernel_rfl) h hw
  match cs, hl with
  | [c0, c1, c2, c3, c4, c5], _ =>
    obtain ⟨v0, y0, e0, t0, w0⟩ := hf 0 _ rfl
    obtain ⟨v1, y1, e1, t1, w1⟩ := hf 1 _ rfl
    obtain ⟨v2, y2, e2, t2, w2⟩ := hf 2 _ rfl
    obtain ⟨v3, y3, e3, t3, w3⟩ := hf 3 _ rfl
    obtain ⟨v4, y4, e4, t4, w4⟩ := hf 4 _ rfl
    obtain ⟨v5, y5, e5, t5, w5⟩ := hf 5 _ rfl
    obtain ⟨x0, h0, g0⟩ := opens_mem enc _ _ _ t0 w0
    obtain ⟨x1, h1, g1⟩ := opens_int Try.underlying22 enc _ _ _ t1 w1
    obtain ⟨x2, h2, g2⟩ := opens_int Try.underlying3 enc _ _ _ t2 w2
    obtain ⟨x3, h3, g3⟩ := opens_int Try.underlying3 enc _ _ _ t3 w3
    obtain ⟨x4, h4, g4⟩ := opens_int Try.underlying22 enc _ _ _ t4 w4
    obtain ⟨x5, h5, g5⟩ := opens_string Try.underlying9 enc _ _ _ t5 w5
    simp only [List.getElem?_cons_zero, List.getElem?_cons_succ, Option.some.injEq, List.cons.injEq, and_true] at e0 e1 e2 e3 e4 e5 h0 h1 h2 h3 h4 h5
    subst e0 e1 e2 e3 e4 e5 h0 h1 h2 h3 h4 h5
    exact ⟨⟨x0, x1, x2, x3, x4, x5⟩, rfl, MemG.of g0, u64_bd g1, i64_bd g2, i64_bd g3, u64_bd g4, g5⟩
set_option maxHeartbeats 1000000 in
theorem uses_any {AM : Option Addr} {cM : Nat} {M : List Pg} {at_ n perm v : Int} {s : ByteArray} {w : World} (hM : MemG w AM cM M) (hat : 0 ≤ at_ ∧ at_ ≤ 18446744073709551615) (hn : -9223372036854775808 ≤ n ∧ n ≤ 9223372036854775807) (hvb : 0 ≤ v ∧ v ≤ 18446744073709551615) (hs : s.size ≤ 140737488351232) :
    Calls Try.prog 14 #[.agg #[.slice AM M.length cM, .int .u64 at_, .int .i64 n, .int .i64 perm, .int .u64 v, .string s]] w fun e w' => e = .returned (.bool true) ∧ Below w.heap.size w w' := by
  have HM := Lib.hid hM
  have hlen := hM.2.2.2
  clear hM
  by_cases hbig : 200 < M.length
  · have hb : 200 < (M.length : Int) := by omega
    have HB0 : Hid (Below w.heap.size w (w.alloc (.cells #[.slice AM M.length cM, .int .u64 at_, .int .i64 n, .int .i64 perm, .int .u64 v, .string s] 76))) := (Below.refl _ _).alloc (Nat.le_refl _) _
    go_enter Try.func14, Try.ntmps14
    go_wp2_with fail
    refine (shown_any _).mono ?_
    rintro e w1 ⟨rfl, hb1⟩
    have HB1 := Lib.hid (HB0.out.trans (hb1.mono HB0.out.size))
    clear hb1
    go_wp2
    go_ret
    exact ⟨rfl, HB1.out⟩
  · by_cases hbig2 : 1000 < s.size
    · have hb : decide (200 < (M.length : Int)) = false := decide_eq_false (by omega)
      have hb2 : 1000 < (s.size : Int) := by omega
      have HB0 : Hid (Below w.heap.size w (w.alloc (.cells #[.slice AM M.length cM, .int .u64 at_, .int .i64 n, .int .i64 perm, .int .u64 v, .string s] 76))) := (Below.refl _ _).alloc (Nat.le_refl _) _
      go_enter Try.func14, Try.ntmps14
      go_wp2_with fail
      refine (shown_any _).mono ?_
      rintro e w1 ⟨rfl, hb1⟩
      have HB1 := Lib.hid (HB0.out.trans (hb1.mono HB0.out.size))
      clear hb1
      go_wp2
      go_ret
      exact ⟨rfl, HB1.out⟩
    · have hb : decide (200 < (M.length : Int)) = false := decide_eq_false (by omega)
      have hb2 : decide (1000 < (s.size : Int)) = false := decide_eq_false (by omega)
      obtain ⟨V, hV⟩ : ∃ V, loadV M at_ n perm = V := ⟨_, rfl⟩
      obtain ⟨E, hE⟩ : ∃ E, loadE M at_ n perm = E := ⟨_, rfl⟩
      obtain ⟨E2, hE2⟩ : ∃ E, loadE M at_ n 2 = E := ⟨_, rfl⟩
      obtain ⟨X, hX⟩ : ∃ X, storeX M at_ n v = X := ⟨_, rfl⟩
      obtain ⟨E3, hE3⟩ : ∃ E, fillE M at_ s = E := ⟨_, rfl⟩
      obtain ⟨Z, hZ⟩ : ∃ Z, fillX M at_ s = Z := ⟨_, rfl⟩
      have hXl : X.length ≤ 140737488351232 := by rw [← hX, storeX_len]; exact hlen
      have hZl : Z.length ≤ 140737488351232 := by rw [← hZ, fillX_len]; exact hlen
      have HV := Lib.hid hV
      have HE := Lib.hid hE
      have HE2 := Lib.hid hE2
      have HE3 := Lib.hid hE3
      have HX := Lib.hid hX
      have HZ := Lib.hid hZ
      have HXX : Hid (sameB X X = true) := decide_eq_true rfl
      have HZZ : Hid (sameB Z Z = true) := decide_eq_true rfl
      clear hV hE hE2 hE3 hX hZ
      have HB0 : Hid (Below w.heap.size w (w.alloc (.cells #[.slice AM M.length cM, .int .u64 at_, .int .i64 n, .int .i64 perm, .int .u64 v, .string s] 76))) := (Below.refl _ _).alloc (Nat.le_refl _) _
      have MM_0 := Lib.hid (Mem.step HM.out.1 HB0.out)
      go_enter Try.func14, Try.ntmps14
      go_wp2_with fail
      refine (shown_any _).mono ?_
      rintro e w1 ⟨rfl, hb1⟩
      have HB1 := Lib.hid (HB0.out.trans (hb1.mono HB0.out.size))
      have MM_1 := Lib.hid (Mem.step MM_0.out hb1)
      clear hb1
      go_wp2_with fail
      refine (load_any at_ n perm MM_1.out (Nat.le_refl _) HM.out.2.2.1 hlen).mono ?_
      rintro e w2 ⟨rfl, hb2⟩
      rw [HV.out, HE.out]
      have HB2 := Lib.hid (HB1.out.trans (hb2.mono HB1.out.size))
      have MM_2 := Lib.hid (Mem.step MM_1.out hb2)
      clear hb2
      go_wp2_with fail
      refine (rload_any at_ n perm hat hn MM_2.out (Nat.le_refl _) HM.out.2.2.1 hlen).mono ?_
      rintro e w3 ⟨rfl, hb3⟩
      rw [HV.out, HE.out]
      have HB3 := Lib.hid (HB2.out.trans (hb3.mono HB2.out.size))
      have MM_3 := Lib.hid (Mem.step MM_2.out hb3)
      clear hb3
      go_wp2_with fail
      refine (store_any at_ n v hat MM_3.out HM.out.2.1 (Nat.le_refl _) HM.out.2.2.1 hlen).mono ?_
      rintro e w4 ⟨hb4, u, rfl, hv⟩
      rw [HE2.out]
      rw [HX.out] at hv
      have HB4 := Lib.hid (HB3.out.trans (hb4.mono HB3.out.size))
      have MM_4 := Lib.hid (Mem.step MM_3.out hb4)
      clear hb4
      obtain ⟨AX, cX, rfl, hm, hn⟩ := hv
      have MX_4 := Lib.hid hm
      have NX := Lib.hid hn
      clear hm hn
      go_wp2_with fail
      refine (rstore_any at_ n v hat hvb MM_4.out HM.out.2.1 (Nat.le_refl _) HM.out.2.2.1 hlen).mono ?_
      rintro e w5 ⟨hb5, u, rfl, hv⟩
      rw [HE2.out]
      rw [HX.out] at hv
      have HB5 := Lib.hid (HB4.out.trans (hb5.mono HB4.out.size))
      have MM_5 := Lib.hid (Mem.step MM_4.out hb5)
      have MX_5 := Lib.hid (Mem.step MX_4.out hb5)
      clear hb5
      obtain ⟨AY, cY, rfl, hm, hn⟩ := hv
      have MY_5 := Lib.hid hm
      have NY := Lib.hid hn
      clear hm hn
      go_wp2_with fail
      refine (fill_any at_ s hat hs MM_5.out HM.out.2.1 (Nat.le_refl _) HM.out.2.2.1 hlen).mono ?_
      rintro e w6 ⟨hb6, u, rfl, hv⟩
      rw [HE3.out]
      rw [HZ.out] at hv
      have HB6 := Lib.hid (HB5.out.trans (hb6.mono HB5.out.size))
      have MM_6 := Lib.hid (Mem.step MM_5.out hb6)
      have MX_6 := Lib.hid (Mem.step MX_5.out hb6)
      have MY_6 := Lib.hid (Mem.step MY_5.out hb6)
      clear hb6
      obtain ⟨AZ, cZ, rfl, hm, hn⟩ := hv
      have MZ_6 := Lib.hid hm
      have NZ := Lib.hid hn
      clear hm hn
      go_wp2_with fail
      refine (rfill_any at_ s hat hs MM_6.out HM.out.2.1 (Nat.le_refl _) HM.out.2.2.1).mono ?_
      rintro e w7 ⟨hb7, u, rfl, hv⟩
      rw [HE3.out]
      rw [HZ.out] at hv
      have HB7 := Lib.hid (HB6.out.trans (hb7.mono HB6.out.size))
      have MM_7 := Lib.hid (Mem.step MM_6.out hb7)
      have MX_7 := Lib.hid (Mem.step MX_6.out hb7)
      have MY_7 := Lib.hid (Mem.step MY_6.out hb7)
      have MZ_7 := Lib.hid (Mem.step MZ_6.out hb7)
      clear hb7
      obtain ⟨AT, cT, rfl, hm, hn⟩ := hv
      have MT_7 := Lib.hid hm
      have NT := Lib.hid hn
      clear hm hn
      go_wp2_with fail
      refine (rsame_any MX_7.out MY_7.out (Nat.le_refl _) (Nat.le_refl _) hXl).mono ?_
      rintro e w8 ⟨rfl, hb8⟩
      rw [HXX.out]
      have HB8 := Lib.hid (HB7.out.trans (hb8.mono HB7.out.size))
      have MM_8 := Lib.hid (Mem.step MM_7.out hb8)
      have MX_8 := Lib.hid (Mem.step MX_7.out hb8)
      have MY_8 := Lib.hid (Mem.step MY_7.out hb8)
      have MZ_8 := Lib.hid (Mem.step MZ_7.out hb8)
      have MT_8 := Lib.hid (Mem.step MT_7.out hb8)
      clear hb8
      go_wp2_with fail
      refine (rsame_any MZ_8.out MT_8.out (Nat.le_refl _) (Nat.le_refl _) hZl).mono ?_
      rintro e w9 ⟨rfl, hb9⟩
      rw [HZZ.out]
      have HB9 := Lib.hid (HB8.out.trans (hb9.mono HB8.out.size))
      have MM_9 := Lib.hid (Mem.step MM_8.out hb9)
      have MX_9 := Lib.hid (Mem.step MX_8.out hb9)
      have MY_9 := Lib.hid (Mem.step MY_8.out hb9)
      have MZ_9 := Lib.hid (Mem.step MZ_8.out hb9)
      have MT_9 := Lib.hid (Mem.step MT_8.out hb9)
      clear hb9
      go_wp2
      go_ret
      exact ⟨ret_bool (by simp), HB9.out⟩
end Go.Proofs.Ytclghfekmmcfjaa
