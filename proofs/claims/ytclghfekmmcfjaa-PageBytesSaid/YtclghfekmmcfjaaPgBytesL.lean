/- PageBytes: what is loaded of several bytes is, byte by byte, what is loaded of each: the walk. -/
import Derived.Test.YtclghfekmmcfjaaPgPl3
namespace Go.Proofs.Ytclghfekmmcfjaa
open Go.ChangeShapes Go.WideShapes Go.ChangeAt Go.RowKit Go.Deep Go.Maps Go.WideMaps
set_option maxRecDepth 100000

structure BytesD where
  M : Sl Pg
  at_ : Int
  n : Int
  perm : Int
def BytesD.cells (x : BytesD) : List Value := [x.M.v, .int .u64 x.at_, .int .i64 x.n, .int .i64 x.perm]
theorem opens_BytesD {w : World} : Opens Try.prog w 71 BytesD.cells (fun x => MemG w x.M.a x.M.cap x.M.l ∧ (0 ≤ x.at_ ∧ x.at_ ≤ 18446744073709551615) ∧ (-9223372036854775808 ≤ x.n ∧ x.n ≤ 9223372036854775807) ∧ (-9223372036854775808 ≤ x.perm ∧ x.perm ≤ 9223372036854775807)) := by
  intro H enc fuel cs y h hw
  obtain ⟨n, hl, hf⟩ := open_one Try.underlying71 (by kernel_rfl) (show Try.prog.cellsOf 71 = 4 by kernel_rfl) h hw
  match cs, hl with
  | [c0, c1, c2, c3], _ =>
    obtain ⟨v0, y0, e0, t0, w0⟩ := hf 0 _ rfl
    obtain ⟨v1, y1, e1, t1, w1⟩ := hf 1 _ rfl
    obtain ⟨v2, y2, e2, t2, w2⟩ := hf 2 _ rfl
    obtain ⟨v3, y3, e3, t3, w3⟩ := hf 3 _ rfl
    obtain ⟨x0, h0, g0⟩ := opens_mem enc _ _ _ t0 w0
    obtain ⟨x1, h1, g1⟩ := opens_int Try.underlying22 enc _ _ _ t1 w1
    obtain ⟨x2, h2, g2⟩ := opens_int Try.underlying3 enc _ _ _ t2 w2
    obtain ⟨x3, h3, g3⟩ := opens_int Try.underlying3 enc _ _ _ t3 w3
    simp only [List.getElem?_cons_zero, List.getElem?_cons_succ, Option.some.injEq, List.cons.injEq, and_true] at e0 e1 e2 e3 h0 h1 h2 h3
    subst e0 e1 e2 e3 h0 h1 h2 h3
    exact ⟨⟨x0, x1, x2, x3⟩, rfl, MemG.of g0, u64_bd g1, i64_bd g2, i64_bd g3⟩
set_option maxHeartbeats 1000000 in
theorem bytes_any {AM : Option Addr} {cM : Nat} {M : List Pg} {at_ n perm : Int} {w : World} (hM : MemG w AM cM M) :
    Calls Try.prog 12 #[.agg #[.slice AM M.length cM, .int .u64 at_, .int .i64 n, .int .i64 perm]] w fun e w' => e = .returned (.bool true) ∧ Below w.heap.size w w' := by
  have HM := Lib.hid hM
  have hlen := hM.2.2.2
  clear hM
  obtain ⟨V, hV⟩ : ∃ V, loadV M at_ n perm = V := ⟨_, rfl⟩
  obtain ⟨E, hE⟩ : ∃ E, loadE M at_ n perm = E := ⟨_, rfl⟩
  have HV := Lib.hid hV
  have HE := Lib.hid hE
  by_cases h0 : E = 0
  · subst h0
    obtain ⟨⟨⟨n1, n8⟩, hR⟩, hl⟩ := loadE_zero hE
    obtain ⟨N, rfl⟩ := Int.eq_ofNat_of_zero_le (show 0 ≤ n by omega)
    rw [Int.toNat_natCast] at hl
    have hl64 := (rightB_out hR).1
    have hVN : loadN M at_ perm N = some V := by
      have h1 := hV
      unfold loadV at h1
      rw [if_pos ⟨⟨n1, n8⟩, hR⟩, Int.toNat_natCast] at h1
      cases hx : loadN M at_ perm N with
      | none => rw [hx] at hl; cases hl
      | some x => rw [hx] at h1; rw [← h1]; rfl
    have hbd := loadN_bd hVN
    have b1 : decide (64 < (M.length : Int)) = false := decide_eq_false (by omega)
    have b2 : decide ((N : Int) < 1) = false := decide_eq_false (by omega)
    have b3 : decide (8 < (N : Int)) = false := decide_eq_false (by omega)
    have hdig : Hid (∀ k, k < N → loadV M (IntKind.u64.wrap (at_ + (k : Int))) 1 perm = V / 256 ^ k % 256 ∧ loadE M (IntKind.u64.wrap (at_ + (k : Int))) 1 perm = 0) := fun k hk => by
      have h1 := loadN_digit hVN k hk
      have h2 := byteAt_alone (l := M) (a := at_) (perm := perm) (k := k) (by rw [h1]; rfl)
      rw [loadV_one hR, loadE_one hR, h2, h1]
      exact ⟨rfl, rfl⟩
    have hV64 : V ≤ 18446744073709551615 := by
      have h1 : (256 : Int) ^ N ≤ 18446744073709551616 := by
        obtain ⟨m, rfl⟩ : ∃ m, N = m + 1 := ⟨N - 1, by omega⟩
        have := pow256_le (n := m) (by omega)
        rw [Int.pow_succ]; omega
      have := hbd.2
      omega
    have HBD := Lib.hid hbd
    clear hV hE hl hVN hR hbd
    have HB0 : Hid (Below w.heap.size w (w.alloc (.cells #[.slice AM M.length cM, .int .u64 at_, .int .i64 (N : Int), .int .i64 perm] 71))) := (Below.refl _ _).alloc (Nat.le_refl _) _
    have MM_0 := Lib.hid (Mem.step HM.out.1 HB0.out)
    go_enter Try.func12, Try.ntmps12
    go_wp2_with fail
    refine (shown_any _).mono ?_
    rintro e w1 ⟨rfl, hb1⟩
    have HB1 := Lib.hid (HB0.out.trans (hb1.mono HB0.out.size))
    have MM_1 := Lib.hid (Mem.step MM_0.out hb1)
    clear hb1
    go_wp2_with fail
    refine (load_any at_ N perm MM_1.out (Nat.le_refl _) HM.out.2.2.1 hlen).mono ?_
    rintro e w2 ⟨rfl, hb2⟩
    rw [HV.out, HE.out]
    have HB2 := Lib.hid (HB1.out.trans (hb2.mono HB1.out.size))
    have MM_2 := Lib.hid (Mem.step MM_1.out hb2)
    clear hb2
    go_wp2
    clear b1 b2 b3
    go_loopw [8, 10] (fun v i wr => ∃ k : Nat, ∃ V1 : Int, k ≤ N ∧ i = .int .i64 k ∧ v = .int .u64 V1 ∧ Hid (V1 = V / 256 ^ k) ∧ (0 ≤ V1 ∧ V1 ≤ 18446744073709551615) ∧ Below w.heap.size w wr ∧ Hid (Mem wr wr.heap.size AM cM M)) (fun _ i _ => N - (intOf i).toNat)
    case atStart => exact ⟨0, V, Nat.zero_le _, rfl, rfl, by show _ = _; simp, ⟨HBD.out.1, hV64⟩, HB2.out, MM_2.out⟩
    case round =>
      obtain ⟨k, V1, hk, rfl, rfl, hv1, hv0, hbw, hmw⟩ := hrel
      by_cases hlt : k < N
      · have hd := hdig.out k hlt
        rw [← hv1.out] at hd
        obtain ⟨T, hT⟩ : ∃ T, IntKind.u64.wrap (at_ + (k : Int)) = T := ⟨_, rfl⟩
        rw [hT] at hd
        have HD := Lib.hid hd
        have hst : Hid (V1 / 256 = V / 256 ^ (k + 1)) := by
          show _ = _
          rw [hv1.out, Int.pow_succ, Int.ediv_ediv_of_nonneg (by have := pow256_pos k; omega)]
        have hv2 : 0 ≤ V1 / 256 ∧ V1 / 256 ≤ 18446744073709551615 := by omega
        have ht : V1.tdiv 256 = V1 / 256 := Int.tdiv_eq_ediv_of_nonneg hv0.1
        have hw8 : IntKind.u64.wrap (V1 / 256) = V1 / 256 := by rw [IntKind.wrap_u64]; omega
        clear hd
        go_wp2_with fail
        refine (load_any T 1 perm hmw.out (Nat.le_refl _) HM.out.2.2.1 hlen).mono ?_
        rintro e w4 ⟨rfl, hb4⟩
        rw [HD.out.1, HD.out.2]
        have H4 := hbw.trans (hb4.mono hbw.size)
        have M4 := Mem.step hmw.out hb4
        clear hT
        go_wp2
        exact ⟨⟨k + 1, V1 / 256, hlt, by go_num, rfl, hst, hv2, H4, M4⟩, by simp [intOf]; omega⟩
      · obtain rfl : k = N := by omega
        have hz : V1 = 0 := by rw [hv1.out]; exact Int.ediv_eq_zero_of_lt HBD.out.1 HBD.out.2
        subst hz
        go_wp2
        go_ret
        exact ⟨rfl, hbw⟩
  · have e1 : (E != 0) = true := by simpa using h0
    clear hV hE h0
    by_cases hbig : 64 < M.length
    · have b1 : decide (64 < (M.length : Int)) = true := decide_eq_true (by omega)
      have HB0 : Hid (Below w.heap.size w (w.alloc (.cells #[.slice AM M.length cM, .int .u64 at_, .int .i64 n, .int .i64 perm] 71))) := (Below.refl _ _).alloc (Nat.le_refl _) _
      have MM_0 := Lib.hid (Mem.step HM.out.1 HB0.out)
      go_enter Try.func12, Try.ntmps12
      go_wp2_with fail
      refine (shown_any _).mono ?_
      rintro e w1 ⟨rfl, hb1⟩
      have HB1 := Lib.hid (HB0.out.trans (hb1.mono HB0.out.size))
      have MM_1 := Lib.hid (Mem.step MM_0.out hb1)
      clear hb1
      go_wp2_with fail
      refine (load_any at_ n perm MM_1.out (Nat.le_refl _) HM.out.2.2.1 hlen).mono ?_
      rintro e w2 ⟨rfl, hb2⟩
      rw [HV.out, HE.out]
      have HB2 := Lib.hid (HB1.out.trans (hb2.mono HB1.out.size))
      have MM_2 := Lib.hid (Mem.step MM_1.out hb2)
      clear hb2
      go_wp2
      go_ret
      exact ⟨rfl, HB2.out⟩
    · have b1 : decide (64 < (M.length : Int)) = false := decide_eq_false (by omega)
      have HB0 : Hid (Below w.heap.size w (w.alloc (.cells #[.slice AM M.length cM, .int .u64 at_, .int .i64 n, .int .i64 perm] 71))) := (Below.refl _ _).alloc (Nat.le_refl _) _
      have MM_0 := Lib.hid (Mem.step HM.out.1 HB0.out)
      go_enter Try.func12, Try.ntmps12
      go_wp2_with fail
      refine (shown_any _).mono ?_
      rintro e w1 ⟨rfl, hb1⟩
      have HB1 := Lib.hid (HB0.out.trans (hb1.mono HB0.out.size))
      have MM_1 := Lib.hid (Mem.step MM_0.out hb1)
      clear hb1
      go_wp2_with fail
      refine (load_any at_ n perm MM_1.out (Nat.le_refl _) HM.out.2.2.1 hlen).mono ?_
      rintro e w2 ⟨rfl, hb2⟩
      rw [HV.out, HE.out]
      have HB2 := Lib.hid (HB1.out.trans (hb2.mono HB1.out.size))
      have MM_2 := Lib.hid (Mem.step MM_1.out hb2)
      clear hb2
      go_wp2
      go_ret
      exact ⟨rfl, HB2.out⟩
end Go.Proofs.Ytclghfekmmcfjaa
