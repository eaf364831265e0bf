/- PageFills: what was filled in is there, byte by byte, and nothing else changed where it isn't: the walk. -/
import Derived.Test.YtclghfekmmcfjaaPgPl3
namespace Go.Proofs.Ytclghfekmmcfjaa
open Go.ChangeShapes Go.WideShapes Go.ChangeAt Go.RowKit Go.Deep Go.Maps Go.WideMaps
set_option maxRecDepth 100000

structure FillsD where
  M : Sl Pg
  at_ : Int
  s : ByteArray
  i : Int
  other : Int
def FillsD.cells (x : FillsD) : List Value := [x.M.v, .int .u64 x.at_, .string x.s, .int .i64 x.i, .int .u64 x.other]
theorem opens_FillsD {w : World} : Opens Try.prog w 74 FillsD.cells (fun x => MemG w x.M.a x.M.cap x.M.l ∧ (0 ≤ x.at_ ∧ x.at_ ≤ 18446744073709551615) ∧ x.s.size ≤ 140737488351232 ∧ (-9223372036854775808 ≤ x.i ∧ x.i ≤ 9223372036854775807) ∧ (0 ≤ x.other ∧ x.other ≤ 18446744073709551615)) := by
  intro H enc fuel cs y h hw
  obtain ⟨n, hl, hf⟩ := open_one Try.underlying74 (by kernel_rfl) (show Try.prog.cellsOf 74 = 5 by kernel_rfl) h hw
  match cs, hl with
  | [c0, c1, c2, c3, c4], _ =>
    obtain ⟨v0, y0, e0, t0, w0⟩ := hf 0 _ rfl
    obtain ⟨v1, y1, e1, t1, w1⟩ := hf 1 _ rfl
    obtain ⟨v2, y2, e2, t2, w2⟩ := hf 2 _ rfl
    obtain ⟨v3, y3, e3, t3, w3⟩ := hf 3 _ rfl
    obtain ⟨v4, y4, e4, t4, w4⟩ := hf 4 _ rfl
    obtain ⟨x0, h0, g0⟩ := opens_mem enc _ _ _ t0 w0
    obtain ⟨x1, h1, g1⟩ := opens_int Try.underlying22 enc _ _ _ t1 w1
    obtain ⟨x2, h2, g2⟩ := opens_string Try.underlying9 enc _ _ _ t2 w2
    obtain ⟨x3, h3, g3⟩ := opens_int Try.underlying3 enc _ _ _ t3 w3
    obtain ⟨x4, h4, g4⟩ := opens_int Try.underlying22 enc _ _ _ t4 w4
    simp only [List.getElem?_cons_zero, List.getElem?_cons_succ, Option.some.injEq, List.cons.injEq, and_true] at e0 e1 e2 e3 e4 h0 h1 h2 h3 h4
    subst e0 e1 e2 e3 e4 h0 h1 h2 h3 h4
    exact ⟨⟨x0, x1, x2, x3, x4⟩, rfl, MemG.of g0, u64_bd g1, g2, i64_bd g3, u64_bd g4⟩
set_option maxHeartbeats 1000000 in
theorem fills_any {AM : Option Addr} {cM : Nat} {M : List Pg} {at_ i other : Int} {s : ByteArray} {w : World} (hM : MemG w AM cM M) (hat : 0 ≤ at_ ∧ at_ ≤ 18446744073709551615) (hs : s.size ≤ 140737488351232) (hob : 0 ≤ other ∧ other ≤ 18446744073709551615) :
    Calls Try.prog 13 #[.agg #[.slice AM M.length cM, .int .u64 at_, .string s, .int .i64 i, .int .u64 other]] w fun e w' => e = .returned (.bool true) ∧ Below w.heap.size w w' := by
  have HM := Lib.hid hM
  have hlen := hM.2.2.2
  clear hM
  by_cases hbig : 64 < M.length
  · have b1 : decide (64 < (M.length : Int)) = true := decide_eq_true (by omega)
    have HB0 : Hid (Below w.heap.size w (w.alloc (.cells #[.slice AM M.length cM, .int .u64 at_, .string s, .int .i64 i, .int .u64 other] 74))) := (Below.refl _ _).alloc (Nat.le_refl _) _
    go_enter Try.func13, Try.ntmps13
    go_wp2_with fail
    refine (shown_any _).mono ?_
    rintro e w1 ⟨rfl, hb1⟩
    have HB1 := Lib.hid (HB0.out.trans (hb1.mono HB0.out.size))
    clear hb1
    go_wp2
    go_ret
    exact ⟨rfl, HB1.out⟩
  · have b1 : decide (64 < (M.length : Int)) = false := decide_eq_false (by omega)
    by_cases hbig2 : 1000 < s.size
    · have b2 : decide (1000 < (s.size : Int)) = true := decide_eq_true (by omega)
      have HB0 : Hid (Below w.heap.size w (w.alloc (.cells #[.slice AM M.length cM, .int .u64 at_, .string s, .int .i64 i, .int .u64 other] 74))) := (Below.refl _ _).alloc (Nat.le_refl _) _
      go_enter Try.func13, Try.ntmps13
      go_wp2_with fail
      refine (shown_any _).mono ?_
      rintro e w1 ⟨rfl, hb1⟩
      have HB1 := Lib.hid (HB0.out.trans (hb1.mono HB0.out.size))
      clear hb1
      go_wp2
      go_ret
      exact ⟨rfl, HB1.out⟩
    · have b2 : decide (1000 < (s.size : Int)) = false := decide_eq_false (by omega)
      obtain ⟨E, hE⟩ : ∃ E, fillE M at_ s = E := ⟨_, rfl⟩
      obtain ⟨X, hX⟩ : ∃ X, fillX M at_ s = X := ⟨_, rfl⟩
      have hXl : X.length ≤ 140737488351232 := by rw [← hX, fillX_len]; exact hlen
      have HXo : Hid (∀ p ∈ X, p.ok) := by rw [← hX]; exact fillX_okP HM.out.2.2.1
      have HE := Lib.hid hE
      have HX := Lib.hid hX
      by_cases h0 : E = 0
      · subst h0
        obtain ⟨hR, hl⟩ := fillE_zero hE
        rw [fill_ok hE] at hX
        obtain ⟨l1, l2, _⟩ := one_wr (at_ := at_) hR other hob s s.size
        rw [hX] at l1 l2
        obtain ⟨a, ha⟩ : ∃ a, loadV M other 1 0 = a := ⟨_, rfl⟩
        obtain ⟨b, hbb⟩ : ∃ b, loadV X other 1 0 = b := ⟨_, rfl⟩
        obtain ⟨g, hg⟩ : ∃ g, loadE M other 1 0 = g := ⟨_, rfl⟩
        rw [hg] at l1
        rw [ha, hbb] at l2
        have hsz : IntKind.u64.wrap (s.size : Int) = s.size := by rw [IntKind.wrap_u64]; omega
        have hway : (∃ D1 D2 : Bool, decide (other < at_) = D1 ∧ decide ((s.size : Int) ≤ IntKind.u64.wrap (other - at_)) = D2 ∧ ((b = a ∧ (a != b) = false) ∨ ((D1 = false ∧ D2 = false ∧ (a != b) = true)))) := by
          refine ⟨_, _, rfl, rfl, ?_⟩
          by_cases hab : b = a
          · exact .inl ⟨hab, by rw [hab]; simp⟩
          · by_cases hin : at_ ≤ other ∧ other < at_ + s.size
            · refine .inr ⟨decide_eq_false (by omega), decide_eq_false ?_, by simpa using fun h => hab h.symm⟩
              rw [IntKind.wrap_u64]; omega
            · exact absurd (l2 hin) hab
        have hL1 : ∀ k : Nat, k < s.size → IntKind.u64.wrap (at_ + (k : Int)) = at_ + k ∧ loadV X (at_ + k) 1 0 = byteI s k ∧ loadE X (at_ + k) 1 0 = 0 := fun k hk => by
          have hb := loadN_byte hl k hk
          obtain ⟨j, hj, _, hT, _, _, _, hle⟩ := pg_hit (rightB_out hR) HM.out.2.2.1 hb hat.1 (by omega)
          have hT2 : IntKind.u64.wrap (at_ + (k : Int)) = at_ + k := by rw [IntKind.wrap_u64]; unfold toI at hT; exact hT
          have hal := byteAt_alone hb
          rw [hT2] at hal
          obtain ⟨m1, _, m3⟩ := one_wr (at_ := at_) hR (at_ + k) (by omega) s s.size
          rw [hX] at m1 m3
          have hz : loadE M (at_ + k) 1 0 = 0 := by rw [loadE_one hR, hal, hb]; rfl
          refine ⟨hT2, ?_, by rw [m1, hz]⟩
          rw [m3 hz (by omega)]
          congr 1; omega
        have HL1 := Lib.hid hL1
        have L1 := Lib.hid l1
        have HA := Lib.hid ha
        have HBB := Lib.hid hbb
        have HG := Lib.hid hg
        clear hE hX l1 l2 ha hbb hg hL1 hl hR
        obtain ⟨D1, D2, d1, d2, hway⟩ := hway
        by_cases hi0 : i < 0
        · have b3 : decide (i < 0) = true := decide_eq_true hi0
          rcases hway with ⟨rfl, hab⟩ | ⟨rfl, rfl, hab⟩
          · cases D1
            all_goals cases D2
            all_goals skip
            · skip
              have HB0 : Hid (Below w.heap.size w (w.alloc (.cells #[.slice AM M.length cM, .int .u64 at_, .string s, .int .i64 i, .int .u64 other] 74))) := (Below.refl _ _).alloc (Nat.le_refl _) _
              have MM_0 := Lib.hid (Mem.step HM.out.1 HB0.out)
              go_enter Try.func13, Try.ntmps13
              go_wp2_with fail
              refine (shown_any _).mono ?_
              rintro e w1 ⟨rfl, hb1⟩
              have HB1 := Lib.hid (HB0.out.trans (hb1.mono HB0.out.size))
              have MM_1 := Lib.hid (Mem.step MM_0.out hb1)
              clear hb1
              go_wp2_with fail
              refine (fill_any at_ s hat hs MM_1.out HM.out.2.1 (Nat.le_refl _) HM.out.2.2.1 hlen).mono ?_
              rintro e w2 ⟨hb2, u, rfl, hv⟩
              rw [HE.out]
              rw [HX.out] at hv
              have HB2 := Lib.hid (HB1.out.trans (hb2.mono HB1.out.size))
              have MM_2 := Lib.hid (Mem.step MM_1.out hb2)
              clear hb2
              obtain ⟨AX, cX, rfl, hm, hn⟩ := hv
              have MX_2 := Lib.hid hm
              have NX := Lib.hid hn
              clear hm hn
              go_wp2_with fail
              refine (rload_any other 1 0 hob (by omega) MM_2.out (Nat.le_refl _) HM.out.2.2.1 hlen).mono ?_
              rintro e w3 ⟨rfl, hb3⟩
              rw [HA.out, HG.out]
              have HB3 := Lib.hid (HB2.out.trans (hb3.mono HB2.out.size))
              have MM_3 := Lib.hid (Mem.step MM_2.out hb3)
              have MX_3 := Lib.hid (Mem.step MX_2.out hb3)
              clear hb3
              go_wp2_with fail
              refine (rload_any other 1 0 hob (by omega) MX_3.out (Nat.le_refl _) HXo.out hXl).mono ?_
              rintro e w4 ⟨rfl, hb4⟩
              rw [HBB.out, L1.out]
              have HB4 := Lib.hid (HB3.out.trans (hb4.mono HB3.out.size))
              have MM_4 := Lib.hid (Mem.step MM_3.out hb4)
              have MX_4 := Lib.hid (Mem.step MX_3.out hb4)
              clear hb4
              go_wp2
              go_ret
              exact ⟨rfl, HB4.out⟩
            · skip
              have HB0 : Hid (Below w.heap.size w (w.alloc (.cells #[.slice AM M.length cM, .int .u64 at_, .string s, .int .i64 i, .int .u64 other] 74))) := (Below.refl _ _).alloc (Nat.le_refl _) _
              have MM_0 := Lib.hid (Mem.step HM.out.1 HB0.out)
              go_enter Try.func13, Try.ntmps13
              go_wp2_with fail
              refine (shown_any _).mono ?_
              rintro e w1 ⟨rfl, hb1⟩
              have HB1 := Lib.hid (HB0.out.trans (hb1.mono HB0.out.size))
              have MM_1 := Lib.hid (Mem.step MM_0.out hb1)
              clear hb1
              go_wp2_with fail
              refine (fill_any at_ s hat hs MM_1.out HM.out.2.1 (Nat.le_refl _) HM.out.2.2.1 hlen).mono ?_
              rintro e w2 ⟨hb2, u, rfl, hv⟩
              rw [HE.out]
              rw [HX.out] at hv
              have HB2 := Lib.hid (HB1.out.trans (hb2.mono HB1.out.size))
              have MM_2 := Lib.hid (Mem.step MM_1.out hb2)
              clear hb2
              obtain ⟨AX, cX, rfl, hm, hn⟩ := hv
              have MX_2 := Lib.hid hm
              have NX := Lib.hid hn
              clear hm hn
              go_wp2_with fail
              refine (rload_any other 1 0 hob (by omega) MM_2.out (Nat.le_refl _) HM.out.2.2.1 hlen).mono ?_
              rintro e w3 ⟨rfl, hb3⟩
              rw [HA.out, HG.out]
              have HB3 := Lib.hid (HB2.out.trans (hb3.mono HB2.out.size))
              have MM_3 := Lib.hid (Mem.step MM_2.out hb3)
              have MX_3 := Lib.hid (Mem.step MX_2.out hb3)
              clear hb3
              go_wp2_with fail
              refine (rload_any other 1 0 hob (by omega) MX_3.out (Nat.le_refl _) HXo.out hXl).mono ?_
              rintro e w4 ⟨rfl, hb4⟩
              rw [HBB.out, L1.out]
              have HB4 := Lib.hid (HB3.out.trans (hb4.mono HB3.out.size))
              have MM_4 := Lib.hid (Mem.step MM_3.out hb4)
              have MX_4 := Lib.hid (Mem.step MX_3.out hb4)
              clear hb4
              go_wp2
              go_ret
              exact ⟨rfl, HB4.out⟩
            · skip
              have HB0 : Hid (Below w.heap.size w (w.alloc (.cells #[.slice AM M.length cM, .int .u64 at_, .string s, .int .i64 i, .int .u64 other] 74))) := (Below.refl _ _).alloc (Nat.le_refl _) _
              have MM_0 := Lib.hid (Mem.step HM.out.1 HB0.out)
              go_enter Try.func13, Try.ntmps13
              go_wp2_with fail
              refine (shown_any _).mono ?_
              rintro e w1 ⟨rfl, hb1⟩
              have HB1 := Lib.hid (HB0.out.trans (hb1.mono HB0.out.size))
              have MM_1 := Lib.hid (Mem.step MM_0.out hb1)
              clear hb1
              go_wp2_with fail
              refine (fill_any at_ s hat hs MM_1.out HM.out.2.1 (Nat.le_refl _) HM.out.2.2.1 hlen).mono ?_
              rintro e w2 ⟨hb2, u, rfl, hv⟩
              rw [HE.out]
              rw [HX.out] at hv
              have HB2 := Lib.hid (HB1.out.trans (hb2.mono HB1.out.size))
              have MM_2 := Lib.hid (Mem.step MM_1.out hb2)
              clear hb2
              obtain ⟨AX, cX, rfl, hm, hn⟩ := hv
              have MX_2 := Lib.hid hm
              have NX := Lib.hid hn
              clear hm hn
              go_wp2_with fail
              refine (rload_any other 1 0 hob (by omega) MM_2.out (Nat.le_refl _) HM.out.2.2.1 hlen).mono ?_
              rintro e w3 ⟨rfl, hb3⟩
              rw [HA.out, HG.out]
              have HB3 := Lib.hid (HB2.out.trans (hb3.mono HB2.out.size))
              have MM_3 := Lib.hid (Mem.step MM_2.out hb3)
              have MX_3 := Lib.hid (Mem.step MX_2.out hb3)
              clear hb3
              go_wp2_with fail
              refine (rload_any other 1 0 hob (by omega) MX_3.out (Nat.le_refl _) HXo.out hXl).mono ?_
              rintro e w4 ⟨rfl, hb4⟩
              rw [HBB.out, L1.out]
              have HB4 := Lib.hid (HB3.out.trans (hb4.mono HB3.out.size))
              have MM_4 := Lib.hid (Mem.step MM_3.out hb4)
              have MX_4 := Lib.hid (Mem.step MX_3.out hb4)
              clear hb4
              go_wp2
              go_ret
              exact ⟨rfl, HB4.out⟩
            · skip
              have HB0 : Hid (Below w.heap.size w (w.alloc (.cells #[.slice AM M.length cM, .int .u64 at_, .string s, .int .i64 i, .int .u64 other] 74))) := (Below.refl _ _).alloc (Nat.le_refl _) _
              have MM_0 := Lib.hid (Mem.step HM.out.1 HB0.out)
              go_enter Try.func13, Try.ntmps13
              go_wp2_with fail
              refine (shown_any _).mono ?_
              rintro e w1 ⟨rfl, hb1⟩
              have HB1 := Lib.hid (HB0.out.trans (hb1.mono HB0.out.size))
              have MM_1 := Lib.hid (Mem.step MM_0.out hb1)
              clear hb1
              go_wp2_with fail
              refine (fill_any at_ s hat hs MM_1.out HM.out.2.1 (Nat.le_refl _) HM.out.2.2.1 hlen).mono ?_
              rintro e w2 ⟨hb2, u, rfl, hv⟩
              rw [HE.out]
              rw [HX.out] at hv
              have HB2 := Lib.hid (HB1.out.trans (hb2.mono HB1.out.size))
              have MM_2 := Lib.hid (Mem.step MM_1.out hb2)
              clear hb2
              obtain ⟨AX, cX, rfl, hm, hn⟩ := hv
              have MX_2 := Lib.hid hm
              have NX := Lib.hid hn
              clear hm hn
              go_wp2_with fail
              refine (rload_any other 1 0 hob (by omega) MM_2.out (Nat.le_refl _) HM.out.2.2.1 hlen).mono ?_
              rintro e w3 ⟨rfl, hb3⟩
              rw [HA.out, HG.out]
              have HB3 := Lib.hid (HB2.out.trans (hb3.mono HB2.out.size))
              have MM_3 := Lib.hid (Mem.step MM_2.out hb3)
              have MX_3 := Lib.hid (Mem.step MX_2.out hb3)
              clear hb3
              go_wp2_with fail
              refine (rload_any other 1 0 hob (by omega) MX_3.out (Nat.le_refl _) HXo.out hXl).mono ?_
              rintro e w4 ⟨rfl, hb4⟩
              rw [HBB.out, L1.out]
              have HB4 := Lib.hid (HB3.out.trans (hb4.mono HB3.out.size))
              have MM_4 := Lib.hid (Mem.step MM_3.out hb4)
              have MX_4 := Lib.hid (Mem.step MX_3.out hb4)
              clear hb4
              go_wp2
              go_ret
              exact ⟨rfl, HB4.out⟩
          · skip
            have HB0 : Hid (Below w.heap.size w (w.alloc (.cells #[.slice AM M.length cM, .int .u64 at_, .string s, .int .i64 i, .int .u64 other] 74))) := (Below.refl _ _).alloc (Nat.le_refl _) _
            have MM_0 := Lib.hid (Mem.step HM.out.1 HB0.out)
            go_enter Try.func13, Try.ntmps13
            go_wp2_with fail
            refine (shown_any _).mono ?_
            rintro e w1 ⟨rfl, hb1⟩
            have HB1 := Lib.hid (HB0.out.trans (hb1.mono HB0.out.size))
            have MM_1 := Lib.hid (Mem.step MM_0.out hb1)
            clear hb1
            go_wp2_with fail
            refine (fill_any at_ s hat hs MM_1.out HM.out.2.1 (Nat.le_refl _) HM.out.2.2.1 hlen).mono ?_
            rintro e w2 ⟨hb2, u, rfl, hv⟩
            rw [HE.out]
            rw [HX.out] at hv
            have HB2 := Lib.hid (HB1.out.trans (hb2.mono HB1.out.size))
            have MM_2 := Lib.hid (Mem.step MM_1.out hb2)
            clear hb2
            obtain ⟨AX, cX, rfl, hm, hn⟩ := hv
            have MX_2 := Lib.hid hm
            have NX := Lib.hid hn
            clear hm hn
            go_wp2_with fail
            refine (rload_any other 1 0 hob (by omega) MM_2.out (Nat.le_refl _) HM.out.2.2.1 hlen).mono ?_
            rintro e w3 ⟨rfl, hb3⟩
            rw [HA.out, HG.out]
            have HB3 := Lib.hid (HB2.out.trans (hb3.mono HB2.out.size))
            have MM_3 := Lib.hid (Mem.step MM_2.out hb3)
            have MX_3 := Lib.hid (Mem.step MX_2.out hb3)
            clear hb3
            go_wp2_with fail
            refine (rload_any other 1 0 hob (by omega) MX_3.out (Nat.le_refl _) HXo.out hXl).mono ?_
            rintro e w4 ⟨rfl, hb4⟩
            rw [HBB.out, L1.out]
            have HB4 := Lib.hid (HB3.out.trans (hb4.mono HB3.out.size))
            have MM_4 := Lib.hid (Mem.step MM_3.out hb4)
            have MX_4 := Lib.hid (Mem.step MX_3.out hb4)
            clear hb4
            go_wp2
            go_ret
            exact ⟨rfl, HB4.out⟩
        · obtain ⟨k, rfl⟩ := Int.eq_ofNat_of_zero_le (show 0 ≤ i by omega)
          have b3 : decide ((k : Int) < 0) = false := decide_eq_false hi0
          by_cases hk : k < s.size
          · obtain ⟨k1, k2, k3⟩ := HL1.out k hk
            have HK2 := Lib.hid k2
            have HK3 := Lib.hid k3
            have b4 : decide ((s.size : Int) ≤ (k : Int)) = false := decide_eq_false (by omega)
            have hkb : 0 ≤ at_ + (k : Int) ∧ at_ + (k : Int) ≤ 18446744073709551615 := by rw [← k1, IntKind.wrap_u64]; omega
            have i1 : (0 : Int) ≤ (k : Int) := by omega
            have i2 : (k : Int) < (s.size : Int) := by omega
            have hbw8 : IntKind.u64.wrap (byteI s k) = byteI s k := by rw [IntKind.wrap_u64]; have := byteI_bd s k; omega
            clear k2 k3
            rcases hway with ⟨rfl, hab⟩ | ⟨rfl, rfl, hab⟩
            · cases D1
              all_goals cases D2
              all_goals skip
              · skip
                have HB0 : Hid (Below w.heap.size w (w.alloc (.cells #[.slice AM M.length cM, .int .u64 at_, .string s, .int .i64 (k : Int), .int .u64 other] 74))) := (Below.refl _ _).alloc (Nat.le_refl _) _
                have MM_0 := Lib.hid (Mem.step HM.out.1 HB0.out)
                go_enter Try.func13, Try.ntmps13
                go_wp2_with fail
                refine (shown_any _).mono ?_
                rintro e w1 ⟨rfl, hb1⟩
                have HB1 := Lib.hid (HB0.out.trans (hb1.mono HB0.out.size))
                have MM_1 := Lib.hid (Mem.step MM_0.out hb1)
                clear hb1
                go_wp2_with fail
                refine (fill_any at_ s hat hs MM_1.out HM.out.2.1 (Nat.le_refl _) HM.out.2.2.1 hlen).mono ?_
                rintro e w2 ⟨hb2, u, rfl, hv⟩
                rw [HE.out]
                rw [HX.out] at hv
                have HB2 := Lib.hid (HB1.out.trans (hb2.mono HB1.out.size))
                have MM_2 := Lib.hid (Mem.step MM_1.out hb2)
                clear hb2
                obtain ⟨AX, cX, rfl, hm, hn⟩ := hv
                have MX_2 := Lib.hid hm
                have NX := Lib.hid hn
                clear hm hn
                go_wp2_with fail
                refine (rload_any other 1 0 hob (by omega) MM_2.out (Nat.le_refl _) HM.out.2.2.1 hlen).mono ?_
                rintro e w3 ⟨rfl, hb3⟩
                rw [HA.out, HG.out]
                have HB3 := Lib.hid (HB2.out.trans (hb3.mono HB2.out.size))
                have MM_3 := Lib.hid (Mem.step MM_2.out hb3)
                have MX_3 := Lib.hid (Mem.step MX_2.out hb3)
                clear hb3
                go_wp2_with fail
                refine (rload_any other 1 0 hob (by omega) MX_3.out (Nat.le_refl _) HXo.out hXl).mono ?_
                rintro e w4 ⟨rfl, hb4⟩
                rw [HBB.out, L1.out]
                have HB4 := Lib.hid (HB3.out.trans (hb4.mono HB3.out.size))
                have MM_4 := Lib.hid (Mem.step MM_3.out hb4)
                have MX_4 := Lib.hid (Mem.step MX_3.out hb4)
                clear hb4
                go_wp2_with fail
                refine (rload_any (at_ + k) 1 0 hkb (by omega) MX_4.out (Nat.le_refl _) HXo.out hXl).mono ?_
                rintro e w5 ⟨rfl, hb5⟩
                rw [HK2.out, HK3.out]
                have HB5 := Lib.hid (HB4.out.trans (hb5.mono HB4.out.size))
                have MM_5 := Lib.hid (Mem.step MM_4.out hb5)
                have MX_5 := Lib.hid (Mem.step MX_4.out hb5)
                clear hb5
                go_wp2
                go_ret
                exact ⟨ret_bool (by simp [byteI_at hk, hbw8]), HB5.out⟩
              · skip
                have HB0 : Hid (Below w.heap.size w (w.alloc (.cells #[.slice AM M.length cM, .int .u64 at_, .string s, .int .i64 (k : Int), .int .u64 other] 74))) := (Below.refl _ _).alloc (Nat.le_refl _) _
                have MM_0 := Lib.hid (Mem.step HM.out.1 HB0.out)
                go_enter Try.func13, Try.ntmps13
                go_wp2_with fail
                refine (shown_any _).mono ?_
                rintro e w1 ⟨rfl, hb1⟩
                have HB1 := Lib.hid (HB0.out.trans (hb1.mono HB0.out.size))
                have MM_1 := Lib.hid (Mem.step MM_0.out hb1)
                clear hb1
                go_wp2_with fail
                refine (fill_any at_ s hat hs MM_1.out HM.out.2.1 (Nat.le_refl _) HM.out.2.2.1 hlen).mono ?_
                rintro e w2 ⟨hb2, u, rfl, hv⟩
                rw [HE.out]
                rw [HX.out] at hv
                have HB2 := Lib.hid (HB1.out.trans (hb2.mono HB1.out.size))
                have MM_2 := Lib.hid (Mem.step MM_1.out hb2)
                clear hb2
                obtain ⟨AX, cX, rfl, hm, hn⟩ := hv
                have MX_2 := Lib.hid hm
                have NX := Lib.hid hn
                clear hm hn
                go_wp2_with fail
                refine (rload_any other 1 0 hob (by omega) MM_2.out (Nat.le_refl _) HM.out.2.2.1 hlen).mono ?_
                rintro e w3 ⟨rfl, hb3⟩
                rw [HA.out, HG.out]
                have HB3 := Lib.hid (HB2.out.trans (hb3.mono HB2.out.size))
                have MM_3 := Lib.hid (Mem.step MM_2.out hb3)
                have MX_3 := Lib.hid (Mem.step MX_2.out hb3)
                clear hb3
                go_wp2_with fail
                refine (rload_any other 1 0 hob (by omega) MX_3.out (Nat.le_refl _) HXo.out hXl).mono ?_
                rintro e w4 ⟨rfl, hb4⟩
                rw [HBB.out, L1.out]
                have HB4 := Lib.hid (HB3.out.trans (hb4.mono HB3.out.size))
                have MM_4 := Lib.hid (Mem.step MM_3.out hb4)
                have MX_4 := Lib.hid (Mem.step MX_3.out hb4)
                clear hb4
                go_wp2_with fail
                refine (rload_any (at_ + k) 1 0 hkb (by omega) MX_4.out (Nat.le_refl _) HXo.out hXl).mono ?_
                rintro e w5 ⟨rfl, hb5⟩
                rw [HK2.out, HK3.out]
                have HB5 := Lib.hid (HB4.out.trans (hb5.mono HB4.out.size))
                have MM_5 := Lib.hid (Mem.step MM_4.out hb5)
                have MX_5 := Lib.hid (Mem.step MX_4.out hb5)
                clear hb5
                go_wp2
                go_ret
                exact ⟨ret_bool (by simp [byteI_at hk, hbw8]), HB5.out⟩
              · skip
                have HB0 : Hid (Below w.heap.size w (w.alloc (.cells #[.slice AM M.length cM, .int .u64 at_, .string s, .int .i64 (k : Int), .int .u64 other] 74))) := (Below.refl _ _).alloc (Nat.le_refl _) _
                have MM_0 := Lib.hid (Mem.step HM.out.1 HB0.out)
                go_enter Try.func13, Try.ntmps13
                go_wp2_with fail
                refine (shown_any _).mono ?_
                rintro e w1 ⟨rfl, hb1⟩
                have HB1 := Lib.hid (HB0.out.trans (hb1.mono HB0.out.size))
                have MM_1 := Lib.hid (Mem.step MM_0.out hb1)
                clear hb1
                go_wp2_with fail
                refine (fill_any at_ s hat hs MM_1.out HM.out.2.1 (Nat.le_refl _) HM.out.2.2.1 hlen).mono ?_
                rintro e w2 ⟨hb2, u, rfl, hv⟩
                rw [HE.out]
                rw [HX.out] at hv
                have HB2 := Lib.hid (HB1.out.trans (hb2.mono HB1.out.size))
                have MM_2 := Lib.hid (Mem.step MM_1.out hb2)
                clear hb2
                obtain ⟨AX, cX, rfl, hm, hn⟩ := hv
                have MX_2 := Lib.hid hm
                have NX := Lib.hid hn
                clear hm hn
                go_wp2_with fail
                refine (rload_any other 1 0 hob (by omega) MM_2.out (Nat.le_refl _) HM.out.2.2.1 hlen).mono ?_
                rintro e w3 ⟨rfl, hb3⟩
                rw [HA.out, HG.out]
                have HB3 := Lib.hid (HB2.out.trans (hb3.mono HB2.out.size))
                have MM_3 := Lib.hid (Mem.step MM_2.out hb3)
                have MX_3 := Lib.hid (Mem.step MX_2.out hb3)
                clear hb3
                go_wp2_with fail
                refine (rload_any other 1 0 hob (by omega) MX_3.out (Nat.le_refl _) HXo.out hXl).mono ?_
                rintro e w4 ⟨rfl, hb4⟩
                rw [HBB.out, L1.out]
                have HB4 := Lib.hid (HB3.out.trans (hb4.mono HB3.out.size))
                have MM_4 := Lib.hid (Mem.step MM_3.out hb4)
                have MX_4 := Lib.hid (Mem.step MX_3.out hb4)
                clear hb4
                go_wp2_with fail
                refine (rload_any (at_ + k) 1 0 hkb (by omega) MX_4.out (Nat.le_refl _) HXo.out hXl).mono ?_
                rintro e w5 ⟨rfl, hb5⟩
                rw [HK2.out, HK3.out]
                have HB5 := Lib.hid (HB4.out.trans (hb5.mono HB4.out.size))
                have MM_5 := Lib.hid (Mem.step MM_4.out hb5)
                have MX_5 := Lib.hid (Mem.step MX_4.out hb5)
                clear hb5
                go_wp2
                go_ret
                exact ⟨ret_bool (by simp [byteI_at hk, hbw8]), HB5.out⟩
              · skip
                have HB0 : Hid (Below w.heap.size w (w.alloc (.cells #[.slice AM M.length cM, .int .u64 at_, .string s, .int .i64 (k : Int), .int .u64 other] 74))) := (Below.refl _ _).alloc (Nat.le_refl _) _
                have MM_0 := Lib.hid (Mem.step HM.out.1 HB0.out)
                go_enter Try.func13, Try.ntmps13
                go_wp2_with fail
                refine (shown_any _).mono ?_
                rintro e w1 ⟨rfl, hb1⟩
                have HB1 := Lib.hid (HB0.out.trans (hb1.mono HB0.out.size))
                have MM_1 := Lib.hid (Mem.step MM_0.out hb1)
                clear hb1
                go_wp2_with fail
                refine (fill_any at_ s hat hs MM_1.out HM.out.2.1 (Nat.le_refl _) HM.out.2.2.1 hlen).mono ?_
                rintro e w2 ⟨hb2, u, rfl, hv⟩
                rw [HE.out]
                rw [HX.out] at hv
                have HB2 := Lib.hid (HB1.out.trans (hb2.mono HB1.out.size))
                have MM_2 := Lib.hid (Mem.step MM_1.out hb2)
                clear hb2
                obtain ⟨AX, cX, rfl, hm, hn⟩ := hv
                have MX_2 := Lib.hid hm
                have NX := Lib.hid hn
                clear hm hn
                go_wp2_with fail
                refine (rload_any other 1 0 hob (by omega) MM_2.out (Nat.le_refl _) HM.out.2.2.1 hlen).mono ?_
                rintro e w3 ⟨rfl, hb3⟩
                rw [HA.out, HG.out]
                have HB3 := Lib.hid (HB2.out.trans (hb3.mono HB2.out.size))
                have MM_3 := Lib.hid (Mem.step MM_2.out hb3)
                have MX_3 := Lib.hid (Mem.step MX_2.out hb3)
                clear hb3
                go_wp2_with fail
                refine (rload_any other 1 0 hob (by omega) MX_3.out (Nat.le_refl _) HXo.out hXl).mono ?_
                rintro e w4 ⟨rfl, hb4⟩
                rw [HBB.out, L1.out]
                have HB4 := Lib.hid (HB3.out.trans (hb4.mono HB3.out.size))
                have MM_4 := Lib.hid (Mem.step MM_3.out hb4)
                have MX_4 := Lib.hid (Mem.step MX_3.out hb4)
                clear hb4
                go_wp2_with fail
                refine (rload_any (at_ + k) 1 0 hkb (by omega) MX_4.out (Nat.le_refl _) HXo.out hXl).mono ?_
                rintro e w5 ⟨rfl, hb5⟩
                rw [HK2.out, HK3.out]
                have HB5 := Lib.hid (HB4.out.trans (hb5.mono HB4.out.size))
                have MM_5 := Lib.hid (Mem.step MM_4.out hb5)
                have MX_5 := Lib.hid (Mem.step MX_4.out hb5)
                clear hb5
                go_wp2
                go_ret
                exact ⟨ret_bool (by simp [byteI_at hk, hbw8]), HB5.out⟩
            · skip
              have HB0 : Hid (Below w.heap.size w (w.alloc (.cells #[.slice AM M.length cM, .int .u64 at_, .string s, .int .i64 (k : Int), .int .u64 other] 74))) := (Below.refl _ _).alloc (Nat.le_refl _) _
              have MM_0 := Lib.hid (Mem.step HM.out.1 HB0.out)
              go_enter Try.func13, Try.ntmps13
              go_wp2_with fail
              refine (shown_any _).mono ?_
              rintro e w1 ⟨rfl, hb1⟩
              have HB1 := Lib.hid (HB0.out.trans (hb1.mono HB0.out.size))
              have MM_1 := Lib.hid (Mem.step MM_0.out hb1)
              clear hb1
              go_wp2_with fail
              refine (fill_any at_ s hat hs MM_1.out HM.out.2.1 (Nat.le_refl _) HM.out.2.2.1 hlen).mono ?_
              rintro e w2 ⟨hb2, u, rfl, hv⟩
              rw [HE.out]
              rw [HX.out] at hv
              have HB2 := Lib.hid (HB1.out.trans (hb2.mono HB1.out.size))
              have MM_2 := Lib.hid (Mem.step MM_1.out hb2)
              clear hb2
              obtain ⟨AX, cX, rfl, hm, hn⟩ := hv
              have MX_2 := Lib.hid hm
              have NX := Lib.hid hn
              clear hm hn
              go_wp2_with fail
              refine (rload_any other 1 0 hob (by omega) MM_2.out (Nat.le_refl _) HM.out.2.2.1 hlen).mono ?_
              rintro e w3 ⟨rfl, hb3⟩
              rw [HA.out, HG.out]
              have HB3 := Lib.hid (HB2.out.trans (hb3.mono HB2.out.size))
              have MM_3 := Lib.hid (Mem.step MM_2.out hb3)
              have MX_3 := Lib.hid (Mem.step MX_2.out hb3)
              clear hb3
              go_wp2_with fail
              refine (rload_any other 1 0 hob (by omega) MX_3.out (Nat.le_refl _) HXo.out hXl).mono ?_
              rintro e w4 ⟨rfl, hb4⟩
              rw [HBB.out, L1.out]
              have HB4 := Lib.hid (HB3.out.trans (hb4.mono HB3.out.size))
              have MM_4 := Lib.hid (Mem.step MM_3.out hb4)
              have MX_4 := Lib.hid (Mem.step MX_3.out hb4)
              clear hb4
              go_wp2_with fail
              refine (rload_any (at_ + k) 1 0 hkb (by omega) MX_4.out (Nat.le_refl _) HXo.out hXl).mono ?_
              rintro e w5 ⟨rfl, hb5⟩
              rw [HK2.out, HK3.out]
              have HB5 := Lib.hid (HB4.out.trans (hb5.mono HB4.out.size))
              have MM_5 := Lib.hid (Mem.step MM_4.out hb5)
              have MX_5 := Lib.hid (Mem.step MX_4.out hb5)
              clear hb5
              go_wp2
              go_ret
              exact ⟨ret_bool (by simp [byteI_at hk, hbw8]), HB5.out⟩
          · have b4 : decide ((s.size : Int) ≤ (k : Int)) = true := decide_eq_true (by omega)
            rcases hway with ⟨rfl, hab⟩ | ⟨rfl, rfl, hab⟩
            · cases D1
              all_goals cases D2
              all_goals skip
              · skip
                have HB0 : Hid (Below w.heap.size w (w.alloc (.cells #[.slice AM M.length cM, .int .u64 at_, .string s, .int .i64 (k : Int), .int .u64 other] 74))) := (Below.refl _ _).alloc (Nat.le_refl _) _
                have MM_0 := Lib.hid (Mem.step HM.out.1 HB0.out)
                go_enter Try.func13, Try.ntmps13
                go_wp2_with fail
                refine (shown_any _).mono ?_
                rintro e w1 ⟨rfl, hb1⟩
                have HB1 := Lib.hid (HB0.out.trans (hb1.mono HB0.out.size))
                have MM_1 := Lib.hid (Mem.step MM_0.out hb1)
                clear hb1
                go_wp2_with fail
                refine (fill_any at_ s hat hs MM_1.out HM.out.2.1 (Nat.le_refl _) HM.out.2.2.1 hlen).mono ?_
                rintro e w2 ⟨hb2, u, rfl, hv⟩
                rw [HE.out]
                rw [HX.out] at hv
                have HB2 := Lib.hid (HB1.out.trans (hb2.mono HB1.out.size))
                have MM_2 := Lib.hid (Mem.step MM_1.out hb2)
                clear hb2
                obtain ⟨AX, cX, rfl, hm, hn⟩ := hv
                have MX_2 := Lib.hid hm
                have NX := Lib.hid hn
                clear hm hn
                go_wp2_with fail
                refine (rload_any other 1 0 hob (by omega) MM_2.out (Nat.le_refl _) HM.out.2.2.1 hlen).mono ?_
                rintro e w3 ⟨rfl, hb3⟩
                rw [HA.out, HG.out]
                have HB3 := Lib.hid (HB2.out.trans (hb3.mono HB2.out.size))
                have MM_3 := Lib.hid (Mem.step MM_2.out hb3)
                have MX_3 := Lib.hid (Mem.step MX_2.out hb3)
                clear hb3
                go_wp2_with fail
                refine (rload_any other 1 0 hob (by omega) MX_3.out (Nat.le_refl _) HXo.out hXl).mono ?_
                rintro e w4 ⟨rfl, hb4⟩
                rw [HBB.out, L1.out]
                have HB4 := Lib.hid (HB3.out.trans (hb4.mono HB3.out.size))
                have MM_4 := Lib.hid (Mem.step MM_3.out hb4)
                have MX_4 := Lib.hid (Mem.step MX_3.out hb4)
                clear hb4
                go_wp2
                go_ret
                exact ⟨rfl, HB4.out⟩
              · skip
                have HB0 : Hid (Below w.heap.size w (w.alloc (.cells #[.slice AM M.length cM, .int .u64 at_, .string s, .int .i64 (k : Int), .int .u64 other] 74))) := (Below.refl _ _).alloc (Nat.le_refl _) _
                have MM_0 := Lib.hid (Mem.step HM.out.1 HB0.out)
                go_enter Try.func13, Try.ntmps13
                go_wp2_with fail
                refine (shown_any _).mono ?_
                rintro e w1 ⟨rfl, hb1⟩
                have HB1 := Lib.hid (HB0.out.trans (hb1.mono HB0.out.size))
                have MM_1 := Lib.hid (Mem.step MM_0.out hb1)
                clear hb1
                go_wp2_with fail
                refine (fill_any at_ s hat hs MM_1.out HM.out.2.1 (Nat.le_refl _) HM.out.2.2.1 hlen).mono ?_
                rintro e w2 ⟨hb2, u, rfl, hv⟩
                rw [HE.out]
                rw [HX.out] at hv
                have HB2 := Lib.hid (HB1.out.trans (hb2.mono HB1.out.size))
                have MM_2 := Lib.hid (Mem.step MM_1.out hb2)
                clear hb2
                obtain ⟨AX, cX, rfl, hm, hn⟩ := hv
                have MX_2 := Lib.hid hm
                have NX := Lib.hid hn
                clear hm hn
                go_wp2_with fail
                refine (rload_any other 1 0 hob (by omega) MM_2.out (Nat.le_refl _) HM.out.2.2.1 hlen).mono ?_
                rintro e w3 ⟨rfl, hb3⟩
                rw [HA.out, HG.out]
                have HB3 := Lib.hid (HB2.out.trans (hb3.mono HB2.out.size))
                have MM_3 := Lib.hid (Mem.step MM_2.out hb3)
                have MX_3 := Lib.hid (Mem.step MX_2.out hb3)
                clear hb3
                go_wp2_with fail
                refine (rload_any other 1 0 hob (by omega) MX_3.out (Nat.le_refl _) HXo.out hXl).mono ?_
                rintro e w4 ⟨rfl, hb4⟩
                rw [HBB.out, L1.out]
                have HB4 := Lib.hid (HB3.out.trans (hb4.mono HB3.out.size))
                have MM_4 := Lib.hid (Mem.step MM_3.out hb4)
                have MX_4 := Lib.hid (Mem.step MX_3.out hb4)
                clear hb4
                go_wp2
                go_ret
                exact ⟨rfl, HB4.out⟩
              · skip
                have HB0 : Hid (Below w.heap.size w (w.alloc (.cells #[.slice AM M.length cM, .int .u64 at_, .string s, .int .i64 (k : Int), .int .u64 other] 74))) := (Below.refl _ _).alloc (Nat.le_refl _) _
                have MM_0 := Lib.hid (Mem.step HM.out.1 HB0.out)
                go_enter Try.func13, Try.ntmps13
                go_wp2_with fail
                refine (shown_any _).mono ?_
                rintro e w1 ⟨rfl, hb1⟩
                have HB1 := Lib.hid (HB0.out.trans (hb1.mono HB0.out.size))
                have MM_1 := Lib.hid (Mem.step MM_0.out hb1)
                clear hb1
                go_wp2_with fail
                refine (fill_any at_ s hat hs MM_1.out HM.out.2.1 (Nat.le_refl _) HM.out.2.2.1 hlen).mono ?_
                rintro e w2 ⟨hb2, u, rfl, hv⟩
                rw [HE.out]
                rw [HX.out] at hv
                have HB2 := Lib.hid (HB1.out.trans (hb2.mono HB1.out.size))
                have MM_2 := Lib.hid (Mem.step MM_1.out hb2)
                clear hb2
                obtain ⟨AX, cX, rfl, hm, hn⟩ := hv
                have MX_2 := Lib.hid hm
                have NX := Lib.hid hn
                clear hm hn
                go_wp2_with fail
                refine (rload_any other 1 0 hob (by omega) MM_2.out (Nat.le_refl _) HM.out.2.2.1 hlen).mono ?_
                rintro e w3 ⟨rfl, hb3⟩
                rw [HA.out, HG.out]
                have HB3 := Lib.hid (HB2.out.trans (hb3.mono HB2.out.size))
                have MM_3 := Lib.hid (Mem.step MM_2.out hb3)
                have MX_3 := Lib.hid (Mem.step MX_2.out hb3)
                clear hb3
                go_wp2_with fail
                refine (rload_any other 1 0 hob (by omega) MX_3.out (Nat.le_refl _) HXo.out hXl).mono ?_
                rintro e w4 ⟨rfl, hb4⟩
                rw [HBB.out, L1.out]
                have HB4 := Lib.hid (HB3.out.trans (hb4.mono HB3.out.size))
                have MM_4 := Lib.hid (Mem.step MM_3.out hb4)
                have MX_4 := Lib.hid (Mem.step MX_3.out hb4)
                clear hb4
                go_wp2
                go_ret
                exact ⟨rfl, HB4.out⟩
              · skip
                have HB0 : Hid (Below w.heap.size w (w.alloc (.cells #[.slice AM M.length cM, .int .u64 at_, .string s, .int .i64 (k : Int), .int .u64 other] 74))) := (Below.refl _ _).alloc (Nat.le_refl _) _
                have MM_0 := Lib.hid (Mem.step HM.out.1 HB0.out)
                go_enter Try.func13, Try.ntmps13
                go_wp2_with fail
                refine (shown_any _).mono ?_
                rintro e w1 ⟨rfl, hb1⟩
                have HB1 := Lib.hid (HB0.out.trans (hb1.mono HB0.out.size))
                have MM_1 := Lib.hid (Mem.step MM_0.out hb1)
                clear hb1
                go_wp2_with fail
                refine (fill_any at_ s hat hs MM_1.out HM.out.2.1 (Nat.le_refl _) HM.out.2.2.1 hlen).mono ?_
                rintro e w2 ⟨hb2, u, rfl, hv⟩
                rw [HE.out]
                rw [HX.out] at hv
                have HB2 := Lib.hid (HB1.out.trans (hb2.mono HB1.out.size))
                have MM_2 := Lib.hid (Mem.step MM_1.out hb2)
                clear hb2
                obtain ⟨AX, cX, rfl, hm, hn⟩ := hv
                have MX_2 := Lib.hid hm
                have NX := Lib.hid hn
                clear hm hn
                go_wp2_with fail
                refine (rload_any other 1 0 hob (by omega) MM_2.out (Nat.le_refl _) HM.out.2.2.1 hlen).mono ?_
                rintro e w3 ⟨rfl, hb3⟩
                rw [HA.out, HG.out]
                have HB3 := Lib.hid (HB2.out.trans (hb3.mono HB2.out.size))
                have MM_3 := Lib.hid (Mem.step MM_2.out hb3)
                have MX_3 := Lib.hid (Mem.step MX_2.out hb3)
                clear hb3
                go_wp2_with fail
                refine (rload_any other 1 0 hob (by omega) MX_3.out (Nat.le_refl _) HXo.out hXl).mono ?_
                rintro e w4 ⟨rfl, hb4⟩
                rw [HBB.out, L1.out]
                have HB4 := Lib.hid (HB3.out.trans (hb4.mono HB3.out.size))
                have MM_4 := Lib.hid (Mem.step MM_3.out hb4)
                have MX_4 := Lib.hid (Mem.step MX_3.out hb4)
                clear hb4
                go_wp2
                go_ret
                exact ⟨rfl, HB4.out⟩
            · skip
              have HB0 : Hid (Below w.heap.size w (w.alloc (.cells #[.slice AM M.length cM, .int .u64 at_, .string s, .int .i64 (k : Int), .int .u64 other] 74))) := (Below.refl _ _).alloc (Nat.le_refl _) _
              have MM_0 := Lib.hid (Mem.step HM.out.1 HB0.out)
              go_enter Try.func13, Try.ntmps13
              go_wp2_with fail
              refine (shown_any _).mono ?_
              rintro e w1 ⟨rfl, hb1⟩
              have HB1 := Lib.hid (HB0.out.trans (hb1.mono HB0.out.size))
              have MM_1 := Lib.hid (Mem.step MM_0.out hb1)
              clear hb1
              go_wp2_with fail
              refine (fill_any at_ s hat hs MM_1.out HM.out.2.1 (Nat.le_refl _) HM.out.2.2.1 hlen).mono ?_
              rintro e w2 ⟨hb2, u, rfl, hv⟩
              rw [HE.out]
              rw [HX.out] at hv
              have HB2 := Lib.hid (HB1.out.trans (hb2.mono HB1.out.size))
              have MM_2 := Lib.hid (Mem.step MM_1.out hb2)
              clear hb2
              obtain ⟨AX, cX, rfl, hm, hn⟩ := hv
              have MX_2 := Lib.hid hm
              have NX := Lib.hid hn
              clear hm hn
              go_wp2_with fail
              refine (rload_any other 1 0 hob (by omega) MM_2.out (Nat.le_refl _) HM.out.2.2.1 hlen).mono ?_
              rintro e w3 ⟨rfl, hb3⟩
              rw [HA.out, HG.out]
              have HB3 := Lib.hid (HB2.out.trans (hb3.mono HB2.out.size))
              have MM_3 := Lib.hid (Mem.step MM_2.out hb3)
              have MX_3 := Lib.hid (Mem.step MX_2.out hb3)
              clear hb3
              go_wp2_with fail
              refine (rload_any other 1 0 hob (by omega) MX_3.out (Nat.le_refl _) HXo.out hXl).mono ?_
              rintro e w4 ⟨rfl, hb4⟩
              rw [HBB.out, L1.out]
              have HB4 := Lib.hid (HB3.out.trans (hb4.mono HB3.out.size))
              have MM_4 := Lib.hid (Mem.step MM_3.out hb4)
              have MX_4 := Lib.hid (Mem.step MX_3.out hb4)
              clear hb4
              go_wp2
              go_ret
              exact ⟨rfl, HB4.out⟩
      · have e1 : (E != 0) = true := by simpa using h0
        have hXM : X = M := by rw [← hX]; exact fill_fail (by rw [hE]; exact h0)
        subst hXM
        have HXX : Hid (sameB X X = true) := decide_eq_true rfl
        clear hE h0 hX
        have HB0 : Hid (Below w.heap.size w (w.alloc (.cells #[.slice AM X.length cM, .int .u64 at_, .string s, .int .i64 i, .int .u64 other] 74))) := (Below.refl _ _).alloc (Nat.le_refl _) _
        have MM_0 := Lib.hid (Mem.step HM.out.1 HB0.out)
        go_enter Try.func13, Try.ntmps13
        go_wp2_with fail
        refine (shown_any _).mono ?_
        rintro e w1 ⟨rfl, hb1⟩
        have HB1 := Lib.hid (HB0.out.trans (hb1.mono HB0.out.size))
        have MM_1 := Lib.hid (Mem.step MM_0.out hb1)
        clear hb1
        go_wp2_with fail
        refine (fill_any at_ s hat hs MM_1.out HM.out.2.1 (Nat.le_refl _) HM.out.2.2.1 hlen).mono ?_
        rintro e w2 ⟨hb2, u, rfl, hv⟩
        rw [HE.out]
        rw [HX.out] at hv
        have HB2 := Lib.hid (HB1.out.trans (hb2.mono HB1.out.size))
        have MM_2 := Lib.hid (Mem.step MM_1.out hb2)
        clear hb2
        obtain ⟨AY, cY, rfl, hm, hn⟩ := hv
        have MY_2 := Lib.hid hm
        have NY := Lib.hid hn
        clear hm hn
        go_wp2_with fail
        refine (same_any MY_2.out MM_2.out (Nat.le_refl _) (Nat.le_refl _) hlen).mono ?_
        rintro e w3 ⟨rfl, hb3⟩
        rw [HXX.out]
        have HB3 := Lib.hid (HB2.out.trans (hb3.mono HB2.out.size))
        have MM_3 := Lib.hid (Mem.step MM_2.out hb3)
        have MY_3 := Lib.hid (Mem.step MY_2.out hb3)
        clear hb3
        go_wp2
        go_ret
        exact ⟨rfl, HB3.out⟩
end Go.Proofs.Ytclghfekmmcfjaa
