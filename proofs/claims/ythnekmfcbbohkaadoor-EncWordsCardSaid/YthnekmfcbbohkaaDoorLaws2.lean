/- More laws of enc's words: EncBack, EncFar, EncFields: walked. -/
import Derived.Test.YthnekmfcbbohkaaDoorLaws
import Derived.Test.YthnekmfcbbohkaaDoorTab
namespace Go.Proofs.YthnekmfcbbohkaaDoor
open Go.ChangeShapes Go.WideShapes Go.ChangeAt Go.RowKit Go.Deep
set_option maxRecDepth 100000
theorem takeK_zero : takeK 0 = none := by
  cases h : takeK 0 with
  | none => rfl
  | some j => have := takeK_low h; omega
theorem wordI_lt {k rd a b imm : Int} (hm : mayB k rd a b imm = true) : wordI k rd a b imm < 4294967296 := by
  have h := mayB_out hm
  obtain ⟨k, rfl⟩ := Int.eq_ofNat_of_zero_le (show 0 ≤ k by have := h.1; omega)
  exact (word_bd h).2
/-- enc.Take behind enc.Word -/
theorem take_self {k : Nat} {rd a b imm : Int} {w : World} (hT : Tab w) (hm : mayB k rd a b imm = true) :
    Calls Tryd.prog 15 #[.int .u32 (wordI k rd a b imm)] w fun e w' => e = .returned (.tuple #[.agg #[.int .i64 k, .int .i64 rd, .int .i64 a, .int .i64 b, .int .i64 imm], .int .i64 0]) ∧ Below w.heap.size w w' := by
  have h := take_some hT (word_bd (mayB_out hm)) (take_word (mayB_out hm))
  obtain ⟨_, p1, p2, p3, p4⟩ := hit_self (mayB_out hm)
  rw [p1, p2, p3, p4] at h
  exact h
theorem may_zero : mayB 0 0 0 0 0 = false := mayB_false (by decide)
set_option maxHeartbeats 1000000 in
theorem back_bad {k rd a b imm v : Int} {w : World} (hT : Tab w) (hv : 0 ≤ v ∧ v < 4294967296) (hm : mayB k rd a b imm = false) :
    Calls Tryd.prog 6 #[.agg #[.int .i64 k, .int .i64 rd, .int .i64 a, .int .i64 b, .int .i64 imm], .int .u32 v] w fun e w' => e = .returned (.bool true) ∧ Below w.heap.size w w' := by
  have HA := Lib.hid ((Below.refl w.heap.size w).alloc (Nat.le_refl _) (.cells #[.int .i64 k, .int .i64 rd, .int .i64 a, .int .i64 b, .int .i64 imm] 23))
  have HT := Lib.hid hT
  have hs := hT.size
  have HM := Lib.hid hm
  have HZ := Lib.hid takeK_zero
  clear hT hm
  cases hk : takeK v with
  | some j =>
    have HK := Lib.hid hk
    have HJ := Lib.hid (mayB_true (takeK_out hk).2.2.1)
    have hq : (wordI j (pRd (formI j) v) (pA (formI j) v) (pB (formI j) v) (pI (formI j) v) == v) = true := beq_iff_eq.2 (takeK_out hk).2.2.2
    clear hk
    go_enter Tryd.func6, Tryd.ntmps6
    go_wp2_with fail
    refine (shown_any (HT.out.below HA.out hs)).mono ?_
    rintro e w1 ⟨rfl, hb1⟩
    have H1 := Lib.hid (HA.out.trans (hb1.mono HA.out.size))
    have z1_0 : w.heap.size < w1.heap.size := by have := hb1.size; simp at this; omega
    obtain ⟨c1, f1⟩ := bcell hb1
    go_wp2_with fail
    refine (word_bad (HT.out.below H1.out hs) HM.out).mono ?_
    rintro e w2 ⟨rfl, hb2⟩
    have H2 := Lib.hid (H1.out.trans (hb2.mono H1.out.size))
    have z2_0 : w.heap.size < w2.heap.size := by have := hb2.size; omega
    obtain ⟨c2, f2⟩ := bcell hb2
    go_wp2_with fail
    refine (take_none (HT.out.below H2.out hs) (by omega) HZ.out).mono ?_
    rintro e w3 ⟨rfl, hb3⟩
    have H3 := Lib.hid (H2.out.trans (hb3.mono H2.out.size))
    have z3_0 : w.heap.size < w3.heap.size := by have := hb3.size; omega
    obtain ⟨c3, f3⟩ := bcell hb3
    have K3 := Lib.hid ((H3.out).alloc H3.out.size (.cells #[.int .i64 0, .int .i64 0, .int .i64 0, .int .i64 0, .int .i64 0] 23))
    go_wp2_with fail
    refine (take_some (HT.out.below K3.out hs) hv HK.out).mono ?_
    rintro e w4 ⟨rfl, hb4⟩
    have H4 := Lib.hid (K3.out.trans (hb4.mono K3.out.size))
    have z4_0 : w.heap.size < w4.heap.size := by have := hb4.size; simp at this; omega
    obtain ⟨c4, f4⟩ := bcell hb4
    have K4 := Lib.hid ((H4.out).alloc H4.out.size (.cells #[.int .i64 j, .int .i64 (pRd (formI j) v), .int .i64 (pA (formI j) v), .int .i64 (pB (formI j) v), .int .i64 (pI (formI j) v)] 23))
    go_wp2_with fail
    refine (word_good (HT.out.below K4.out hs) HJ.out).mono ?_
    rintro e w5 ⟨rfl, hb5⟩
    have H5 := Lib.hid (K4.out.trans (hb5.mono K4.out.size))
    have z5_0 : w.heap.size < w5.heap.size := by have := hb5.size; simp at this; omega
    obtain ⟨c5, f5⟩ := bcell hb5
    go_wp2
    go_ret
    exact ⟨rfl, H5.out⟩
  | none =>
    have HK := Lib.hid hk
    have HJ := Lib.hid may_zero
    clear hk
    go_enter Tryd.func6, Tryd.ntmps6
    go_wp2_with fail
    refine (shown_any (HT.out.below HA.out hs)).mono ?_
    rintro e w1 ⟨rfl, hb1⟩
    have H1 := Lib.hid (HA.out.trans (hb1.mono HA.out.size))
    have z1_0 : w.heap.size < w1.heap.size := by have := hb1.size; simp at this; omega
    obtain ⟨c1, f1⟩ := bcell hb1
    go_wp2_with fail
    refine (word_bad (HT.out.below H1.out hs) HM.out).mono ?_
    rintro e w2 ⟨rfl, hb2⟩
    have H2 := Lib.hid (H1.out.trans (hb2.mono H1.out.size))
    have z2_0 : w.heap.size < w2.heap.size := by have := hb2.size; omega
    obtain ⟨c2, f2⟩ := bcell hb2
    go_wp2_with fail
    refine (take_none (HT.out.below H2.out hs) (by omega) HZ.out).mono ?_
    rintro e w3 ⟨rfl, hb3⟩
    have H3 := Lib.hid (H2.out.trans (hb3.mono H2.out.size))
    have z3_0 : w.heap.size < w3.heap.size := by have := hb3.size; omega
    obtain ⟨c3, f3⟩ := bcell hb3
    have K3 := Lib.hid ((H3.out).alloc H3.out.size (.cells #[.int .i64 0, .int .i64 0, .int .i64 0, .int .i64 0, .int .i64 0] 23))
    go_wp2_with fail
    refine (take_none (HT.out.below K3.out hs) hv HK.out).mono ?_
    rintro e w4 ⟨rfl, hb4⟩
    have H4 := Lib.hid (K3.out.trans (hb4.mono K3.out.size))
    have z4_0 : w.heap.size < w4.heap.size := by have := hb4.size; simp at this; omega
    obtain ⟨c4, f4⟩ := bcell hb4
    have K4 := Lib.hid ((H4.out).alloc H4.out.size (.cells #[.int .i64 0, .int .i64 0, .int .i64 0, .int .i64 0, .int .i64 0] 23))
    go_wp2_with fail
    refine (word_bad (HT.out.below K4.out hs) HJ.out).mono ?_
    rintro e w5 ⟨rfl, hb5⟩
    have H5 := Lib.hid (K4.out.trans (hb5.mono K4.out.size))
    have z5_0 : w.heap.size < w5.heap.size := by have := hb5.size; simp at this; omega
    obtain ⟨c5, f5⟩ := bcell hb5
    go_wp2
    go_ret
    exact ⟨rfl, H5.out⟩
set_option maxHeartbeats 1000000 in
theorem back_good {k : Nat} {rd a b imm v : Int} {w : World} (hT : Tab w) (hv : 0 ≤ v ∧ v < 4294967296) (hm : mayB k rd a b imm = true) :
    Calls Tryd.prog 6 #[.agg #[.int .i64 k, .int .i64 rd, .int .i64 a, .int .i64 b, .int .i64 imm], .int .u32 v] w fun e w' => e = .returned (.bool true) ∧ Below w.heap.size w w' := by
  have HA := Lib.hid ((Below.refl w.heap.size w).alloc (Nat.le_refl _) (.cells #[.int .i64 k, .int .i64 rd, .int .i64 a, .int .i64 b, .int .i64 imm] 23))
  have HT := Lib.hid hT
  have hs := hT.size
  have HM := Lib.hid hm
  clear hT hm
  cases hk : takeK v with
  | some j =>
    have HK := Lib.hid hk
    have HJ := Lib.hid (mayB_true (takeK_out hk).2.2.1)
    have hq : (wordI j (pRd (formI j) v) (pA (formI j) v) (pB (formI j) v) (pI (formI j) v) == v) = true := beq_iff_eq.2 (takeK_out hk).2.2.2
    clear hk
    go_enter Tryd.func6, Tryd.ntmps6
    go_wp2_with fail
    refine (shown_any (HT.out.below HA.out hs)).mono ?_
    rintro e w1 ⟨rfl, hb1⟩
    have H1 := Lib.hid (HA.out.trans (hb1.mono HA.out.size))
    have z1_0 : w.heap.size < w1.heap.size := by have := hb1.size; simp at this; omega
    obtain ⟨c1, f1⟩ := bcell hb1
    go_wp2_with fail
    refine (word_good (HT.out.below H1.out hs) HM.out).mono ?_
    rintro e w2 ⟨rfl, hb2⟩
    have H2 := Lib.hid (H1.out.trans (hb2.mono H1.out.size))
    have z2_0 : w.heap.size < w2.heap.size := by have := hb2.size; omega
    obtain ⟨c2, f2⟩ := bcell hb2
    go_wp2_with fail
    refine (take_self (HT.out.below H2.out hs) HM.out).mono ?_
    rintro e w3 ⟨rfl, hb3⟩
    have H3 := Lib.hid (H2.out.trans (hb3.mono H2.out.size))
    have z3_0 : w.heap.size < w3.heap.size := by have := hb3.size; omega
    obtain ⟨c3, f3⟩ := bcell hb3
    have K3 := Lib.hid ((H3.out).alloc H3.out.size (.cells #[.int .i64 k, .int .i64 rd, .int .i64 a, .int .i64 b, .int .i64 imm] 23))
    go_wp2_with fail
    refine (take_some (HT.out.below K3.out hs) hv HK.out).mono ?_
    rintro e w4 ⟨rfl, hb4⟩
    have H4 := Lib.hid (K3.out.trans (hb4.mono K3.out.size))
    have z4_0 : w.heap.size < w4.heap.size := by have := hb4.size; simp at this; omega
    obtain ⟨c4, f4⟩ := bcell hb4
    have K4 := Lib.hid ((H4.out).alloc H4.out.size (.cells #[.int .i64 j, .int .i64 (pRd (formI j) v), .int .i64 (pA (formI j) v), .int .i64 (pB (formI j) v), .int .i64 (pI (formI j) v)] 23))
    go_wp2_with fail
    refine (word_good (HT.out.below K4.out hs) HJ.out).mono ?_
    rintro e w5 ⟨rfl, hb5⟩
    have H5 := Lib.hid (K4.out.trans (hb5.mono K4.out.size))
    have z5_0 : w.heap.size < w5.heap.size := by have := hb5.size; simp at this; omega
    obtain ⟨c5, f5⟩ := bcell hb5
    go_wp2
    go_ret
    exact ⟨rfl, H5.out⟩
  | none =>
    have HK := Lib.hid hk
    have HJ := Lib.hid may_zero
    clear hk
    go_enter Tryd.func6, Tryd.ntmps6
    go_wp2_with fail
    refine (shown_any (HT.out.below HA.out hs)).mono ?_
    rintro e w1 ⟨rfl, hb1⟩
    have H1 := Lib.hid (HA.out.trans (hb1.mono HA.out.size))
    have z1_0 : w.heap.size < w1.heap.size := by have := hb1.size; simp at this; omega
    obtain ⟨c1, f1⟩ := bcell hb1
    go_wp2_with fail
    refine (word_good (HT.out.below H1.out hs) HM.out).mono ?_
    rintro e w2 ⟨rfl, hb2⟩
    have H2 := Lib.hid (H1.out.trans (hb2.mono H1.out.size))
    have z2_0 : w.heap.size < w2.heap.size := by have := hb2.size; omega
    obtain ⟨c2, f2⟩ := bcell hb2
    go_wp2_with fail
    refine (take_self (HT.out.below H2.out hs) HM.out).mono ?_
    rintro e w3 ⟨rfl, hb3⟩
    have H3 := Lib.hid (H2.out.trans (hb3.mono H2.out.size))
    have z3_0 : w.heap.size < w3.heap.size := by have := hb3.size; omega
    obtain ⟨c3, f3⟩ := bcell hb3
    have K3 := Lib.hid ((H3.out).alloc H3.out.size (.cells #[.int .i64 k, .int .i64 rd, .int .i64 a, .int .i64 b, .int .i64 imm] 23))
    go_wp2_with fail
    refine (take_none (HT.out.below K3.out hs) hv HK.out).mono ?_
    rintro e w4 ⟨rfl, hb4⟩
    have H4 := Lib.hid (K3.out.trans (hb4.mono K3.out.size))
    have z4_0 : w.heap.size < w4.heap.size := by have := hb4.size; simp at this; omega
    obtain ⟨c4, f4⟩ := bcell hb4
    have K4 := Lib.hid ((H4.out).alloc H4.out.size (.cells #[.int .i64 0, .int .i64 0, .int .i64 0, .int .i64 0, .int .i64 0] 23))
    go_wp2_with fail
    refine (word_bad (HT.out.below K4.out hs) HJ.out).mono ?_
    rintro e w5 ⟨rfl, hb5⟩
    have H5 := Lib.hid (K4.out.trans (hb5.mono K4.out.size))
    have z5_0 : w.heap.size < w5.heap.size := by have := hb5.size; simp at this; omega
    obtain ⟨c5, f5⟩ := bcell hb5
    go_wp2
    go_ret
    exact ⟨rfl, H5.out⟩
theorem back_any {k rd a b imm v : Int} {w : World} (hT : Tab w) (hv : 0 ≤ v ∧ v < 4294967296) :
    Calls Tryd.prog 6 #[.agg #[.int .i64 k, .int .i64 rd, .int .i64 a, .int .i64 b, .int .i64 imm], .int .u32 v] w fun e w' => e = .returned (.bool true) ∧ Below w.heap.size w w' := by
  cases hm : mayB k rd a b imm
  · exact back_bad hT hv hm
  · obtain ⟨k, rfl⟩ := Int.eq_ofNat_of_zero_le (show 0 ≤ k by have := (mayB_out hm).1; omega)
    exact back_good hT hv hm
set_option maxHeartbeats 400000 in
theorem far_jal {n : Int} {w : World} (hT : Tab w) (hn : -9223372036854775808 ≤ n ∧ n ≤ 9223372036854775807) :
    Calls Tryd.prog 8 #[.int .i64 n, .int .i64 29] w fun e w' => e = .returned (.bool true) ∧ Below w.heap.size w w' := by
  have HA := Lib.hid (Below.refl w.heap.size w)
  have HT := Lib.hid hT
  have hs := hT.size
  have HZ := Lib.hid takeK_zero
  clear hT
  cases hm : mayB 29 0 0 0 n
  · have HM := Lib.hid hm
    have hno : ¬ (-1048576 ≤ n ∧ n < 1048576 ∧ n % 2 = 0) := fun h => by
      have : mayB 29 0 0 0 n = true := mayB_true ⟨by decide, by decide, by decide, by decide, by decide, by decide, by decide, by decide, by rw [show formI 29 = 74 by decide]; unfold formImm; omega⟩
      rw [this] at hm; cases hm
    clear hm
    by_cases c1 : -1048576 ≤ n
    · by_cases c2 : n < 1048576
      · have c3 : (n.tmod 2 == 0) = false := by
          rw [beq_eq_false_iff_ne]
          intro h
          rw [← Int.dvd_iff_tmod_eq_zero, Int.dvd_iff_emod_eq_zero] at h
          exact hno ⟨c1, c2, h⟩
        have HN := Lib.hid hno
        clear hno
        go_enter Tryd.func8, Tryd.ntmps8
        go_wp2_with fail
        refine (shown_any (HT.out.below HA.out hs)).mono ?_
        rintro e w1 ⟨rfl, hb1⟩
        have H1 := Lib.hid (HA.out.trans (hb1.mono HA.out.size))
        obtain ⟨c1, f1⟩ := bcell hb1
        go_wp2_with fail
        refine (word_bad (HT.out.below H1.out hs) HM.out).mono ?_
        rintro e w2 ⟨rfl, hb2⟩
        have H2 := Lib.hid (H1.out.trans (hb2.mono H1.out.size))
        obtain ⟨c2, f2⟩ := bcell hb2
        go_wp2_with fail
        refine (take_none (HT.out.below H2.out hs) (by omega) HZ.out).mono ?_
        rintro e w3 ⟨rfl, hb3⟩
        have H3 := Lib.hid (H2.out.trans (hb3.mono H2.out.size))
        obtain ⟨c3, f3⟩ := bcell hb3
        go_wp2
        go_ret
        exact ⟨rfl, H3.out.alloc H3.out.size _⟩
      · have HN := Lib.hid hno
        clear hno
        go_enter Tryd.func8, Tryd.ntmps8
        go_wp2_with fail
        refine (shown_any (HT.out.below HA.out hs)).mono ?_
        rintro e w1 ⟨rfl, hb1⟩
        have H1 := Lib.hid (HA.out.trans (hb1.mono HA.out.size))
        obtain ⟨c1, f1⟩ := bcell hb1
        go_wp2_with fail
        refine (word_bad (HT.out.below H1.out hs) HM.out).mono ?_
        rintro e w2 ⟨rfl, hb2⟩
        have H2 := Lib.hid (H1.out.trans (hb2.mono H1.out.size))
        obtain ⟨c2, f2⟩ := bcell hb2
        go_wp2_with fail
        refine (take_none (HT.out.below H2.out hs) (by omega) HZ.out).mono ?_
        rintro e w3 ⟨rfl, hb3⟩
        have H3 := Lib.hid (H2.out.trans (hb3.mono H2.out.size))
        obtain ⟨c3, f3⟩ := bcell hb3
        go_wp2
        go_ret
        exact ⟨rfl, H3.out.alloc H3.out.size _⟩
    · have HN := Lib.hid hno
      clear hno
      go_enter Tryd.func8, Tryd.ntmps8
      go_wp2_with fail
      refine (shown_any (HT.out.below HA.out hs)).mono ?_
      rintro e w1 ⟨rfl, hb1⟩
      have H1 := Lib.hid (HA.out.trans (hb1.mono HA.out.size))
      obtain ⟨c1, f1⟩ := bcell hb1
      go_wp2_with fail
      refine (word_bad (HT.out.below H1.out hs) HM.out).mono ?_
      rintro e w2 ⟨rfl, hb2⟩
      have H2 := Lib.hid (H1.out.trans (hb2.mono H1.out.size))
      obtain ⟨c2, f2⟩ := bcell hb2
      go_wp2_with fail
      refine (take_none (HT.out.below H2.out hs) (by omega) HZ.out).mono ?_
      rintro e w3 ⟨rfl, hb3⟩
      have H3 := Lib.hid (H2.out.trans (hb3.mono H2.out.size))
      obtain ⟨c3, f3⟩ := bcell hb3
      go_wp2
      go_ret
      exact ⟨rfl, H3.out.alloc H3.out.size _⟩
  · have HM := Lib.hid hm
    have hp : -1048576 ≤ n ∧ n < 1048576 ∧ n % 2 = 0 := by
      obtain ⟨_, _, _, _, _, _, _, _, hi⟩ := mayB_out hm
      rw [show formI 29 = 74 by decide] at hi
      unfold formImm at hi
      omega
    have c3 : (n.tmod 2 == 0) = true := by
      rw [beq_iff_eq, ← Int.dvd_iff_tmod_eq_zero, Int.dvd_iff_emod_eq_zero]
      exact hp.2.2
    obtain ⟨c1, c2, _⟩ := hp
    have hw0 := (wordI_facts hm).1
    clear hm
    go_enter Tryd.func8, Tryd.ntmps8
    go_wp2_with fail
    refine (shown_any (HT.out.below HA.out hs)).mono ?_
    rintro e w1 ⟨rfl, hb1⟩
    have H1 := Lib.hid (HA.out.trans (hb1.mono HA.out.size))
    obtain ⟨c1, f1⟩ := bcell hb1
    go_wp2_with fail
    refine (word_good (HT.out.below H1.out hs) HM.out).mono ?_
    rintro e w2 ⟨rfl, hb2⟩
    have H2 := Lib.hid (H1.out.trans (hb2.mono H1.out.size))
    obtain ⟨c2, f2⟩ := bcell hb2
    go_wp2_with fail
    refine (take_self (k := 29) (HT.out.below H2.out hs) HM.out).mono ?_
    rintro e w3 ⟨rfl, hb3⟩
    have H3 := Lib.hid (H2.out.trans (hb3.mono H2.out.size))
    obtain ⟨c3, f3⟩ := bcell hb3
    go_wp2
    go_ret
    exact ⟨rfl, H3.out.alloc H3.out.size _⟩
set_option maxHeartbeats 400000 in
theorem far_beq {n : Int} {w : World} (hT : Tab w) (hn : -9223372036854775808 ≤ n ∧ n ≤ 9223372036854775807) :
    Calls Tryd.prog 8 #[.int .i64 n, .int .i64 23] w fun e w' => e = .returned (.bool true) ∧ Below w.heap.size w w' := by
  have HA := Lib.hid (Below.refl w.heap.size w)
  have HT := Lib.hid hT
  have hs := hT.size
  have HZ := Lib.hid takeK_zero
  clear hT
  cases hm : mayB 23 0 0 0 n
  · have HM := Lib.hid hm
    have hno : ¬ (-4096 ≤ n ∧ n < 4096 ∧ n % 2 = 0) := fun h => by
      have : mayB 23 0 0 0 n = true := mayB_true ⟨by decide, by decide, by decide, by decide, by decide, by decide, by decide, by decide, by rw [show formI 23 = 66 by decide]; unfold formImm; omega⟩
      rw [this] at hm; cases hm
    clear hm
    by_cases c1 : -4096 ≤ n
    · by_cases c2 : n < 4096
      · have c3 : (n.tmod 2 == 0) = false := by
          rw [beq_eq_false_iff_ne]
          intro h
          rw [← Int.dvd_iff_tmod_eq_zero, Int.dvd_iff_emod_eq_zero] at h
          exact hno ⟨c1, c2, h⟩
        have HN := Lib.hid hno
        clear hno
        go_enter Tryd.func8, Tryd.ntmps8
        go_wp2_with fail
        refine (shown_any (HT.out.below HA.out hs)).mono ?_
        rintro e w1 ⟨rfl, hb1⟩
        have H1 := Lib.hid (HA.out.trans (hb1.mono HA.out.size))
        obtain ⟨c1, f1⟩ := bcell hb1
        go_wp2_with fail
        refine (word_bad (HT.out.below H1.out hs) HM.out).mono ?_
        rintro e w2 ⟨rfl, hb2⟩
        have H2 := Lib.hid (H1.out.trans (hb2.mono H1.out.size))
        obtain ⟨c2, f2⟩ := bcell hb2
        go_wp2_with fail
        refine (take_none (HT.out.below H2.out hs) (by omega) HZ.out).mono ?_
        rintro e w3 ⟨rfl, hb3⟩
        have H3 := Lib.hid (H2.out.trans (hb3.mono H2.out.size))
        obtain ⟨c3, f3⟩ := bcell hb3
        go_wp2
        go_ret
        exact ⟨rfl, H3.out.alloc H3.out.size _⟩
      · have HN := Lib.hid hno
        clear hno
        go_enter Tryd.func8, Tryd.ntmps8
        go_wp2_with fail
        refine (shown_any (HT.out.below HA.out hs)).mono ?_
        rintro e w1 ⟨rfl, hb1⟩
        have H1 := Lib.hid (HA.out.trans (hb1.mono HA.out.size))
        obtain ⟨c1, f1⟩ := bcell hb1
        go_wp2_with fail
        refine (word_bad (HT.out.below H1.out hs) HM.out).mono ?_
        rintro e w2 ⟨rfl, hb2⟩
        have H2 := Lib.hid (H1.out.trans (hb2.mono H1.out.size))
        obtain ⟨c2, f2⟩ := bcell hb2
        go_wp2_with fail
        refine (take_none (HT.out.below H2.out hs) (by omega) HZ.out).mono ?_
        rintro e w3 ⟨rfl, hb3⟩
        have H3 := Lib.hid (H2.out.trans (hb3.mono H2.out.size))
        obtain ⟨c3, f3⟩ := bcell hb3
        go_wp2
        go_ret
        exact ⟨rfl, H3.out.alloc H3.out.size _⟩
    · have HN := Lib.hid hno
      clear hno
      go_enter Tryd.func8, Tryd.ntmps8
      go_wp2_with fail
      refine (shown_any (HT.out.below HA.out hs)).mono ?_
      rintro e w1 ⟨rfl, hb1⟩
      have H1 := Lib.hid (HA.out.trans (hb1.mono HA.out.size))
      obtain ⟨c1, f1⟩ := bcell hb1
      go_wp2_with fail
      refine (word_bad (HT.out.below H1.out hs) HM.out).mono ?_
      rintro e w2 ⟨rfl, hb2⟩
      have H2 := Lib.hid (H1.out.trans (hb2.mono H1.out.size))
      obtain ⟨c2, f2⟩ := bcell hb2
      go_wp2_with fail
      refine (take_none (HT.out.below H2.out hs) (by omega) HZ.out).mono ?_
      rintro e w3 ⟨rfl, hb3⟩
      have H3 := Lib.hid (H2.out.trans (hb3.mono H2.out.size))
      obtain ⟨c3, f3⟩ := bcell hb3
      go_wp2
      go_ret
      exact ⟨rfl, H3.out.alloc H3.out.size _⟩
  · have HM := Lib.hid hm
    have hp : -4096 ≤ n ∧ n < 4096 ∧ n % 2 = 0 := by
      obtain ⟨_, _, _, _, _, _, _, _, hi⟩ := mayB_out hm
      rw [show formI 23 = 66 by decide] at hi
      unfold formImm at hi
      omega
    have c3 : (n.tmod 2 == 0) = true := by
      rw [beq_iff_eq, ← Int.dvd_iff_tmod_eq_zero, Int.dvd_iff_emod_eq_zero]
      exact hp.2.2
    obtain ⟨c1, c2, _⟩ := hp
    have hw0 := (wordI_facts hm).1
    clear hm
    go_enter Tryd.func8, Tryd.ntmps8
    go_wp2_with fail
    refine (shown_any (HT.out.below HA.out hs)).mono ?_
    rintro e w1 ⟨rfl, hb1⟩
    have H1 := Lib.hid (HA.out.trans (hb1.mono HA.out.size))
    obtain ⟨c1, f1⟩ := bcell hb1
    go_wp2_with fail
    refine (word_good (HT.out.below H1.out hs) HM.out).mono ?_
    rintro e w2 ⟨rfl, hb2⟩
    have H2 := Lib.hid (H1.out.trans (hb2.mono H1.out.size))
    obtain ⟨c2, f2⟩ := bcell hb2
    go_wp2_with fail
    refine (take_self (k := 23) (HT.out.below H2.out hs) HM.out).mono ?_
    rintro e w3 ⟨rfl, hb3⟩
    have H3 := Lib.hid (H2.out.trans (hb3.mono H2.out.size))
    obtain ⟨c3, f3⟩ := bcell hb3
    go_wp2
    go_ret
    exact ⟨rfl, H3.out.alloc H3.out.size _⟩
set_option maxHeartbeats 400000 in
theorem far_any {n k : Int} {w : World} (hT : Tab w) (hn : -9223372036854775808 ≤ n ∧ n ≤ 9223372036854775807) :
    Calls Tryd.prog 8 #[.int .i64 n, .int .i64 k] w fun e w' => e = .returned (.bool true) ∧ Below w.heap.size w w' := by
  by_cases h1 : k = 29
  · subst h1; exact far_jal hT hn
  · by_cases h2 : k = 23
    · subst h2; exact far_beq hT hn
    · have e1 : (k == 29) = false := beq_eq_false_iff_ne.2 h1
      have e2 : (k == 23) = false := beq_eq_false_iff_ne.2 h2
      have e3 : (k != 29) = true := by rw [bne_iff_ne]; exact h1
      have e4 : (k != 23) = true := by rw [bne_iff_ne]; exact h2
      clear h1 h2
      go_enter Tryd.func8, Tryd.ntmps8
      go_wp2_with fail
      refine (shown_any hT).mono ?_
      rintro e w1 ⟨rfl, hb1⟩
      go_wp2
      go_ret
      exact ⟨rfl, hb1⟩
set_option maxHeartbeats 400000 in
theorem fields_R {k : Nat} {rd a b imm : Int} {w : World} (hT : Tab w) (hk : 1 ≤ k ∧ k ≤ 11) :
    Calls Tryd.prog 4 #[.agg #[.int .i64 k, .int .i64 rd, .int .i64 a, .int .i64 b, .int .i64 imm]] w fun e w' => e = .returned (.bool true) ∧ Below w.heap.size w w' := by
  have HA := Lib.hid ((Below.refl w.heap.size w).alloc (Nat.le_refl _) (.cells #[.int .i64 k, .int .i64 rd, .int .i64 a, .int .i64 b, .int .i64 imm] 30))
  have HT := Lib.hid hT
  have hs := hT.size
  clear hT
  have e1 : ((k : Int) == 19) = false := by rw [beq_eq_false_iff_ne]; omega
  have e2 : ((k : Int) == 21) = false := by rw [beq_eq_false_iff_ne]; omega
  cases hm : mayB k rd a b 0
  · have HM := Lib.hid hm
    clear hm
    go_enter Tryd.func4, Tryd.ntmps4
    go_wp2_with fail
    refine (shown_any (HT.out.below HA.out hs)).mono ?_
    rintro e w1 ⟨rfl, hb1⟩
    have H1 := Lib.hid (HA.out.trans (hb1.mono HA.out.size))
    have z1_0 : w.heap.size < w1.heap.size := by have := hb1.size; simp at this; omega
    obtain ⟨c1, f1⟩ := bcell hb1
    have K1 := Lib.hid (H1.out.alloc H1.out.size (.cells #[.int .i64 k, .int .i64 rd, .int .i64 a, .int .i64 b, .int .i64 0] 23))
    go_wp2_with fail
    refine (word_bad (HT.out.below K1.out hs) HM.out).mono ?_
    rintro e w2 ⟨rfl, hb2⟩
    have H2 := Lib.hid (K1.out.trans (hb2.mono K1.out.size))
    have z2_0 : w.heap.size < w2.heap.size := by have := hb2.size; simp at this; omega
    obtain ⟨c2, f2⟩ := bcell hb2
    go_wp2
    go_ret
    exact ⟨rfl, H2.out⟩
  · have HM := Lib.hid hm
    have hw0 := (wordI_facts hm).1
    have hw1 := wordI_lt hm
    have t := tells (mayB_out hm)
    rw [show formI (k : Int) = 82 by unfold formI; rw [if_pos (by omega)]] at t
    have q1 : (wordI k rd a b 0 / 128 % 32 == rd) = true := by rw [beq_iff_eq]; exact (wordI_nat k rd a b 0 ▸ (show formI (k : Int) = 82 by unfold formI; rw [if_pos (by omega)]) ▸ t.rd_)
    have q2 : (wordI k rd a b 0 / 32768 % 32 == a) = true := by rw [beq_iff_eq]; exact (wordI_nat k rd a b 0 ▸ (show formI (k : Int) = 82 by unfold formI; rw [if_pos (by omega)]) ▸ t.a_)
    have q3 : (wordI k rd a b 0 / 1048576 % 32 == b) = true := by rw [beq_iff_eq]; exact (wordI_nat k rd a b 0 ▸ (show formI (k : Int) = 82 by unfold formI; rw [if_pos (by omega)]) ▸ t.b_)
    clear t
    clear hm
    go_enter Tryd.func4, Tryd.ntmps4
    go_wp2_with fail
    refine (shown_any (HT.out.below HA.out hs)).mono ?_
    rintro e w1 ⟨rfl, hb1⟩
    have H1 := Lib.hid (HA.out.trans (hb1.mono HA.out.size))
    have z1_0 : w.heap.size < w1.heap.size := by have := hb1.size; simp at this; omega
    obtain ⟨c1, f1⟩ := bcell hb1
    have K1 := Lib.hid (H1.out.alloc H1.out.size (.cells #[.int .i64 k, .int .i64 rd, .int .i64 a, .int .i64 b, .int .i64 0] 23))
    go_wp2_with fail
    refine (word_good (HT.out.below K1.out hs) HM.out).mono ?_
    rintro e w2 ⟨rfl, hb2⟩
    have H2 := Lib.hid (K1.out.trans (hb2.mono K1.out.size))
    have z2_0 : w.heap.size < w2.heap.size := by have := hb2.size; simp at this; omega
    obtain ⟨c2, f2⟩ := bcell hb2
    go_wp2
    go_ret
    exact ⟨rfl, H2.out⟩
set_option maxHeartbeats 400000 in
theorem fields_I {rd a b imm : Int} {w : World} (hT : Tab w) :
    Calls Tryd.prog 4 #[.agg #[.int .i64 19, .int .i64 rd, .int .i64 a, .int .i64 b, .int .i64 imm]] w fun e w' => e = .returned (.bool true) ∧ Below w.heap.size w w' := by
  have HA := Lib.hid ((Below.refl w.heap.size w).alloc (Nat.le_refl _) (.cells #[.int .i64 19, .int .i64 rd, .int .i64 a, .int .i64 b, .int .i64 imm] 30))
  have HT := Lib.hid hT
  have hs := hT.size
  clear hT

  cases hm : mayB 19 rd a 0 imm
  · have HM := Lib.hid hm
    clear hm
    go_enter Tryd.func4, Tryd.ntmps4
    go_wp2_with fail
    refine (shown_any (HT.out.below HA.out hs)).mono ?_
    rintro e w1 ⟨rfl, hb1⟩
    have H1 := Lib.hid (HA.out.trans (hb1.mono HA.out.size))
    have z1_0 : w.heap.size < w1.heap.size := by have := hb1.size; simp at this; omega
    obtain ⟨c1, f1⟩ := bcell hb1
    have K1 := Lib.hid (H1.out.alloc H1.out.size (.cells #[.int .i64 19, .int .i64 rd, .int .i64 a, .int .i64 0, .int .i64 imm] 23))
    go_wp2_with fail
    refine (word_bad (HT.out.below K1.out hs) HM.out).mono ?_
    rintro e w2 ⟨rfl, hb2⟩
    have H2 := Lib.hid (K1.out.trans (hb2.mono K1.out.size))
    have z2_0 : w.heap.size < w2.heap.size := by have := hb2.size; simp at this; omega
    obtain ⟨c2, f2⟩ := bcell hb2
    go_wp2
    go_ret
    exact ⟨rfl, H2.out⟩
  · have HM := Lib.hid hm
    have hw0 := (wordI_facts hm).1
    have hw1 := wordI_lt hm
    have t := tells (k := 19) (mayB_out hm)
    have q1 : (wordI 19 rd a 0 imm / 128 % 32 == rd) = true := by rw [beq_iff_eq]; exact t.rd_
    have q2 : (wordI 19 rd a 0 imm / 32768 % 32 == a) = true := by rw [beq_iff_eq]; exact t.a_
    clear t
    clear hm
    go_enter Tryd.func4, Tryd.ntmps4
    go_wp2_with fail
    refine (shown_any (HT.out.below HA.out hs)).mono ?_
    rintro e w1 ⟨rfl, hb1⟩
    have H1 := Lib.hid (HA.out.trans (hb1.mono HA.out.size))
    have z1_0 : w.heap.size < w1.heap.size := by have := hb1.size; simp at this; omega
    obtain ⟨c1, f1⟩ := bcell hb1
    have K1 := Lib.hid (H1.out.alloc H1.out.size (.cells #[.int .i64 19, .int .i64 rd, .int .i64 a, .int .i64 0, .int .i64 imm] 23))
    go_wp2_with fail
    refine (word_good (HT.out.below K1.out hs) HM.out).mono ?_
    rintro e w2 ⟨rfl, hb2⟩
    have H2 := Lib.hid (K1.out.trans (hb2.mono K1.out.size))
    have z2_0 : w.heap.size < w2.heap.size := by have := hb2.size; simp at this; omega
    obtain ⟨c2, f2⟩ := bcell hb2
    go_wp2
    go_ret
    exact ⟨rfl, H2.out⟩
set_option maxHeartbeats 400000 in
theorem fields_S {rd a b imm : Int} {w : World} (hT : Tab w) :
    Calls Tryd.prog 4 #[.agg #[.int .i64 21, .int .i64 rd, .int .i64 a, .int .i64 b, .int .i64 imm]] w fun e w' => e = .returned (.bool true) ∧ Below w.heap.size w w' := by
  have HA := Lib.hid ((Below.refl w.heap.size w).alloc (Nat.le_refl _) (.cells #[.int .i64 21, .int .i64 rd, .int .i64 a, .int .i64 b, .int .i64 imm] 30))
  have HT := Lib.hid hT
  have hs := hT.size
  clear hT

  cases hm : mayB 21 0 a b imm
  · have HM := Lib.hid hm
    clear hm
    go_enter Tryd.func4, Tryd.ntmps4
    go_wp2_with fail
    refine (shown_any (HT.out.below HA.out hs)).mono ?_
    rintro e w1 ⟨rfl, hb1⟩
    have H1 := Lib.hid (HA.out.trans (hb1.mono HA.out.size))
    have z1_0 : w.heap.size < w1.heap.size := by have := hb1.size; simp at this; omega
    obtain ⟨c1, f1⟩ := bcell hb1
    have K1 := Lib.hid (H1.out.alloc H1.out.size (.cells #[.int .i64 21, .int .i64 0, .int .i64 a, .int .i64 b, .int .i64 imm] 23))
    go_wp2_with fail
    refine (word_bad (HT.out.below K1.out hs) HM.out).mono ?_
    rintro e w2 ⟨rfl, hb2⟩
    have H2 := Lib.hid (K1.out.trans (hb2.mono K1.out.size))
    have z2_0 : w.heap.size < w2.heap.size := by have := hb2.size; simp at this; omega
    obtain ⟨c2, f2⟩ := bcell hb2
    go_wp2
    go_ret
    exact ⟨rfl, H2.out⟩
  · have HM := Lib.hid hm
    have hw0 := (wordI_facts hm).1
    have hw1 := wordI_lt hm
    have t := tells (k := 21) (mayB_out hm)
    have q2 : (wordI 21 0 a b imm / 32768 % 32 == a) = true := by rw [beq_iff_eq]; exact t.a_
    have q3 : (wordI 21 0 a b imm / 1048576 % 32 == b) = true := by rw [beq_iff_eq]; exact t.b_
    clear t
    clear hm
    go_enter Tryd.func4, Tryd.ntmps4
    go_wp2_with fail
    refine (shown_any (HT.out.below HA.out hs)).mono ?_
    rintro e w1 ⟨rfl, hb1⟩
    have H1 := Lib.hid (HA.out.trans (hb1.mono HA.out.size))
    have z1_0 : w.heap.size < w1.heap.size := by have := hb1.size; simp at this; omega
    obtain ⟨c1, f1⟩ := bcell hb1
    have K1 := Lib.hid (H1.out.alloc H1.out.size (.cells #[.int .i64 21, .int .i64 0, .int .i64 a, .int .i64 b, .int .i64 imm] 23))
    go_wp2_with fail
    refine (word_good (HT.out.below K1.out hs) HM.out).mono ?_
    rintro e w2 ⟨rfl, hb2⟩
    have H2 := Lib.hid (K1.out.trans (hb2.mono K1.out.size))
    have z2_0 : w.heap.size < w2.heap.size := by have := hb2.size; simp at this; omega
    obtain ⟨c2, f2⟩ := bcell hb2
    go_wp2
    go_ret
    exact ⟨rfl, H2.out⟩
theorem fields_out {k rd a b imm : Int} {w : World} (hT : Tab w) (hk : k < 1 ∨ 22 < k ∨ 11 < k ∧ k ≠ 19 ∧ k ≠ 21) :
    Calls Tryd.prog 4 #[.agg #[.int .i64 k, .int .i64 rd, .int .i64 a, .int .i64 b, .int .i64 imm]] w fun e w' => e = .returned (.bool true) ∧ Below w.heap.size w w' := by
  have HA := Lib.hid ((Below.refl w.heap.size w).alloc (Nat.le_refl _) (.cells #[.int .i64 k, .int .i64 rd, .int .i64 a, .int .i64 b, .int .i64 imm] 30))
  have HT := Lib.hid hT
  have hs := hT.size
  clear hT
  by_cases c1 : k < 1
  · clear hk
    go_enter Tryd.func4, Tryd.ntmps4
    go_wp2_with fail
    refine (shown_any (HT.out.below HA.out hs)).mono ?_
    rintro e w1 ⟨rfl, hb1⟩
    go_wp2
    go_ret
    exact ⟨rfl, HA.out.trans (hb1.mono HA.out.size)⟩
  · by_cases c2 : 22 < k
    · clear hk
      go_enter Tryd.func4, Tryd.ntmps4
      go_wp2_with fail
      refine (shown_any (HT.out.below HA.out hs)).mono ?_
      rintro e w1 ⟨rfl, hb1⟩
      go_wp2
      go_ret
      exact ⟨rfl, HA.out.trans (hb1.mono HA.out.size)⟩
    · have c3 : 11 < k := by omega
      have e1 : (k == 19) = false := by rw [beq_eq_false_iff_ne]; omega
      have e2 : (k == 21) = false := by rw [beq_eq_false_iff_ne]; omega
      have e3 : (k != 19) = true := by rw [bne_iff_ne]; omega
      have e4 : (k != 21) = true := by rw [bne_iff_ne]; omega
      clear hk
      go_enter Tryd.func4, Tryd.ntmps4
      go_wp2_with fail
      refine (shown_any (HT.out.below HA.out hs)).mono ?_
      rintro e w1 ⟨rfl, hb1⟩
      go_wp2
      go_ret
      exact ⟨rfl, HA.out.trans (hb1.mono HA.out.size)⟩
theorem fields_any {k rd a b imm : Int} {w : World} (hT : Tab w) :
    Calls Tryd.prog 4 #[.agg #[.int .i64 k, .int .i64 rd, .int .i64 a, .int .i64 b, .int .i64 imm]] w fun e w' => e = .returned (.bool true) ∧ Below w.heap.size w w' := by
  by_cases h : k < 1 ∨ 22 < k ∨ 11 < k ∧ k ≠ 19 ∧ k ≠ 21
  · exact fields_out hT h
  · by_cases h1 : k = 19
    · subst h1; exact fields_I hT
    · by_cases h2 : k = 21
      · subst h2; exact fields_S hT
      · obtain ⟨k, rfl⟩ := Int.eq_ofNat_of_zero_le (show 0 ≤ k by omega)
        exact fields_R hT ⟨by omega, by omega⟩
theorem opens_fields {w : World} : Opens Tryd.prog w 30 OpD.cells (fun _ => True) := by
  intro H enc fuel cs y h hw
  obtain ⟨n, hl, hf⟩ := open_one Tryd.underlying30 (by kernel_rfl) (show Tryd.prog.cellsOf 30 = 5 by kernel_rfl) h hw
  match cs, hl with
  | [c0, c1, c2, c3, c4], _ =>
    obtain ⟨v0, y0, e0, t0, w0⟩ := hf 0 _ rfl
    obtain ⟨v1, y1, e1, t1, w1⟩ := hf 1 _ rfl
    obtain ⟨v2, y2, e2, t2, w2⟩ := hf 2 _ rfl
    obtain ⟨v3, y3, e3, t3, w3⟩ := hf 3 _ rfl
    obtain ⟨v4, y4, e4, t4, w4⟩ := hf 4 _ rfl
    obtain ⟨x0, h0, _⟩ := opens_int Tryd.underlying3 enc _ _ _ t0 w0
    obtain ⟨x1, h1, _⟩ := opens_int Tryd.underlying3 enc _ _ _ t1 w1
    obtain ⟨x2, h2, _⟩ := opens_int Tryd.underlying3 enc _ _ _ t2 w2
    obtain ⟨x3, h3, _⟩ := opens_int Tryd.underlying3 enc _ _ _ t3 w3
    obtain ⟨x4, h4, _⟩ := opens_int Tryd.underlying2 enc _ _ _ t4 w4
    simp only [List.getElem?_cons_zero, List.getElem?_cons_succ, Option.some.injEq, List.cons.injEq, and_true] at e0 e1 e2 e3 e4 h0 h1 h2 h3 h4
    subst e0 e1 e2 e3 e4 h0 h1 h2 h3 h4
    exact ⟨⟨x0, x1, x2, x3, x4⟩, rfl, trivial⟩

end Go.Proofs.YthnekmfcbbohkaaDoor
