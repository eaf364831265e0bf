/- The laws of enc's words: EncApart, EncLow, EncBack, EncFar, EncFields: walked. -/
import Derived.Test.YthnekmfcbbohkaaDoorPlain
namespace Go.Proofs.YthnekmfcbbohkaaDoor
open Go.ChangeShapes Go.WideShapes Go.ChangeAt Go.RowKit
set_option maxRecDepth 100000
theorem take_some {v : Int} {k : Nat} {w : World} (hT : Tab w) (hv : 0 ≤ v ∧ v < 4294967296) (h : takeK v = some k) :
    Calls Tryd.prog 15 #[.int .u32 v] w fun e w' => e = .returned (.tuple #[.agg #[.int .i64 k, .int .i64 (pRd (formI k) v), .int .i64 (pA (formI k) v), .int .i64 (pB (formI k) v), .int .i64 (pI (formI k) v)], .int .i64 0]) ∧ Below w.heap.size w w' :=
  (take_any v hT hv).mono fun e w' ⟨he, hb⟩ => ⟨by rw [he]; unfold takeV takeE; rw [h], hb⟩
theorem take_none {v : Int} {w : World} (hT : Tab w) (hv : 0 ≤ v ∧ v < 4294967296) (h : takeK v = none) :
    Calls Tryd.prog 15 #[.int .u32 v] w fun e w' => e = .returned (.tuple #[.agg #[.int .i64 0, .int .i64 0, .int .i64 0, .int .i64 0, .int .i64 0], .int .i64 5]) ∧ Below w.heap.size w w' :=
  (take_any v hT hv).mono fun e w' ⟨he, hb⟩ => ⟨by rw [he]; unfold takeV takeE; rw [h], hb⟩
theorem shown_any {w : World} (hT : Tab w) :
    Calls Tryd.prog 12 #[] w fun e w' => e = .returned (.bool true) ∧ Below w.heap.size w w' := by
  have m1 : mayB 12 1 2 0 (-1) = true := mayB_true (by decide)
  have m2 : mayB 29 0 0 0 (-4) = true := mayB_true (by decide)
  have v1 : wordI 12 1 2 0 (-1) = 4293984403 := by decide
  have v2 : wordI 29 0 0 0 (-4) = 4292866159 := by decide
  have w1 := @word_good 12 1 2 0 (-1) w hT m1
  rw [v1] at w1
  have W1 := Lib.hid w1
  have V2 := Lib.hid v2
  have M2 := Lib.hid m2
  clear w1 v1 m1 v2 m2
  go_enter Tryd.func12, Tryd.ntmps12
  go_wp2_with fail
  refine W1.out.mono ?_
  rintro e w1 ⟨rfl, hb1⟩
  go_wp2_with fail
  refine (@word_good 29 0 0 0 (-4) w1 (hT.below hb1 hT.size) M2.out).mono ?_
  rintro e w2 ⟨rfl, hb2⟩
  rw [V2.out]
  go_wp2
  go_ret
  exact ⟨rfl, hb1.trans (hb2.mono hb1.size)⟩
theorem word_inj {k rd a b imm k' rd' a' b' imm' : Int} (h : MayP k rd a b imm) (h' : MayP k' rd' a' b' imm') (e : wordI k rd a b imm = wordI k' rd' a' b' imm') : k = k' ∧ rd = rd' ∧ a = a' ∧ b = b' ∧ imm = imm' := by
  obtain ⟨k, rfl⟩ := Int.eq_ofNat_of_zero_le (show 0 ≤ k by have := h.1; omega)
  obtain ⟨k', rfl⟩ := Int.eq_ofNat_of_zero_le (show 0 ≤ k' by have := h'.1; omega)
  obtain rfl := kind_one h h' e
  obtain ⟨_, h1, h2, h3, h4⟩ := hit_self h
  obtain ⟨_, h1', h2', h3', h4'⟩ := hit_self h'
  rw [e] at h1 h2 h3 h4
  exact ⟨rfl, h1.symm.trans h1', h2.symm.trans h2', h3.symm.trans h3', h4.symm.trans h4'⟩
theorem wordI_facts {k rd a b imm : Int} (hm : mayB k rd a b imm = true) : 0 ≤ wordI k rd a b imm ∧ (wordI k rd a b imm % 4 == 3) = true := by
  have h := mayB_out hm
  obtain ⟨k, rfl⟩ := Int.eq_ofNat_of_zero_le (show 0 ≤ k by have := h.1; omega)
  exact ⟨(word_bd h).1, by rw [beq_iff_eq]; exact word_low h⟩
theorem takeK_low {v : Int} {k : Nat} (h : takeK v = some k) : v % 4 = 3 := by
  obtain ⟨_, _, h3, h4⟩ := takeK_out h
  rw [← h4]; exact word_low h3
set_option maxHeartbeats 400000 in
theorem apart_any {k rd a b imm k' rd' a' b' imm' : Int} {w : World} (hT : Tab w) :
    Calls Tryd.prog 3 #[.agg #[.int .i64 k, .int .i64 rd, .int .i64 a, .int .i64 b, .int .i64 imm], .agg #[.int .i64 k', .int .i64 rd', .int .i64 a', .int .i64 b', .int .i64 imm']] w fun e w' => e = .returned (.bool true) ∧ Below w.heap.size w w' := by
  have HA := Lib.hid (((Below.refl w.heap.size w).alloc (Nat.le_refl _) (.cells #[.int .i64 k, .int .i64 rd, .int .i64 a, .int .i64 b, .int .i64 imm] 23)).alloc (by simp) (.cells #[.int .i64 k', .int .i64 rd', .int .i64 a', .int .i64 b', .int .i64 imm'] 23))
  have HT := Lib.hid hT
  have hs := hT.size
  clear hT
  cases hm : mayB k rd a b imm
  · have HM := Lib.hid hm
    clear hm
    cases hm' : mayB k' rd' a' b' imm'
    · have HM' := Lib.hid hm'
      clear hm'
      go_enter Tryd.func3, Tryd.ntmps3
      go_wp2_with fail
      refine (shown_any (HT.out.below HA.out hs)).mono ?_
      rintro e w1 ⟨rfl, hb1⟩
      have H1 := Lib.hid (HA.out.trans (hb1.mono HA.out.size))
      have z1_0 : w.heap.size < w1.heap.size := by have := hb1.size; simp at this; omega
      have z1_1 : w.heap.size + 1 < w1.heap.size := by have := hb1.size; simp at this; omega
      obtain ⟨c1, f1⟩ := bcell hb1
      go_wp2_with fail
      refine (word_bad (HT.out.below H1.out hs) HM.out).mono ?_
      rintro e w2 ⟨rfl, hb2⟩
      have H2 := Lib.hid (H1.out.trans (hb2.mono H1.out.size))
      have z2_0 : w.heap.size < w2.heap.size := by have := hb2.size; omega
      have z2_1 : w.heap.size + 1 < w2.heap.size := by have := hb2.size; omega
      obtain ⟨c2, f2⟩ := bcell hb2
      go_wp2_with fail
      refine (word_bad (HT.out.below H2.out hs) HM'.out).mono ?_
      rintro e w3 ⟨rfl, hb3⟩
      have H3 := Lib.hid (H2.out.trans (hb3.mono H2.out.size))
      have z3_0 : w.heap.size < w3.heap.size := by have := hb3.size; omega
      have z3_1 : w.heap.size + 1 < w3.heap.size := by have := hb3.size; omega
      obtain ⟨c3, f3⟩ := bcell hb3
      go_wp2
      go_ret
      exact ⟨rfl, H3.out⟩
    · have HM' := Lib.hid hm'
      clear hm'
      go_enter Tryd.func3, Tryd.ntmps3
      go_wp2_with fail
      refine (shown_any (HT.out.below HA.out hs)).mono ?_
      rintro e w1 ⟨rfl, hb1⟩
      have H1 := Lib.hid (HA.out.trans (hb1.mono HA.out.size))
      have z1_0 : w.heap.size < w1.heap.size := by have := hb1.size; simp at this; omega
      have z1_1 : w.heap.size + 1 < w1.heap.size := by have := hb1.size; simp at this; omega
      obtain ⟨c1, f1⟩ := bcell hb1
      go_wp2_with fail
      refine (word_bad (HT.out.below H1.out hs) HM.out).mono ?_
      rintro e w2 ⟨rfl, hb2⟩
      have H2 := Lib.hid (H1.out.trans (hb2.mono H1.out.size))
      have z2_0 : w.heap.size < w2.heap.size := by have := hb2.size; omega
      have z2_1 : w.heap.size + 1 < w2.heap.size := by have := hb2.size; omega
      obtain ⟨c2, f2⟩ := bcell hb2
      go_wp2_with fail
      refine (word_good (HT.out.below H2.out hs) HM'.out).mono ?_
      rintro e w3 ⟨rfl, hb3⟩
      have H3 := Lib.hid (H2.out.trans (hb3.mono H2.out.size))
      have z3_0 : w.heap.size < w3.heap.size := by have := hb3.size; omega
      have z3_1 : w.heap.size + 1 < w3.heap.size := by have := hb3.size; omega
      obtain ⟨c3, f3⟩ := bcell hb3
      go_wp2
      go_ret
      exact ⟨rfl, H3.out⟩
  · have HM := Lib.hid hm
    clear hm
    cases hm' : mayB k' rd' a' b' imm'
    · have HM' := Lib.hid hm'
      clear hm'
      go_enter Tryd.func3, Tryd.ntmps3
      go_wp2_with fail
      refine (shown_any (HT.out.below HA.out hs)).mono ?_
      rintro e w1 ⟨rfl, hb1⟩
      have H1 := Lib.hid (HA.out.trans (hb1.mono HA.out.size))
      have z1_0 : w.heap.size < w1.heap.size := by have := hb1.size; simp at this; omega
      have z1_1 : w.heap.size + 1 < w1.heap.size := by have := hb1.size; simp at this; omega
      obtain ⟨c1, f1⟩ := bcell hb1
      go_wp2_with fail
      refine (word_good (HT.out.below H1.out hs) HM.out).mono ?_
      rintro e w2 ⟨rfl, hb2⟩
      have H2 := Lib.hid (H1.out.trans (hb2.mono H1.out.size))
      have z2_0 : w.heap.size < w2.heap.size := by have := hb2.size; omega
      have z2_1 : w.heap.size + 1 < w2.heap.size := by have := hb2.size; omega
      obtain ⟨c2, f2⟩ := bcell hb2
      go_wp2_with fail
      refine (word_bad (HT.out.below H2.out hs) HM'.out).mono ?_
      rintro e w3 ⟨rfl, hb3⟩
      have H3 := Lib.hid (H2.out.trans (hb3.mono H2.out.size))
      have z3_0 : w.heap.size < w3.heap.size := by have := hb3.size; omega
      have z3_1 : w.heap.size + 1 < w3.heap.size := by have := hb3.size; omega
      obtain ⟨c3, f3⟩ := bcell hb3
      go_wp2
      go_ret
      exact ⟨rfl, H3.out⟩
    · have HM' := Lib.hid hm'
      clear hm'
      by_cases heq : k = k' ∧ rd = rd' ∧ a = a' ∧ b = b' ∧ imm = imm'
      · obtain ⟨rfl, rfl, rfl, rfl, rfl⟩ := heq
        go_enter Tryd.func3, Tryd.ntmps3
        go_wp2_with fail
        refine (shown_any (HT.out.below HA.out hs)).mono ?_
        rintro e w1 ⟨rfl, hb1⟩
        have H1 := Lib.hid (HA.out.trans (hb1.mono HA.out.size))
        have z1_0 : w.heap.size < w1.heap.size := by have := hb1.size; simp at this; omega
        have z1_1 : w.heap.size + 1 < w1.heap.size := by have := hb1.size; simp at this; omega
        obtain ⟨c1, f1⟩ := bcell hb1
        go_wp2_with fail
        refine (word_good (HT.out.below H1.out hs) HM.out).mono ?_
        rintro e w2 ⟨rfl, hb2⟩
        have H2 := Lib.hid (H1.out.trans (hb2.mono H1.out.size))
        have z2_0 : w.heap.size < w2.heap.size := by have := hb2.size; omega
        have z2_1 : w.heap.size + 1 < w2.heap.size := by have := hb2.size; omega
        obtain ⟨c2, f2⟩ := bcell hb2
        go_wp2_with fail
        refine (word_good (HT.out.below H2.out hs) HM'.out).mono ?_
        rintro e w3 ⟨rfl, hb3⟩
        have H3 := Lib.hid (H2.out.trans (hb3.mono H2.out.size))
        have z3_0 : w.heap.size < w3.heap.size := by have := hb3.size; omega
        have z3_1 : w.heap.size + 1 < w3.heap.size := by have := hb3.size; omega
        obtain ⟨c3, f3⟩ := bcell hb3
        go_wp2
        go_ret
        exact ⟨rfl, H3.out⟩
      · have hne : (wordI k rd a b imm == wordI k' rd' a' b' imm') = false := by
          rw [beq_eq_false_iff_ne]
          intro e
          exact heq (word_inj (mayB_out HM.out) (mayB_out HM'.out) e)
        have HQ := Lib.hid heq
        clear heq
        go_enter Tryd.func3, Tryd.ntmps3
        go_wp2_with fail
        refine (shown_any (HT.out.below HA.out hs)).mono ?_
        rintro e w1 ⟨rfl, hb1⟩
        have H1 := Lib.hid (HA.out.trans (hb1.mono HA.out.size))
        have z1_0 : w.heap.size < w1.heap.size := by have := hb1.size; simp at this; omega
        have z1_1 : w.heap.size + 1 < w1.heap.size := by have := hb1.size; simp at this; omega
        obtain ⟨c1, f1⟩ := bcell hb1
        go_wp2_with fail
        refine (word_good (HT.out.below H1.out hs) HM.out).mono ?_
        rintro e w2 ⟨rfl, hb2⟩
        have H2 := Lib.hid (H1.out.trans (hb2.mono H1.out.size))
        have z2_0 : w.heap.size < w2.heap.size := by have := hb2.size; omega
        have z2_1 : w.heap.size + 1 < w2.heap.size := by have := hb2.size; omega
        obtain ⟨c2, f2⟩ := bcell hb2
        go_wp2_with fail
        refine (word_good (HT.out.below H2.out hs) HM'.out).mono ?_
        rintro e w3 ⟨rfl, hb3⟩
        have H3 := Lib.hid (H2.out.trans (hb3.mono H2.out.size))
        have z3_0 : w.heap.size < w3.heap.size := by have := hb3.size; omega
        have z3_1 : w.heap.size + 1 < w3.heap.size := by have := hb3.size; omega
        obtain ⟨c3, f3⟩ := bcell hb3
        go_wp2
        all_goals first
          | (exfalso; exact HQ.out ⟨by assumption, by assumption, by assumption, by assumption, by assumption⟩)
          | (go_ret; exact ⟨rfl, H3.out⟩)
set_option maxHeartbeats 400000 in
theorem low_any {k rd a b imm v : Int} {w : World} (hT : Tab w) (hv : 0 ≤ v ∧ v < 4294967296) :
    Calls Tryd.prog 7 #[.agg #[.int .i64 k, .int .i64 rd, .int .i64 a, .int .i64 b, .int .i64 imm], .int .u32 v] w fun e w' => e = .returned (.bool true) ∧ Below w.heap.size w w' := by
  have HA := Lib.hid ((Below.refl w.heap.size w).alloc (Nat.le_refl _) (.cells #[.int .i64 k, .int .i64 rd, .int .i64 a, .int .i64 b, .int .i64 imm] 23))
  have HT := Lib.hid hT
  have hs := hT.size
  clear hT
  cases hk : takeK v with
  | some j =>
    have HK := Lib.hid hk
    have hv3 : (v % 4 == 3) = true := by rw [beq_iff_eq]; exact takeK_low hk
    clear hk
    cases hm : mayB k rd a b imm
    · have HM := Lib.hid hm
      clear hm
      go_enter Tryd.func7, Tryd.ntmps7
      go_wp2_with fail
      refine (shown_any (HT.out.below HA.out hs)).mono ?_
      rintro e w1 ⟨rfl, hb1⟩
      have H1 := Lib.hid (HA.out.trans (hb1.mono HA.out.size))
      have z1_0 : w.heap.size < w1.heap.size := by have := hb1.size; simp at this; omega
      obtain ⟨c1, f1⟩ := bcell hb1
      go_wp2_with fail
      refine (word_bad (HT.out.below H1.out hs) HM.out).mono ?_
      rintro e w2 ⟨rfl, hb2⟩
      have H2 := Lib.hid (H1.out.trans (hb2.mono H1.out.size))
      have z2_0 : w.heap.size < w2.heap.size := by have := hb2.size; omega
      obtain ⟨c2, f2⟩ := bcell hb2
      go_wp2_with fail
      refine (take_some (HT.out.below H2.out hs) hv HK.out).mono ?_
      rintro e w3 ⟨rfl, hb3⟩
      have H3 := Lib.hid (H2.out.trans (hb3.mono H2.out.size))
      have z3_0 : w.heap.size < w3.heap.size := by have := hb3.size; omega
      obtain ⟨c3, f3⟩ := bcell hb3
      go_wp2
      go_ret
      exact ⟨rfl, H3.out.alloc H3.out.size _⟩
    · have HM := Lib.hid hm
      have hw0 := (wordI_facts hm).1
      have hw4 : (wordI k rd a b imm % 4 == 3) = true := (wordI_facts hm).2
      clear hm
      go_enter Tryd.func7, Tryd.ntmps7
      go_wp2_with fail
      refine (shown_any (HT.out.below HA.out hs)).mono ?_
      rintro e w1 ⟨rfl, hb1⟩
      have H1 := Lib.hid (HA.out.trans (hb1.mono HA.out.size))
      have z1_0 : w.heap.size < w1.heap.size := by have := hb1.size; simp at this; omega
      obtain ⟨c1, f1⟩ := bcell hb1
      go_wp2_with fail
      refine (word_good (HT.out.below H1.out hs) HM.out).mono ?_
      rintro e w2 ⟨rfl, hb2⟩
      have H2 := Lib.hid (H1.out.trans (hb2.mono H1.out.size))
      have z2_0 : w.heap.size < w2.heap.size := by have := hb2.size; omega
      obtain ⟨c2, f2⟩ := bcell hb2
      go_wp2_with fail
      refine (take_some (HT.out.below H2.out hs) hv HK.out).mono ?_
      rintro e w3 ⟨rfl, hb3⟩
      have H3 := Lib.hid (H2.out.trans (hb3.mono H2.out.size))
      have z3_0 : w.heap.size < w3.heap.size := by have := hb3.size; omega
      obtain ⟨c3, f3⟩ := bcell hb3
      go_wp2
      go_ret
      exact ⟨rfl, H3.out.alloc H3.out.size _⟩
  | none =>
    have HK := Lib.hid hk
    clear hk
    cases hm : mayB k rd a b imm
    · have HM := Lib.hid hm
      clear hm
      cases h4 : (v % 4 == 3)
      · go_enter Tryd.func7, Tryd.ntmps7
        go_wp2_with fail
        refine (shown_any (HT.out.below HA.out hs)).mono ?_
        rintro e w1 ⟨rfl, hb1⟩
        have H1 := Lib.hid (HA.out.trans (hb1.mono HA.out.size))
        have z1_0 : w.heap.size < w1.heap.size := by have := hb1.size; simp at this; omega
        obtain ⟨c1, f1⟩ := bcell hb1
        go_wp2_with fail
        refine (word_bad (HT.out.below H1.out hs) HM.out).mono ?_
        rintro e w2 ⟨rfl, hb2⟩
        have H2 := Lib.hid (H1.out.trans (hb2.mono H1.out.size))
        have z2_0 : w.heap.size < w2.heap.size := by have := hb2.size; omega
        obtain ⟨c2, f2⟩ := bcell hb2
        go_wp2_with fail
        refine (take_none (HT.out.below H2.out hs) hv HK.out).mono ?_
        rintro e w3 ⟨rfl, hb3⟩
        have H3 := Lib.hid (H2.out.trans (hb3.mono H2.out.size))
        have z3_0 : w.heap.size < w3.heap.size := by have := hb3.size; omega
        obtain ⟨c3, f3⟩ := bcell hb3
        go_wp2
        go_ret
        exact ⟨rfl, H3.out.alloc H3.out.size _⟩
      · go_enter Tryd.func7, Tryd.ntmps7
        go_wp2_with fail
        refine (shown_any (HT.out.below HA.out hs)).mono ?_
        rintro e w1 ⟨rfl, hb1⟩
        have H1 := Lib.hid (HA.out.trans (hb1.mono HA.out.size))
        have z1_0 : w.heap.size < w1.heap.size := by have := hb1.size; simp at this; omega
        obtain ⟨c1, f1⟩ := bcell hb1
        go_wp2_with fail
        refine (word_bad (HT.out.below H1.out hs) HM.out).mono ?_
        rintro e w2 ⟨rfl, hb2⟩
        have H2 := Lib.hid (H1.out.trans (hb2.mono H1.out.size))
        have z2_0 : w.heap.size < w2.heap.size := by have := hb2.size; omega
        obtain ⟨c2, f2⟩ := bcell hb2
        go_wp2_with fail
        refine (take_none (HT.out.below H2.out hs) hv HK.out).mono ?_
        rintro e w3 ⟨rfl, hb3⟩
        have H3 := Lib.hid (H2.out.trans (hb3.mono H2.out.size))
        have z3_0 : w.heap.size < w3.heap.size := by have := hb3.size; omega
        obtain ⟨c3, f3⟩ := bcell hb3
        go_wp2
        go_ret
        exact ⟨rfl, H3.out.alloc H3.out.size _⟩
    · have HM := Lib.hid hm
      have hw0 := (wordI_facts hm).1
      have hw4 : (wordI k rd a b imm % 4 == 3) = true := (wordI_facts hm).2
      clear hm
      cases h4 : (v % 4 == 3)
      · go_enter Tryd.func7, Tryd.ntmps7
        go_wp2_with fail
        refine (shown_any (HT.out.below HA.out hs)).mono ?_
        rintro e w1 ⟨rfl, hb1⟩
        have H1 := Lib.hid (HA.out.trans (hb1.mono HA.out.size))
        have z1_0 : w.heap.size < w1.heap.size := by have := hb1.size; simp at this; omega
        obtain ⟨c1, f1⟩ := bcell hb1
        go_wp2_with fail
        refine (word_good (HT.out.below H1.out hs) HM.out).mono ?_
        rintro e w2 ⟨rfl, hb2⟩
        have H2 := Lib.hid (H1.out.trans (hb2.mono H1.out.size))
        have z2_0 : w.heap.size < w2.heap.size := by have := hb2.size; omega
        obtain ⟨c2, f2⟩ := bcell hb2
        go_wp2_with fail
        refine (take_none (HT.out.below H2.out hs) hv HK.out).mono ?_
        rintro e w3 ⟨rfl, hb3⟩
        have H3 := Lib.hid (H2.out.trans (hb3.mono H2.out.size))
        have z3_0 : w.heap.size < w3.heap.size := by have := hb3.size; omega
        obtain ⟨c3, f3⟩ := bcell hb3
        go_wp2
        go_ret
        exact ⟨rfl, H3.out.alloc H3.out.size _⟩
      · go_enter Tryd.func7, Tryd.ntmps7
        go_wp2_with fail
        refine (shown_any (HT.out.below HA.out hs)).mono ?_
        rintro e w1 ⟨rfl, hb1⟩
        have H1 := Lib.hid (HA.out.trans (hb1.mono HA.out.size))
        have z1_0 : w.heap.size < w1.heap.size := by have := hb1.size; simp at this; omega
        obtain ⟨c1, f1⟩ := bcell hb1
        go_wp2_with fail
        refine (word_good (HT.out.below H1.out hs) HM.out).mono ?_
        rintro e w2 ⟨rfl, hb2⟩
        have H2 := Lib.hid (H1.out.trans (hb2.mono H1.out.size))
        have z2_0 : w.heap.size < w2.heap.size := by have := hb2.size; omega
        obtain ⟨c2, f2⟩ := bcell hb2
        go_wp2_with fail
        refine (take_none (HT.out.below H2.out hs) hv HK.out).mono ?_
        rintro e w3 ⟨rfl, hb3⟩
        have H3 := Lib.hid (H2.out.trans (hb3.mono H2.out.size))
        have z3_0 : w.heap.size < w3.heap.size := by have := hb3.size; omega
        obtain ⟨c3, f3⟩ := bcell hb3
        go_wp2
        go_ret
        exact ⟨rfl, H3.out.alloc H3.out.size _⟩

end Go.Proofs.YthnekmfcbbohkaaDoor
