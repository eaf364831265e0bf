/- EncWords: which instructions may be, their words, and the instruction of a word, are as the document says: walked. -/
import Derived.Test.YthnekmfcbbohkaaDoorRefBack
import Derived.Test.YthnekmfcbbohkaaDoorLaws2
namespace Go.Proofs.YthnekmfcbbohkaaDoor
open Go.ChangeShapes Go.WideShapes Go.ChangeAt Go.RowKit Go.Deep
set_option maxRecDepth 100000
/-- what a struct of five holds in a block -/
abbrev Box5 (w : World) (g : Nat) (o0 o1 o2 o3 o4 : Int) : Prop := w.cell? ⟨g, 0, none⟩ = some (.int .i64 o0) ∧ w.cell? ⟨g, 1, none⟩ = some (.int .i64 o1) ∧ w.cell? ⟨g, 2, none⟩ = some (.int .i64 o2) ∧ w.cell? ⟨g, 3, none⟩ = some (.int .i64 o3) ∧ w.cell? ⟨g, 4, none⟩ = some (.int .i64 o4)
theorem Box5.new (w : World) (o0 o1 o2 o3 o4 : Int) (t : TypeId) : Box5 (w.alloc (.cells #[.int .i64 o0, .int .i64 o1, .int .i64 o2, .int .i64 o3, .int .i64 o4] t)) w.heap.size o0 o1 o2 o3 o4 := by
  refine ⟨?_, ?_, ?_, ?_, ?_⟩ <;> (rw [cell_of_row _ _ _ _ _ _ (heap_alloc_new w _)]; rfl)
theorem Box5.below {w w' : World} {g : Nat} {o0 o1 o2 o3 o4 : Int} (h : Box5 w g o0 o1 o2 o3 o4) (hb : Below w.heap.size w w') : Box5 w' g o0 o1 o2 o3 o4 := by
  have hg : g < w.heap.size := (cell_block_lt h.1).1
  exact ⟨(hb.cell (p := ⟨g, 0, none⟩) hg).trans h.1, (hb.cell (p := ⟨g, 1, none⟩) hg).trans h.2.1, (hb.cell (p := ⟨g, 2, none⟩) hg).trans h.2.2.1, (hb.cell (p := ⟨g, 3, none⟩) hg).trans h.2.2.2.1, (hb.cell (p := ⟨g, 4, none⟩) hg).trans h.2.2.2.2⟩
theorem keep3 {w w' : World} {g g1 g2 : Nat} {o0 o1 o2 o3 o4 p0 p1 p2 p3 p4 q0 q1 q2 q3 q4 : Int} (h : Tab w ∧ Box5 w g o0 o1 o2 o3 o4 ∧ Box5 w g1 p0 p1 p2 p3 p4 ∧ Box5 w g2 q0 q1 q2 q3 q4) (hb : Below w.heap.size w w') :
    Tab w' ∧ Box5 w' g o0 o1 o2 o3 o4 ∧ Box5 w' g1 p0 p1 p2 p3 p4 ∧ Box5 w' g2 q0 q1 q2 q3 q4 := ⟨h.1.below hb h.1.size, h.2.1.below hb, h.2.2.1.below hb, h.2.2.2.below hb⟩
set_option maxHeartbeats 1600000 in
theorem words_any {k rd a b imm v : Int} {w : World} (hT : Tab w) (hv : 0 ≤ v ∧ v < 4294967296) :
    Calls Tryd.prog 5 #[.agg #[.int .i64 k, .int .i64 rd, .int .i64 a, .int .i64 b, .int .i64 imm], .int .u32 v] w fun e w' => e = .returned (.bool true) ∧ Below w.heap.size w w' := by
  have HA := Lib.hid ((Below.refl w.heap.size w).alloc (Nat.le_refl _) (.cells #[.int .i64 k, .int .i64 rd, .int .i64 a, .int .i64 b, .int .i64 imm] 23))
  have HT := Lib.hid hT
  have hs := hT.size
  clear hT
  obtain ⟨W, hW⟩ : ∃ W, W = (if mayB k rd a b imm then wordI k rd a b imm else 0) := ⟨_, rfl⟩
  obtain ⟨E, hE⟩ : ∃ E : Int, E = (if mayB k rd a b imm then 0 else 1) := ⟨_, rfl⟩
  obtain ⟨M, hM⟩ : ∃ M : Bool, M = mayB k rd a b imm := ⟨_, rfl⟩
  have HW := Lib.hid hW
  have HE := Lib.hid hE
  have HM := Lib.hid hM
  clear hW hE hM
  cases hk : takeK v with
  | some j =>
    have HK := Lib.hid hk
    clear hk
    go_enter Tryd.func5, Tryd.ntmps5
    go_wp2_with fail
    refine (shown_any (HT.out.below HA.out hs)).mono ?_
    rintro e w1 ⟨rfl, hb1⟩
    have H1 := Lib.hid (HA.out.trans (hb1.mono HA.out.size))
    have B1 := Lib.hid ((Box5.new w k rd a b imm 23).below hb1)
    have z1_0 : w.heap.size < w1.heap.size := by have := hb1.size; simp at this; omega
    obtain ⟨c1, f1⟩ := bcell hb1
    go_wp2_with fail
    refine (word_any _ _ _ _ _ (HT.out.below H1.out hs)).mono ?_
    rintro e w2 ⟨rfl, hb2⟩
    rw [← HW.out, ← HE.out]
    have H2 := Lib.hid (H1.out.trans (hb2.mono H1.out.size))
    have B2 := Lib.hid (B1.out.below hb2)
    have z2_0 : w.heap.size < w2.heap.size := by have := hb2.size; omega
    obtain ⟨c2, f2⟩ := bcell hb2
    go_wp2_with fail
    refine (rword_any _ _ _ _ _ _).mono ?_
    rintro e w3 ⟨rfl, hb3⟩
    rw [← HW.out, ← HE.out]
    have H3 := Lib.hid (H2.out.trans (hb3.mono H2.out.size))
    have B3 := Lib.hid (B2.out.below hb3)
    clear c1 f1 c2 f2 hb1 hb2 hb3
    go_wp2_with fail
    refine (take_some (HT.out.below H3.out hs) hv HK.out).mono ?_
    rintro e w4 ⟨rfl, hb4⟩
    have H4 := Lib.hid ((H3.out.trans (hb4.mono H3.out.size)).alloc (H3.out.trans (hb4.mono H3.out.size)).size (.cells #[.int .i64 (j : Int), .int .i64 (pRd (formI j) v), .int .i64 (pA (formI j) v), .int .i64 (pB (formI j) v), .int .i64 (pI (formI j) v)] 23))
    have k4 : Below w4.heap.size w4 (w4.alloc (.cells #[.int .i64 (j : Int), .int .i64 (pRd (formI j) v), .int .i64 (pA (formI j) v), .int .i64 (pB (formI j) v), .int .i64 (pI (formI j) v)] 23)) := (Below.refl _ _).alloc (Nat.le_refl _) _
    have B4 := Lib.hid ((B3.out.below hb4).below k4)
    have D4 := Lib.hid (Box5.new w4 (j : Int) (pRd (formI j) v) (pA (formI j) v) (pB (formI j) v) (pI (formI j) v) 23)
    clear k4 hb4
    go_wp2_with fail
    refine (rtakes_some rfl hv HK.out).mono ?_
    rintro e w5 ⟨rfl, hb5⟩
    have H5 := Lib.hid ((H4.out.trans (hb5.mono H4.out.size)).alloc (H4.out.trans (hb5.mono H4.out.size)).size (.cells #[.int .i64 (j : Int), .int .i64 (pRd (formI j) v), .int .i64 (pA (formI j) v), .int .i64 (pB (formI j) v), .int .i64 (pI (formI j) v)] 23))
    have k5 : Below w5.heap.size w5 (w5.alloc (.cells #[.int .i64 (j : Int), .int .i64 (pRd (formI j) v), .int .i64 (pA (formI j) v), .int .i64 (pB (formI j) v), .int .i64 (pI (formI j) v)] 23)) := (Below.refl _ _).alloc (Nat.le_refl _) _
    have B5 := Lib.hid ((B4.out.below hb5).below k5)
    have D5 := Lib.hid ((D4.out.below hb5).below k5)
    have E5 := Lib.hid (Box5.new w5 (j : Int) (pRd (formI j) v) (pA (formI j) v) (pB (formI j) v) (pI (formI j) v) 23)
    clear k5 hb5
    go_wp2_with fail
    have hS0 : Tab (w5.alloc (.cells #[.int .i64 (j : Int), .int .i64 (pRd (formI j) v), .int .i64 (pA (formI j) v), .int .i64 (pB (formI j) v), .int .i64 (pI (formI j) v)] 23)).drew ∧ Box5 (w5.alloc (.cells #[.int .i64 (j : Int), .int .i64 (pRd (formI j) v), .int .i64 (pA (formI j) v), .int .i64 (pB (formI j) v), .int .i64 (pI (formI j) v)] 23)).drew w.heap.size k rd a b imm ∧ Box5 (w5.alloc (.cells #[.int .i64 (j : Int), .int .i64 (pRd (formI j) v), .int .i64 (pA (formI j) v), .int .i64 (pB (formI j) v), .int .i64 (pI (formI j) v)] 23)).drew w4.heap.size (j : Int) (pRd (formI j) v) (pA (formI j) v) (pB (formI j) v) (pI (formI j) v) ∧ Box5 (w5.alloc (.cells #[.int .i64 (j : Int), .int .i64 (pRd (formI j) v), .int .i64 (pA (formI j) v), .int .i64 (pB (formI j) v), .int .i64 (pI (formI j) v)] 23)).drew w5.heap.size (j : Int) (pRd (formI j) v) (pA (formI j) v) (pB (formI j) v) (pI (formI j) v) := ⟨HT.out.below H5.out.drew hs, B5.out, D5.out, E5.out⟩
    go_region_held3 (fun w' => Tab w' ∧ Box5 w' w.heap.size k rd a b imm ∧ Box5 w' w4.heap.size (j : Int) (pRd (formI j) v) (pA (formI j) v) (pB (formI j) v) (pI (formI j) v) ∧ Box5 w' w5.heap.size (j : Int) (pRd (formI j) v) (pA (formI j) v) (pB (formI j) v) (pI (formI j) v)) (first | exact hS0 | exact hS6 | exact hS7)
      (first
        | (go_at_call 17
           with_reducible refine (may_any _ _ _ _ _ (And.left ‹Tab _ ∧ _›)).mono ?_
           rintro e w6 ⟨rfl, hb6⟩
           rw [← HM.out]
           have hS6 := keep3 ‹Tab _ ∧ _› hb6)
        | (go_at_call 18
           with_reducible refine (rmay_any _ _ _ _ _ _).mono ?_
           rintro e w7 ⟨rfl, hb7⟩
           rw [← HM.out]
           have hS7 := keep3 ‹Tab _ ∧ _› hb7))
    go_wp2
    go_ret
    have Q6 := H5.out.drew.trans (hb6.mono H5.out.size)
    exact ⟨rfl, Q6.trans (hb7.mono Q6.size)⟩
  | none =>
    have HK := Lib.hid hk
    clear hk
    go_enter Tryd.func5, Tryd.ntmps5
    go_wp2_with fail
    refine (shown_any (HT.out.below HA.out hs)).mono ?_
    rintro e w1 ⟨rfl, hb1⟩
    have H1 := Lib.hid (HA.out.trans (hb1.mono HA.out.size))
    have B1 := Lib.hid ((Box5.new w k rd a b imm 23).below hb1)
    have z1_0 : w.heap.size < w1.heap.size := by have := hb1.size; simp at this; omega
    obtain ⟨c1, f1⟩ := bcell hb1
    go_wp2_with fail
    refine (word_any _ _ _ _ _ (HT.out.below H1.out hs)).mono ?_
    rintro e w2 ⟨rfl, hb2⟩
    rw [← HW.out, ← HE.out]
    have H2 := Lib.hid (H1.out.trans (hb2.mono H1.out.size))
    have B2 := Lib.hid (B1.out.below hb2)
    have z2_0 : w.heap.size < w2.heap.size := by have := hb2.size; omega
    obtain ⟨c2, f2⟩ := bcell hb2
    go_wp2_with fail
    refine (rword_any _ _ _ _ _ _).mono ?_
    rintro e w3 ⟨rfl, hb3⟩
    rw [← HW.out, ← HE.out]
    have H3 := Lib.hid (H2.out.trans (hb3.mono H2.out.size))
    have B3 := Lib.hid (B2.out.below hb3)
    clear c1 f1 c2 f2 hb1 hb2 hb3
    go_wp2_with fail
    refine (take_none (HT.out.below H3.out hs) hv HK.out).mono ?_
    rintro e w4 ⟨rfl, hb4⟩
    have H4 := Lib.hid ((H3.out.trans (hb4.mono H3.out.size)).alloc (H3.out.trans (hb4.mono H3.out.size)).size (.cells #[.int .i64 0, .int .i64 0, .int .i64 0, .int .i64 0, .int .i64 0] 23))
    have k4 : Below w4.heap.size w4 (w4.alloc (.cells #[.int .i64 0, .int .i64 0, .int .i64 0, .int .i64 0, .int .i64 0] 23)) := (Below.refl _ _).alloc (Nat.le_refl _) _
    have B4 := Lib.hid ((B3.out.below hb4).below k4)
    have D4 := Lib.hid (Box5.new w4 0 0 0 0 0 23)
    clear k4 hb4
    go_wp2_with fail
    refine (rtakes_none rfl hv HK.out).mono ?_
    rintro e w5 ⟨rfl, hb5⟩
    have H5 := Lib.hid ((H4.out.trans (hb5.mono H4.out.size)).alloc (H4.out.trans (hb5.mono H4.out.size)).size (.cells #[.int .i64 0, .int .i64 0, .int .i64 0, .int .i64 0, .int .i64 0] 23))
    have k5 : Below w5.heap.size w5 (w5.alloc (.cells #[.int .i64 0, .int .i64 0, .int .i64 0, .int .i64 0, .int .i64 0] 23)) := (Below.refl _ _).alloc (Nat.le_refl _) _
    have B5 := Lib.hid ((B4.out.below hb5).below k5)
    have D5 := Lib.hid ((D4.out.below hb5).below k5)
    have E5 := Lib.hid (Box5.new w5 0 0 0 0 0 23)
    clear k5 hb5
    go_wp2_with fail
    have hS0 : Tab (w5.alloc (.cells #[.int .i64 0, .int .i64 0, .int .i64 0, .int .i64 0, .int .i64 0] 23)).drew ∧ Box5 (w5.alloc (.cells #[.int .i64 0, .int .i64 0, .int .i64 0, .int .i64 0, .int .i64 0] 23)).drew w.heap.size k rd a b imm ∧ Box5 (w5.alloc (.cells #[.int .i64 0, .int .i64 0, .int .i64 0, .int .i64 0, .int .i64 0] 23)).drew w4.heap.size 0 0 0 0 0 ∧ Box5 (w5.alloc (.cells #[.int .i64 0, .int .i64 0, .int .i64 0, .int .i64 0, .int .i64 0] 23)).drew w5.heap.size 0 0 0 0 0 := ⟨HT.out.below H5.out.drew hs, B5.out, D5.out, E5.out⟩
    go_region_held3 (fun w' => Tab w' ∧ Box5 w' w.heap.size k rd a b imm ∧ Box5 w' w4.heap.size 0 0 0 0 0 ∧ Box5 w' w5.heap.size 0 0 0 0 0) (first | exact hS0 | exact hS6 | exact hS7)
      (first
        | (go_at_call 17
           with_reducible refine (may_any _ _ _ _ _ (And.left ‹Tab _ ∧ _›)).mono ?_
           rintro e w6 ⟨rfl, hb6⟩
           rw [← HM.out]
           have hS6 := keep3 ‹Tab _ ∧ _› hb6)
        | (go_at_call 18
           with_reducible refine (rmay_any _ _ _ _ _ _).mono ?_
           rintro e w7 ⟨rfl, hb7⟩
           rw [← HM.out]
           have hS7 := keep3 ‹Tab _ ∧ _› hb7))
    go_wp2
    go_ret
    have Q6 := H5.out.drew.trans (hb6.mono H5.out.size)
    exact ⟨rfl, Q6.trans (hb7.mono Q6.size)⟩
end Go.Proofs.YthnekmfcbbohkaaDoor
