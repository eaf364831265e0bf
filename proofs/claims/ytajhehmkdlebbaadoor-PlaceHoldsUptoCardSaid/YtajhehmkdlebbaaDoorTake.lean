/- enc.Take: the instruction of a word: the first kind whose parts may be and give that word again. -/
import Derived.Test.YtajhehmkdlebbaaDoorParts
namespace Go.Proofs.YtajhehmkdlebbaaDoor
open Go.ChangeShapes Go.WideShapes Go.ChangeAt Go.RowKit
set_option maxRecDepth 100000
/-- does kind k's reading of a word give it again? -/
def hit (k : Nat) (v : Int) : Bool := mayB k (pRd (formI k) v) (pA (formI k) v) (pB (formI k) v) (pI (formI k) v) && decide (wordI k (pRd (formI k) v) (pA (formI k) v) (pB (formI k) v) (pI (formI k) v) = v)
/-- the least kind above 0 that does -/
def takeK (v : Int) : Option Nat := (List.range' 1 31).find? fun k => hit k v
def takeV (v : Int) : Value := match takeK v with
  | some k => .agg #[.int .i64 k, .int .i64 (pRd (formI k) v), .int .i64 (pA (formI k) v), .int .i64 (pB (formI k) v), .int .i64 (pI (formI k) v)]
  | none => .agg #[.int .i64 0, .int .i64 0, .int .i64 0, .int .i64 0, .int .i64 0]
def takeE (v : Int) : Int := match takeK v with
  | some _ => 0
  | none => 5
theorem takeK_some {v : Int} {k : Nat} (h1 : 1 ≤ k) (h2 : k < 32) (hno : ∀ j : Nat, 1 ≤ j → j < k → hit j v = false) (hk : hit k v = true) : takeK v = some k := by
  unfold takeK
  rw [List.find?_range'_eq_some]
  refine ⟨hk, ?_, fun j hj1 hj2 => ?_⟩
  · rw [List.mem_range'_1]; omega
  · rw [hno j (by omega) (by omega)]; rfl
theorem takeK_none {v : Int} (hno : ∀ j : Nat, 1 ≤ j → j < 32 → hit j v = false) : takeK v = none := by
  unfold takeK
  rw [List.find?_eq_none]
  intro j hj
  rw [List.mem_range'_1] at hj
  rw [hno j (by omega) (by omega)]
  decide
set_option maxHeartbeats 1000000 in
theorem take_any (v : Int) {w : World} (hT : Tab w) (hv : 0 ≤ v ∧ v < 4294967296) :
    Calls Tryd.prog 72 #[.int .u32 v] w fun e w' => e = .returned (.tuple #[takeV v, .int .i64 (takeE v)]) ∧ Below w.heap.size w w' := by
  have hs := hT.size
  go_enter Tryd.func72, Tryd.ntmps72
  go_wp2
  obtain ⟨w0, hw0⟩ : ∃ w0, w0 = w.alloc (.cells #[.int .i64 0, .int .i64 0, .int .i64 0, .int .i64 0, .int .i64 0] 23) := ⟨_, rfl⟩
  rw [← hw0]
  have hz0 : w.heap.size + 1 ≤ w0.heap.size := by rw [hw0]; simp
  have H0 : Below w.heap.size w w0 := by rw [hw0]; exact (Below.refl _ _).alloc (Nat.le_refl _) _
  have hc0 : ∀ j, j < 5 → w0.cell? ⟨w.heap.size, j, none⟩ = some (.int .i64 0) := by
    intro j hj
    rw [hw0, cell_of_row _ _ _ _ _ _ (heap_alloc_new w _)]
    match j, hj with
    | 0, _ => rfl
    | 1, _ => rfl
    | 2, _ => rfl
    | 3, _ => rfl
    | 4, _ => rfl
  have hf0 : ∀ j, w0.frozen? ⟨w.heap.size, j, none⟩ = false := by
    intro j
    have := heap_alloc_new w (.cells #[.int .i64 0, .int .i64 0, .int .i64 0, .int .i64 0, .int .i64 0] 23)
    rw [← hw0] at this
    simp [World.frozen?, this]
  have HC := Lib.hid hc0
  have HF := Lib.hid hf0
  have HW := Lib.hid hw0
  have hT0 := hT.below H0 hs
  have HT := Lib.hid hT0
  clear hc0 hf0 hw0 hT0 hT
  go_loopw [4] (fun i wr => ∃ k : Nat, 1 ≤ k ∧ k ≤ 32 ∧ i = .int .i64 k ∧ Below (w.heap.size + 1) w0 wr ∧ Hid (∀ j : Nat, 1 ≤ j → j < k → hit j v = false)) (fun i _ => 32 - (intOf i).toNat)
  case atStart => exact ⟨1, by omega, by omega, rfl, Below.refl _ _, fun j h1 h2 => absurd h2 (by omega)⟩
  case round =>
    obtain ⟨k, hk1, hk2, rfl, hbw, hno⟩ := hrel
    by_cases hlt : k ≤ 31
    · have hTr := Lib.hid (HT.out.below hbw (by omega))
      have hzr : w.heap.size + 1 ≤ wr.heap.size := Nat.le_trans hz0 hbw.size
      cases hm : mayB k (pRd (formI k) v) (pA (formI k) v) (pB (formI k) v) (pI (formI k) v)
      · go_wp2_with (first
          | (go_at_call 93
             refine (parts_any k v hTr.out ⟨hk1, by omega⟩ hv).mono ?_
             rintro e w1 ⟨rfl, hb1⟩
             have hB1 := Lib.hid ((hbw.trans (hb1.mono hzr)).alloc (Nat.le_trans hz0 (hbw.trans (hb1.mono hzr)).size) (.cells #[.int .i64 k, .int .i64 (pRd (formI k) v), .int .i64 (pA (formI k) v), .int .i64 (pB (formI k) v), .int .i64 (pI (formI k) v)] 23)))
          | (go_at_call 82
             refine (word_bad (HT.out.below hB1.out (by omega)) hm).mono ?_
             rintro e w2 ⟨rfl, hb2⟩))
        have hh : hit k v = false := by unfold hit; rw [hm]; rfl
        exact ⟨⟨k + 1, by omega, by omega, by go_num, hB1.out.trans (hb2.mono (Nat.le_trans hz0 hB1.out.size)), fun j h1 h2 => if hj : j = k then by rw [hj]; exact hh else hno.out j h1 (by omega)⟩, by simp [intOf]; omega⟩
      · have htr : wordI k (pRd (formI k) v) (pA (formI k) v) (pB (formI k) v) (pI (formI k) v) = v ∨ ¬ wordI k (pRd (formI k) v) (pA (formI k) v) (pB (formI k) v) (pI (formI k) v) = v := Decidable.em _
        rcases htr with hq | hq
        · have hh : hit k v = true := by unfold hit; rw [hm, hq]; exact decide_eq_true rfl
          have hq' : (wordI k (pRd (formI k) v) (pA (formI k) v) (pB (formI k) v) (pI (formI k) v) == v) = true := beq_iff_eq.2 hq
          have Hq := Lib.hid hq
          clear hq
          go_wp2_with (first
            | (go_at_call 93
               refine (parts_any k v hTr.out ⟨hk1, by omega⟩ hv).mono ?_
               rintro e w1 ⟨rfl, hb1⟩
               have hB1 := Lib.hid ((hbw.trans (hb1.mono hzr)).alloc (Nat.le_trans hz0 (hbw.trans (hb1.mono hzr)).size) (.cells #[.int .i64 k, .int .i64 (pRd (formI k) v), .int .i64 (pA (formI k) v), .int .i64 (pB (formI k) v), .int .i64 (pI (formI k) v)] 23)))
            | (go_at_call 82
               refine (word_good (HT.out.below hB1.out (by omega)) hm).mono ?_
               rintro e w2 ⟨rfl, hb2⟩
               have hB2 := Lib.hid (hB1.out.trans (hb2.mono (Nat.le_trans hz0 hB1.out.size)))
               have hsz : w1.heap.size < w2.heap.size := by have := hb2.size; simp at this; omega
               obtain ⟨hc2, hf2⟩ := bcell hb2
               have r0 := (hB2.out.cell (p := ⟨w.heap.size, 0, none⟩) (by simp)).trans (HC.out 0 (by omega))
               have g0 := (hB2.out.frozen (p := ⟨w.heap.size, 0, none⟩) (by simp)).trans (HF.out 0)
               have r1 := (hB2.out.cell (p := ⟨w.heap.size, 1, none⟩) (by simp)).trans (HC.out 1 (by omega))
               have g1 := (hB2.out.frozen (p := ⟨w.heap.size, 1, none⟩) (by simp)).trans (HF.out 1)
               have r2 := (hB2.out.cell (p := ⟨w.heap.size, 2, none⟩) (by simp)).trans (HC.out 2 (by omega))
               have g2 := (hB2.out.frozen (p := ⟨w.heap.size, 2, none⟩) (by simp)).trans (HF.out 2)
               have r3 := (hB2.out.cell (p := ⟨w.heap.size, 3, none⟩) (by simp)).trans (HC.out 3 (by omega))
               have g3 := (hB2.out.frozen (p := ⟨w.heap.size, 3, none⟩) (by simp)).trans (HF.out 3)
               have r4 := (hB2.out.cell (p := ⟨w.heap.size, 4, none⟩) (by simp)).trans (HC.out 4 (by omega))
               have g4 := (hB2.out.frozen (p := ⟨w.heap.size, 4, none⟩) (by simp)).trans (HF.out 4)))
          refine bodyPost_ret (v := ?v) ?_ rfl ⟨?_, ?_⟩
          rotate_left
          · simp [results, Tryd.results72, go_sem, r0, r1, r2, r3, r4]
            rfl
          · unfold takeV takeE
            rw [takeK_some hk1 (by omega) hno.out hh]
          · repeat (first | (with_reducible refine Below.setCell ?_ (by simp) _) | (with_reducible exact (H0.trans (hB2.out.mono (Nat.le_succ _)))))
        · have hq' : (wordI k (pRd (formI k) v) (pA (formI k) v) (pB (formI k) v) (pI (formI k) v) == v) = false := beq_eq_false_iff_ne.2 hq
          have hh : hit k v = false := by unfold hit; rw [hm]; exact decide_eq_false hq
          have Hq := Lib.hid hq
          clear hq
          go_wp2_with (first
            | (go_at_call 93
               refine (parts_any k v hTr.out ⟨hk1, by omega⟩ hv).mono ?_
               rintro e w1 ⟨rfl, hb1⟩
               have hB1 := Lib.hid ((hbw.trans (hb1.mono hzr)).alloc (Nat.le_trans hz0 (hbw.trans (hb1.mono hzr)).size) (.cells #[.int .i64 k, .int .i64 (pRd (formI k) v), .int .i64 (pA (formI k) v), .int .i64 (pB (formI k) v), .int .i64 (pI (formI k) v)] 23)))
            | (go_at_call 82
               refine (word_good (HT.out.below hB1.out (by omega)) hm).mono ?_
               rintro e w2 ⟨rfl, hb2⟩
               have hB2 := Lib.hid (hB1.out.trans (hb2.mono (Nat.le_trans hz0 hB1.out.size)))
               have hsz : w1.heap.size < w2.heap.size := by have := hb2.size; simp at this; omega
               obtain ⟨hc2, hf2⟩ := bcell hb2
               skip))
          exact ⟨⟨k + 1, by omega, by omega, by go_num, hB1.out.trans (hb2.mono (Nat.le_trans hz0 hB1.out.size)), fun j h1 h2 => if hj : j = k then by rw [hj]; exact hh else hno.out j h1 (by omega)⟩, by simp [intOf]; omega⟩
    · obtain rfl : k = 32 := by omega
      have r0 := (hbw.cell (p := ⟨w.heap.size, 0, none⟩) (by simp)).trans (HC.out 0 (by omega))
      have r1 := (hbw.cell (p := ⟨w.heap.size, 1, none⟩) (by simp)).trans (HC.out 1 (by omega))
      have r2 := (hbw.cell (p := ⟨w.heap.size, 2, none⟩) (by simp)).trans (HC.out 2 (by omega))
      have r3 := (hbw.cell (p := ⟨w.heap.size, 3, none⟩) (by simp)).trans (HC.out 3 (by omega))
      have r4 := (hbw.cell (p := ⟨w.heap.size, 4, none⟩) (by simp)).trans (HC.out 4 (by omega))
      have g0 := (hbw.frozen (p := ⟨w.heap.size, 0, none⟩) (by simp)).trans (HF.out 0)
      have g1 := (hbw.frozen (p := ⟨w.heap.size, 1, none⟩) (by simp)).trans (HF.out 1)
      have g2 := (hbw.frozen (p := ⟨w.heap.size, 2, none⟩) (by simp)).trans (HF.out 2)
      have g3 := (hbw.frozen (p := ⟨w.heap.size, 3, none⟩) (by simp)).trans (HF.out 3)
      have g4 := (hbw.frozen (p := ⟨w.heap.size, 4, none⟩) (by simp)).trans (HF.out 4)
      go_wp2
      refine bodyPost_ret (v := ?v2) ?_ rfl ⟨?_, ?_⟩
      rotate_left
      · simp [results, Tryd.results72, go_sem, r0, r1, r2, r3, r4]
        rfl
      · unfold takeV takeE
        rw [takeK_none hno.out]
      · repeat (first | (with_reducible refine Below.setCell ?_ (by simp) _) | (with_reducible exact (H0.trans (hbw.mono (Nat.le_succ _)))))
end Go.Proofs.YtajhehmkdlebbaaDoor
