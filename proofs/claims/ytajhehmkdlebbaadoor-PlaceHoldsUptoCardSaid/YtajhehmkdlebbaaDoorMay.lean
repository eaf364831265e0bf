/- enc's words: an instruction as Lean data; which instructions may be (enc.May, by form). -/
import Derived.Test.YtajhehmkdlebbaaDoorLib
namespace Go.Proofs.YtajhehmkdlebbaaDoor
open Go.ChangeShapes Go.WideShapes Go.ChangeAt Go.RowKit
set_option maxRecDepth 100000
def withinB (n l m o : Int) : Bool := decide (l ≤ n ∧ n ≤ m ∧ n % o = 0)
theorem within_any (n l m o : Int) (w : World) (h0 : 0 < o) :
    Calls Tryd.prog 81 #[.int .i64 n, .int .i64 l, .int .i64 m, .int .i64 o] w fun e w' => e = .returned (.bool (withinB n l m o)) ∧ w = w' := by
  have hn : o ≠ 0 := by omega
  by_cases c1 : l ≤ n
  · by_cases c2 : n ≤ m
    · go_enter Tryd.func81, Tryd.ntmps81
      go_wp2
      go_ret
      exact ⟨ret_bool (by
        rw [Bool.eq_iff_iff]
        simp only [withinB, beq_iff_eq, decide_eq_true_eq]
        rw [← Int.dvd_iff_tmod_eq_zero, ← Int.dvd_iff_emod_eq_zero]
        exact ⟨fun h => ⟨c1, c2, h⟩, fun h => h.2.2⟩), rfl⟩
    · go_enter Tryd.func81, Tryd.ntmps81
      go_wp2
      go_ret
      exact ⟨ret_bool (by unfold withinB; exact (decide_eq_false (by omega)).symm), rfl⟩
  · go_enter Tryd.func81, Tryd.ntmps81
    go_wp2
    go_ret
    exact ⟨ret_bool (by unfold withinB; exact (decide_eq_false (by omega)).symm), rfl⟩
/-- a kind's form, as the letter's number -/
def formI (k : Int) : Nat :=
  if 1 ≤ k ∧ k ≤ 11 then 82 else if k = 17 ∨ k = 18 then 72 else if 12 ≤ k ∧ k ≤ 20 ∨ k = 30 then 73 else if k = 21 ∨ k = 22 then 83
  else if 23 ≤ k ∧ k ≤ 26 then 66 else if k = 27 ∨ k = 28 then 85 else if k = 29 then 74 else 69
def formImm (f : Nat) (rd a b imm : Int) : Prop :=
  (f = 82 → imm = 0) ∧ (f = 73 → b = 0 ∧ -2048 ≤ imm ∧ imm ≤ 2047) ∧ (f = 72 → b = 0 ∧ 0 ≤ imm ∧ imm ≤ 63) ∧ (f = 83 → rd = 0 ∧ -2048 ≤ imm ∧ imm ≤ 2047) ∧
  (f = 66 → rd = 0 ∧ -4096 ≤ imm ∧ imm ≤ 4094 ∧ imm % 2 = 0) ∧ (f = 85 → a = 0 ∧ b = 0 ∧ -2147483648 ≤ imm ∧ imm ≤ 2147479552 ∧ imm % 4096 = 0) ∧
  (f = 74 → a = 0 ∧ b = 0 ∧ -1048576 ≤ imm ∧ imm ≤ 1048574 ∧ imm % 2 = 0) ∧ (f = 69 → rd = 0 ∧ a = 0 ∧ b = 0 ∧ imm = 0)
/-- which instructions may be -/
def MayP (k rd a b imm : Int) : Prop := 1 ≤ k ∧ k ≤ 31 ∧ 0 ≤ rd ∧ rd ≤ 31 ∧ 0 ≤ a ∧ a ≤ 31 ∧ 0 ≤ b ∧ b ≤ 31 ∧ formImm (formI k) rd a b imm
instance (f : Nat) (rd a b imm : Int) : Decidable (formImm f rd a b imm) := by unfold formImm; infer_instance
instance (k rd a b imm : Int) : Decidable (MayP k rd a b imm) := by unfold MayP; infer_instance
def mayB (k rd a b imm : Int) : Bool := decide (MayP k rd a b imm)
theorem mayB_true {k rd a b imm : Int} (h : MayP k rd a b imm) : mayB k rd a b imm = true := by unfold mayB; exact decide_eq_true h
theorem mayB_false {k rd a b imm : Int} (h : ¬ MayP k rd a b imm) : mayB k rd a b imm = false := by unfold mayB; exact decide_eq_false h
/-! ### The table -/
def formL : List Nat := [0, 82, 82, 82, 82, 82, 82, 82, 82, 82, 82, 82, 73, 73, 73, 73, 73, 72, 72, 73, 73, 83, 83, 66, 66, 66, 66, 85, 85, 74, 73, 69]
def opL : List Nat := [0, 51, 51, 51, 51, 51, 51, 51, 51, 51, 51, 51, 19, 19, 19, 19, 19, 19, 19, 3, 3, 35, 35, 99, 99, 99, 99, 55, 23, 111, 103, 115]
def f3L : List Nat := [0, 0, 0, 1, 3, 4, 5, 6, 7, 0, 5, 7, 0, 3, 4, 6, 7, 1, 5, 3, 4, 3, 0, 0, 1, 6, 7, 0, 0, 0, 0, 0]
def f7L : List Nat := [0, 0, 32, 0, 0, 0, 0, 0, 0, 1, 1, 1, 0, 0, 0, 0, 0, 0, 0, 0, 0, 0, 0, 0, 0, 0, 0, 0, 0, 0, 0, 0]
/-- the table's cells in a world -/
def Tab (w : World) : Prop := ∀ k, k < 32 → w.cell? ⟨0, k * 4, none⟩ = some (.int .u8 (formL.getD k 0 : Nat)) ∧ w.cell? ⟨0, k * 4 + 1, none⟩ = some (.int .u32 (opL.getD k 0 : Nat)) ∧
  w.cell? ⟨0, k * 4 + 2, none⟩ = some (.int .u32 (f3L.getD k 0 : Nat)) ∧ w.cell? ⟨0, k * 4 + 3, none⟩ = some (.int .u32 (f7L.getD k 0 : Nat))
theorem Tab.size {w : World} (h : Tab w) : 0 < w.heap.size := (cell_block_lt (h 0 (by omega)).1).1
theorem Tab.below {w w' : World} {B : Nat} (h : Tab w) (hb : Below B w w') (hB : 0 < B) : Tab w' := fun k hk => by
  obtain ⟨h0, h1, h2, h3⟩ := h k hk
  exact ⟨(hb.cell (p := ⟨0, _, none⟩) hB).trans h0, (hb.cell (p := ⟨0, _, none⟩) hB).trans h1, (hb.cell (p := ⟨0, _, none⟩) hB).trans h2, (hb.cell (p := ⟨0, _, none⟩) hB).trans h3⟩
theorem tab_form : ∀ k, k < 32 → 1 ≤ k → formL.getD k 0 = formI (k : Int) := by
  have h : (List.range 32).all (fun k => decide (1 ≤ k → formL.getD k 0 = formI (k : Int))) = true := by decide +kernel
  intro k hk h1
  have := List.all_eq_true.1 h k (List.mem_range.2 hk)
  exact of_decide_eq_true this h1
theorem tab_bd : ∀ k, k < 32 → opL.getD k 0 < 128 ∧ f3L.getD k 0 < 8 ∧ f7L.getD k 0 < 128 := by
  have h : (List.range 32).all (fun k => decide (opL.getD k 0 < 128 ∧ f3L.getD k 0 < 8 ∧ f7L.getD k 0 < 128)) = true := by decide +kernel
  intro k hk
  exact of_decide_eq_true (List.all_eq_true.1 h k (List.mem_range.2 hk))
theorem formI_cases (k : Int) : formI k = 82 ∨ formI k = 73 ∨ formI k = 72 ∨ formI k = 83 ∨ formI k = 66 ∨ formI k = 85 ∨ formI k = 74 ∨ formI k = 69 := by
  unfold formI
  repeat' split
  all_goals simp
theorem may_bad {k rd a b imm : Int} {w : World} (h : ¬ (1 ≤ k ∧ k ≤ 31 ∧ 0 ≤ rd ∧ rd ≤ 31 ∧ 0 ≤ a ∧ a ≤ 31 ∧ 0 ≤ b ∧ b ≤ 31)) :
    Calls Tryd.prog 57 #[.agg #[.int .i64 k, .int .i64 rd, .int .i64 a, .int .i64 b, .int .i64 imm]] w fun e w' => e = .returned (.bool (mayB k rd a b imm)) ∧ Below w.heap.size w w' := by
  rw [mayB_false (fun hm => h (by unfold MayP at hm; omega))]
  by_cases c0 : k < 1
  · clear h
    go_enter Tryd.func57, Tryd.ntmps57
    go_wp2
    go_ret
    exact ⟨rfl, (Below.refl _ _).alloc (Nat.le_refl _) _⟩
  · skip
    by_cases c1 : 31 < k
    · clear h
      go_enter Tryd.func57, Tryd.ntmps57
      go_wp2
      go_ret
      exact ⟨rfl, (Below.refl _ _).alloc (Nat.le_refl _) _⟩
    · skip
      by_cases c2 : rd < 0
      · clear h
        go_enter Tryd.func57, Tryd.ntmps57
        go_wp2
        go_ret
        exact ⟨rfl, (Below.refl _ _).alloc (Nat.le_refl _) _⟩
      · skip
        by_cases c3 : 31 < rd
        · clear h
          go_enter Tryd.func57, Tryd.ntmps57
          go_wp2
          go_ret
          exact ⟨rfl, (Below.refl _ _).alloc (Nat.le_refl _) _⟩
        · skip
          by_cases c4 : a < 0
          · clear h
            go_enter Tryd.func57, Tryd.ntmps57
            go_wp2
            go_ret
            exact ⟨rfl, (Below.refl _ _).alloc (Nat.le_refl _) _⟩
          · skip
            by_cases c5 : 31 < a
            · clear h
              go_enter Tryd.func57, Tryd.ntmps57
              go_wp2
              go_ret
              exact ⟨rfl, (Below.refl _ _).alloc (Nat.le_refl _) _⟩
            · skip
              by_cases c6 : b < 0
              · clear h
                go_enter Tryd.func57, Tryd.ntmps57
                go_wp2
                go_ret
                exact ⟨rfl, (Below.refl _ _).alloc (Nat.le_refl _) _⟩
              · skip
                by_cases c7 : 31 < b
                · clear h
                  go_enter Tryd.func57, Tryd.ntmps57
                  go_wp2
                  go_ret
                  exact ⟨rfl, (Below.refl _ _).alloc (Nat.le_refl _) _⟩
                · exact absurd ⟨by omega, by omega, by omega, by omega, by omega, by omega, by omega, by omega⟩ h
set_option maxHeartbeats 400000 in
theorem may_R {k : Nat} {rd a b imm : Int} {w : World} (hk : 1 ≤ k ∧ k ≤ 31) (h1 : 0 ≤ rd ∧ rd ≤ 31) (h2 : 0 ≤ a ∧ a ≤ 31) (h3 : 0 ≤ b ∧ b ≤ 31) (hf : formI k = 82) (c0 : w.cell? ⟨0, k * 4, none⟩ = some (.int .u8 82)) (hw : 0 < w.heap.size) :
    Calls Tryd.prog 57 #[.agg #[.int .i64 k, .int .i64 rd, .int .i64 a, .int .i64 b, .int .i64 imm]] w fun e w' => e = .returned (.bool (mayB k rd a b imm)) ∧ Below w.heap.size w w' := by
  have Hf := Lib.hid hf
  clear hf
  by_cases hi : imm = 0
  · subst hi
    go_enter Tryd.func57, Tryd.ntmps57
    go_wp2
    all_goals (go_ret; exact ⟨ret_bool (by have hf := Hf.out; symm; first | exact mayB_true (by unfold MayP formImm; rw [hf]; omega) | exact mayB_false (by unfold MayP formImm; rw [hf]; omega)), ((Below.refl _ _).alloc (Nat.le_refl _) _).alloc (by simp) _⟩)
  · go_enter Tryd.func57, Tryd.ntmps57
    go_wp2
    all_goals (go_ret; exact ⟨ret_bool (by have hf := Hf.out; symm; first | exact mayB_true (by unfold MayP formImm; rw [hf]; omega) | exact mayB_false (by unfold MayP formImm; rw [hf]; omega)), ((Below.refl _ _).alloc (Nat.le_refl _) _).alloc (by simp) _⟩)
set_option maxHeartbeats 400000 in
theorem may_I {k : Nat} {rd a b imm : Int} {w : World} (hk : 1 ≤ k ∧ k ≤ 31) (h1 : 0 ≤ rd ∧ rd ≤ 31) (h2 : 0 ≤ a ∧ a ≤ 31) (h3 : 0 ≤ b ∧ b ≤ 31) (hf : formI k = 73) (c0 : w.cell? ⟨0, k * 4, none⟩ = some (.int .u8 73)) (hw : 0 < w.heap.size) :
    Calls Tryd.prog 57 #[.agg #[.int .i64 k, .int .i64 rd, .int .i64 a, .int .i64 b, .int .i64 imm]] w fun e w' => e = .returned (.bool (mayB k rd a b imm)) ∧ Below w.heap.size w w' := by
  have Hf := Lib.hid hf
  clear hf
  cases hq : withinB imm (-2048) 2047 1
  all_goals
    have hq' := hq
    simp only [withinB, decide_eq_true_eq, decide_eq_false_iff_not] at hq'
    have Hq' := Lib.hid hq'
    clear hq'
    go_enter Tryd.func57, Tryd.ntmps57
    go_wp2_with (go_at_call 81; refine (within_any _ _ _ _ _ (by omega)).mono ?_; rintro e w' ⟨rfl, rfl⟩)
    all_goals (go_ret; have hq' := Hq'.out; exact ⟨ret_bool (by have hf := Hf.out; symm; first | exact mayB_true (by unfold MayP formImm; rw [hf]; omega) | exact mayB_false (by unfold MayP formImm; rw [hf]; omega)), ((Below.refl _ _).alloc (Nat.le_refl _) _).alloc (by simp) _⟩)
set_option maxHeartbeats 400000 in
theorem may_H {k : Nat} {rd a b imm : Int} {w : World} (hk : 1 ≤ k ∧ k ≤ 31) (h1 : 0 ≤ rd ∧ rd ≤ 31) (h2 : 0 ≤ a ∧ a ≤ 31) (h3 : 0 ≤ b ∧ b ≤ 31) (hf : formI k = 72) (c0 : w.cell? ⟨0, k * 4, none⟩ = some (.int .u8 72)) (hw : 0 < w.heap.size) :
    Calls Tryd.prog 57 #[.agg #[.int .i64 k, .int .i64 rd, .int .i64 a, .int .i64 b, .int .i64 imm]] w fun e w' => e = .returned (.bool (mayB k rd a b imm)) ∧ Below w.heap.size w w' := by
  have Hf := Lib.hid hf
  clear hf
  cases hq : withinB imm (0) 63 1
  all_goals
    have hq' := hq
    simp only [withinB, decide_eq_true_eq, decide_eq_false_iff_not] at hq'
    have Hq' := Lib.hid hq'
    clear hq'
    go_enter Tryd.func57, Tryd.ntmps57
    go_wp2_with (go_at_call 81; refine (within_any _ _ _ _ _ (by omega)).mono ?_; rintro e w' ⟨rfl, rfl⟩)
    all_goals (go_ret; have hq' := Hq'.out; exact ⟨ret_bool (by have hf := Hf.out; symm; first | exact mayB_true (by unfold MayP formImm; rw [hf]; omega) | exact mayB_false (by unfold MayP formImm; rw [hf]; omega)), ((Below.refl _ _).alloc (Nat.le_refl _) _).alloc (by simp) _⟩)
set_option maxHeartbeats 400000 in
theorem may_S {k : Nat} {rd a b imm : Int} {w : World} (hk : 1 ≤ k ∧ k ≤ 31) (h1 : 0 ≤ rd ∧ rd ≤ 31) (h2 : 0 ≤ a ∧ a ≤ 31) (h3 : 0 ≤ b ∧ b ≤ 31) (hf : formI k = 83) (c0 : w.cell? ⟨0, k * 4, none⟩ = some (.int .u8 83)) (hw : 0 < w.heap.size) :
    Calls Tryd.prog 57 #[.agg #[.int .i64 k, .int .i64 rd, .int .i64 a, .int .i64 b, .int .i64 imm]] w fun e w' => e = .returned (.bool (mayB k rd a b imm)) ∧ Below w.heap.size w w' := by
  have Hf := Lib.hid hf
  clear hf
  cases hq : withinB imm (-2048) 2047 1
  all_goals
    have hq' := hq
    simp only [withinB, decide_eq_true_eq, decide_eq_false_iff_not] at hq'
    have Hq' := Lib.hid hq'
    clear hq'
    go_enter Tryd.func57, Tryd.ntmps57
    go_wp2_with (go_at_call 81; refine (within_any _ _ _ _ _ (by omega)).mono ?_; rintro e w' ⟨rfl, rfl⟩)
    all_goals (go_ret; have hq' := Hq'.out; exact ⟨ret_bool (by have hf := Hf.out; symm; first | exact mayB_true (by unfold MayP formImm; rw [hf]; omega) | exact mayB_false (by unfold MayP formImm; rw [hf]; omega)), ((Below.refl _ _).alloc (Nat.le_refl _) _).alloc (by simp) _⟩)
set_option maxHeartbeats 400000 in
theorem may_B {k : Nat} {rd a b imm : Int} {w : World} (hk : 1 ≤ k ∧ k ≤ 31) (h1 : 0 ≤ rd ∧ rd ≤ 31) (h2 : 0 ≤ a ∧ a ≤ 31) (h3 : 0 ≤ b ∧ b ≤ 31) (hf : formI k = 66) (c0 : w.cell? ⟨0, k * 4, none⟩ = some (.int .u8 66)) (hw : 0 < w.heap.size) :
    Calls Tryd.prog 57 #[.agg #[.int .i64 k, .int .i64 rd, .int .i64 a, .int .i64 b, .int .i64 imm]] w fun e w' => e = .returned (.bool (mayB k rd a b imm)) ∧ Below w.heap.size w w' := by
  have Hf := Lib.hid hf
  clear hf
  cases hq : withinB imm (-4096) 4094 2
  all_goals
    have hq' := hq
    simp only [withinB, decide_eq_true_eq, decide_eq_false_iff_not] at hq'
    have Hq' := Lib.hid hq'
    clear hq'
    go_enter Tryd.func57, Tryd.ntmps57
    go_wp2_with (go_at_call 81; refine (within_any _ _ _ _ _ (by omega)).mono ?_; rintro e w' ⟨rfl, rfl⟩)
    all_goals (go_ret; have hq' := Hq'.out; exact ⟨ret_bool (by have hf := Hf.out; symm; first | exact mayB_true (by unfold MayP formImm; rw [hf]; omega) | exact mayB_false (by unfold MayP formImm; rw [hf]; omega)), ((Below.refl _ _).alloc (Nat.le_refl _) _).alloc (by simp) _⟩)
set_option maxHeartbeats 400000 in
theorem may_U {k : Nat} {rd a b imm : Int} {w : World} (hk : 1 ≤ k ∧ k ≤ 31) (h1 : 0 ≤ rd ∧ rd ≤ 31) (h2 : 0 ≤ a ∧ a ≤ 31) (h3 : 0 ≤ b ∧ b ≤ 31) (hf : formI k = 85) (c0 : w.cell? ⟨0, k * 4, none⟩ = some (.int .u8 85)) (hw : 0 < w.heap.size) :
    Calls Tryd.prog 57 #[.agg #[.int .i64 k, .int .i64 rd, .int .i64 a, .int .i64 b, .int .i64 imm]] w fun e w' => e = .returned (.bool (mayB k rd a b imm)) ∧ Below w.heap.size w w' := by
  have Hf := Lib.hid hf
  clear hf
  cases hq : withinB imm (-2147483648) 2147479552 4096
  all_goals
    have hq' := hq
    simp only [withinB, decide_eq_true_eq, decide_eq_false_iff_not] at hq'
    have Hq' := Lib.hid hq'
    clear hq'
    go_enter Tryd.func57, Tryd.ntmps57
    go_wp2_with (go_at_call 81; refine (within_any _ _ _ _ _ (by omega)).mono ?_; rintro e w' ⟨rfl, rfl⟩)
    all_goals (go_ret; have hq' := Hq'.out; exact ⟨ret_bool (by have hf := Hf.out; symm; first | exact mayB_true (by unfold MayP formImm; rw [hf]; omega) | exact mayB_false (by unfold MayP formImm; rw [hf]; omega)), ((Below.refl _ _).alloc (Nat.le_refl _) _).alloc (by simp) _⟩)
set_option maxHeartbeats 400000 in
theorem may_J {k : Nat} {rd a b imm : Int} {w : World} (hk : 1 ≤ k ∧ k ≤ 31) (h1 : 0 ≤ rd ∧ rd ≤ 31) (h2 : 0 ≤ a ∧ a ≤ 31) (h3 : 0 ≤ b ∧ b ≤ 31) (hf : formI k = 74) (c0 : w.cell? ⟨0, k * 4, none⟩ = some (.int .u8 74)) (hw : 0 < w.heap.size) :
    Calls Tryd.prog 57 #[.agg #[.int .i64 k, .int .i64 rd, .int .i64 a, .int .i64 b, .int .i64 imm]] w fun e w' => e = .returned (.bool (mayB k rd a b imm)) ∧ Below w.heap.size w w' := by
  have Hf := Lib.hid hf
  clear hf
  cases hq : withinB imm (-1048576) 1048574 2
  all_goals
    have hq' := hq
    simp only [withinB, decide_eq_true_eq, decide_eq_false_iff_not] at hq'
    have Hq' := Lib.hid hq'
    clear hq'
    go_enter Tryd.func57, Tryd.ntmps57
    go_wp2_with (go_at_call 81; refine (within_any _ _ _ _ _ (by omega)).mono ?_; rintro e w' ⟨rfl, rfl⟩)
    all_goals (go_ret; have hq' := Hq'.out; exact ⟨ret_bool (by have hf := Hf.out; symm; first | exact mayB_true (by unfold MayP formImm; rw [hf]; omega) | exact mayB_false (by unfold MayP formImm; rw [hf]; omega)), ((Below.refl _ _).alloc (Nat.le_refl _) _).alloc (by simp) _⟩)
set_option maxHeartbeats 400000 in
theorem may_E {k : Nat} {rd a b imm : Int} {w : World} (hk : 1 ≤ k ∧ k ≤ 31) (h1 : 0 ≤ rd ∧ rd ≤ 31) (h2 : 0 ≤ a ∧ a ≤ 31) (h3 : 0 ≤ b ∧ b ≤ 31) (hf : formI k = 69) (c0 : w.cell? ⟨0, k * 4, none⟩ = some (.int .u8 69)) (hw : 0 < w.heap.size) :
    Calls Tryd.prog 57 #[.agg #[.int .i64 k, .int .i64 rd, .int .i64 a, .int .i64 b, .int .i64 imm]] w fun e w' => e = .returned (.bool (mayB k rd a b imm)) ∧ Below w.heap.size w w' := by
  have Hf := Lib.hid hf
  clear hf
  go_enter Tryd.func57, Tryd.ntmps57
  go_wp2
  all_goals (go_ret; exact ⟨ret_bool (by have hf := Hf.out; symm; first | exact mayB_true (by unfold MayP formImm; rw [hf]; omega) | exact mayB_false (by unfold MayP formImm; rw [hf]; omega)), ((Below.refl _ _).alloc (Nat.le_refl _) _).alloc (by simp) _⟩)
/-- enc.May, for every instruction -/
theorem may_any (k rd a b imm : Int) {w : World} (hT : Tab w) :
    Calls Tryd.prog 57 #[.agg #[.int .i64 k, .int .i64 rd, .int .i64 a, .int .i64 b, .int .i64 imm]] w fun e w' => e = .returned (.bool (mayB k rd a b imm)) ∧ Below w.heap.size w w' := by
  by_cases h : 1 ≤ k ∧ k ≤ 31 ∧ 0 ≤ rd ∧ rd ≤ 31 ∧ 0 ≤ a ∧ a ≤ 31 ∧ 0 ≤ b ∧ b ≤ 31
  · obtain ⟨h1, h2, h3, h4, h5, h6, h7, h8⟩ := h
    obtain ⟨k, rfl⟩ := Int.eq_ofNat_of_zero_le (show 0 ≤ k by omega)
    have hc := (hT k (by omega)).1
    rw [tab_form k (by omega) (by omega)] at hc
    rcases formI_cases k with hf | hf | hf | hf | hf | hf | hf | hf <;> rw [hf] at hc
    · exact may_R ⟨by omega, by omega⟩ ⟨h3, h4⟩ ⟨h5, h6⟩ ⟨h7, h8⟩ hf hc hT.size
    · exact may_I ⟨by omega, by omega⟩ ⟨h3, h4⟩ ⟨h5, h6⟩ ⟨h7, h8⟩ hf hc hT.size
    · exact may_H ⟨by omega, by omega⟩ ⟨h3, h4⟩ ⟨h5, h6⟩ ⟨h7, h8⟩ hf hc hT.size
    · exact may_S ⟨by omega, by omega⟩ ⟨h3, h4⟩ ⟨h5, h6⟩ ⟨h7, h8⟩ hf hc hT.size
    · exact may_B ⟨by omega, by omega⟩ ⟨h3, h4⟩ ⟨h5, h6⟩ ⟨h7, h8⟩ hf hc hT.size
    · exact may_U ⟨by omega, by omega⟩ ⟨h3, h4⟩ ⟨h5, h6⟩ ⟨h7, h8⟩ hf hc hT.size
    · exact may_J ⟨by omega, by omega⟩ ⟨h3, h4⟩ ⟨h5, h6⟩ ⟨h7, h8⟩ hf hc hT.size
    · exact may_E ⟨by omega, by omega⟩ ⟨h3, h4⟩ ⟨h5, h6⟩ ⟨h7, h8⟩ hf hc hT.size
  · exact may_bad h
end Go.Proofs.YtajhehmkdlebbaaDoor
