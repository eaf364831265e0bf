/- The reference's Take: the same instruction of a word. -/
import Derived.Test.YtajhehmkdlebbaaDoorRefWord
import Derived.Test.YtajhehmkdlebbaaDoorTake
namespace Go.Proofs.YtajhehmkdlebbaaDoor
open Go.ChangeShapes Go.WideShapes Go.ChangeAt Go.RowKit
set_option maxRecDepth 100000
set_option linter.unusedVariables false
theorem below_eq {n M : Int} {w : World} {r : Int} (hn : 0 ≤ n ∧ n < 4294967296) (hM : 1 ≤ M ∧ M < 33) (hr : (if 2 ^ (M.toNat - 1) ≤ n then n - 2 * 2 ^ (M.toNat - 1) else n) = r) :
    Calls Tryd.prog 68 #[.int .u32 n, .int .i64 M] w fun e w' => e = .returned (.int .i64 r) ∧ w = w' := by
  rw [← hr]; exact below_any n M w hn hM
theorem nb_I {v : Int} (hv : 0 ≤ v ∧ v < 4294967296) : (if (2 : Int) ^ ((12 : Int).toNat - 1) ≤ v / 1048576 % 4096 then v / 1048576 % 4096 - 2 * 2 ^ ((12 : Int).toNat - 1) else v / 1048576 % 4096) = pI 73 v := by
  have e : pI 73 v = v / 1048576 - v / 2147483648 * 4096 := rfl
  rw [e, show (2 : Int) ^ ((12 : Int).toNat - 1) = 2048 from rfl]; split <;> omega
theorem nb_U {v : Int} (hv : 0 ≤ v ∧ v < 4294967296) : (if (2 : Int) ^ ((20 : Int).toNat - 1) ≤ v / 4096 % 1048576 then v / 4096 % 1048576 - 2 * 2 ^ ((20 : Int).toNat - 1) else v / 4096 % 1048576) = v / 4096 - v / 2147483648 * 1048576 := by
  rw [show (2 : Int) ^ ((20 : Int).toNat - 1) = 524288 from rfl]; split <;> omega
theorem nb_S {v : Int} (hv : 0 ≤ v ∧ v < 4294967296) : (if (2 : Int) ^ ((12 : Int).toNat - 1) ≤ v / 128 % 32 + 32 * (v / 33554432 % 128) then v / 128 % 32 + 32 * (v / 33554432 % 128) - 2 * 2 ^ ((12 : Int).toNat - 1) else v / 128 % 32 + 32 * (v / 33554432 % 128)) = pI 83 v := by
  have e : pI 83 v = v / 33554432 * 32 + v / 128 % 32 - v / 2147483648 * 4096 := rfl
  rw [e, show (2 : Int) ^ ((12 : Int).toNat - 1) = 2048 from rfl]; split <;> omega
theorem nb_B {v : Int} (hv : 0 ≤ v ∧ v < 4294967296) : (if (2 : Int) ^ ((13 : Int).toNat - 1) ≤ 2 * (v / 256 % 16) + 32 * (v / 33554432 % 64) + 2048 * (v / 128 % 2) + 4096 * (v / 2147483648 % 2) then 2 * (v / 256 % 16) + 32 * (v / 33554432 % 64) + 2048 * (v / 128 % 2) + 4096 * (v / 2147483648 % 2) - 2 * 2 ^ ((13 : Int).toNat - 1) else 2 * (v / 256 % 16) + 32 * (v / 33554432 % 64) + 2048 * (v / 128 % 2) + 4096 * (v / 2147483648 % 2)) = pI 66 v := by
  have e : pI 66 v = v / 128 % 2 * 2048 + v / 33554432 % 64 * 32 + v / 256 % 16 * 2 - v / 2147483648 * 4096 := rfl
  have q : v / 2147483648 % 2 = v / 2147483648 := by omega
  have hs : 0 ≤ v / 2147483648 ∧ v / 2147483648 ≤ 1 := by omega
  have hx : 0 ≤ v / 128 % 2 ∧ v / 128 % 2 < 2 := by omega
  have hy : 0 ≤ v / 33554432 % 64 ∧ v / 33554432 % 64 < 64 := by omega
  have hz : 0 ≤ v / 256 % 16 ∧ v / 256 % 16 < 16 := by omega
  rw [e, q, show (2 : Int) ^ ((13 : Int).toNat - 1) = 4096 from rfl]
  generalize v / 2147483648 = s at *; generalize v / 128 % 2 = x at *; generalize v / 33554432 % 64 = y at *; generalize v / 256 % 16 = z at *
  split <;> omega
theorem nb_J {v : Int} (hv : 0 ≤ v ∧ v < 4294967296) : (if (2 : Int) ^ ((21 : Int).toNat - 1) ≤ 2 * (v / 2097152 % 1024) + 2048 * (v / 1048576 % 2) + 4096 * (v / 4096 % 256) + 1048576 * (v / 2147483648 % 2) then 2 * (v / 2097152 % 1024) + 2048 * (v / 1048576 % 2) + 4096 * (v / 4096 % 256) + 1048576 * (v / 2147483648 % 2) - 2 * 2 ^ ((21 : Int).toNat - 1) else 2 * (v / 2097152 % 1024) + 2048 * (v / 1048576 % 2) + 4096 * (v / 4096 % 256) + 1048576 * (v / 2147483648 % 2)) = pI 74 v := by
  have e : pI 74 v = v / 4096 % 256 * 4096 + v / 1048576 % 2 * 2048 + v / 2097152 % 1024 * 2 - v / 2147483648 * 1048576 := rfl
  have q : v / 2147483648 % 2 = v / 2147483648 := by omega
  have hs : 0 ≤ v / 2147483648 ∧ v / 2147483648 ≤ 1 := by omega
  have hx : 0 ≤ v / 1048576 % 2 ∧ v / 1048576 % 2 < 2 := by omega
  have hy : 0 ≤ v / 4096 % 256 ∧ v / 4096 % 256 < 256 := by omega
  have hz : 0 ≤ v / 2097152 % 1024 ∧ v / 2097152 % 1024 < 1024 := by omega
  rw [e, q, show (2 : Int) ^ ((21 : Int).toNat - 1) = 1048576 from rfl]
  generalize v / 2147483648 = s at *; generalize v / 1048576 % 2 = x at *; generalize v / 4096 % 256 = y at *; generalize v / 2097152 % 1024 = z at *
  split <;> omega
def hitAt (k : Nat) (c : Nat) (v : Int) : Prop :=
  (mayB k (pRd c v) (pA c v) (pB c v) (pI c v) = false ∧ hit k v = false)
  ∨ (mayB k (pRd c v) (pA c v) (pB c v) (pI c v) = true ∧ (wordI k (pRd c v) (pA c v) (pB c v) (pI c v) == v) = true ∧ hit k v = true)
  ∨ (mayB k (pRd c v) (pA c v) (pB c v) (pI c v) = true ∧ (wordI k (pRd c v) (pA c v) (pB c v) (pI c v) == v) = false ∧ hit k v = false)
theorem hit_at (k : Nat) (v : Int) {c : Nat} (hf : formI k = c) : hitAt k c v := by
  unfold hitAt
  have e : hit k v = (mayB k (pRd c v) (pA c v) (pB c v) (pI c v) && decide (wordI k (pRd c v) (pA c v) (pB c v) (pI c v) = v)) := by unfold hit; rw [hf]
  rw [e]
  cases mayB k (pRd c v) (pA c v) (pB c v) (pI c v)
  · exact .inl ⟨rfl, rfl⟩
  · by_cases h : wordI k (pRd c v) (pA c v) (pB c v) (pI c v) = v
    · exact .inr (.inl ⟨rfl, beq_iff_eq.2 h, decide_eq_true h⟩)
    · exact .inr (.inr ⟨rfl, beq_eq_false_iff_ne.2 h, decide_eq_false h⟩)
theorem rw_bad {k c : Nat} {v x1 x2 x3 x4 : Int} {w : World} (h1 : pRd c v = x1) (h2 : pA c v = x2) (h3 : pB c v = x3) (h4 : pI c v = x4) (hm : mayB k (pRd c v) (pA c v) (pB c v) (pI c v) = false) :
    Calls Tryd.prog 69 #[.agg #[.int .i64 k, .int .i64 x1, .int .i64 x2, .int .i64 x3, .int .i64 x4]] w fun e w' => e = .returned (.tuple #[.int .u32 0, .int .i64 1]) ∧ Below w.heap.size w w' := by
  subst h1 h2 h3 h4; exact rword_bad hm
theorem rw_good {k c : Nat} {v x1 x2 x3 x4 : Int} {w : World} (h1 : pRd c v = x1) (h2 : pA c v = x2) (h3 : pB c v = x3) (h4 : pI c v = x4) (hm : mayB k (pRd c v) (pA c v) (pB c v) (pI c v) = true) :
    Calls Tryd.prog 69 #[.agg #[.int .i64 k, .int .i64 x1, .int .i64 x2, .int .i64 x3, .int .i64 x4]] w fun e w' => e = .returned (.tuple #[.int .u32 (wordI k (pRd c v) (pA c v) (pB c v) (pI c v)), .int .i64 0]) ∧ Below w.heap.size w w' := by
  subst h1 h2 h3 h4; exact rword_good hm
theorem toW {B : Nat} {w0 W w2 : World} (hb : Below W.heap.size W w2) (hB : B ≤ w0.heap.size) (hW : Below B w0 W) : Below B w0 w2 := hW.trans (hb.mono (Nat.le_trans hB hW.size))
theorem takeV_hit {k c : Nat} {v x1 x2 x3 x4 : Int} (hf : formI k = c) (h1 : pRd c v = x1) (h2 : pA c v = x2) (h3 : pB c v = x3) (h4 : pI c v = x4) (ht : takeK v = some k) :
    Ending.returned (.tuple #[.agg #[.int .i64 k, .int .i64 x1, .int .i64 x2, .int .i64 x3, .int .i64 x4], .int .i64 0]) = .returned (.tuple #[takeV v, .int .i64 (takeE v)]) := by
  unfold takeV takeE; rw [ht]; dsimp only; rw [hf, h1, h2, h3, h4]
set_option maxHeartbeats 8000000 in
theorem rtake_any (v : Int) (w : World) (hv : 0 ≤ v ∧ v < 4294967296) :
    Calls Tryd.prog 34 #[.int .u32 v] w fun e w' => e = .returned (.tuple #[takeV v, .int .i64 (takeE v)]) ∧ Below w.heap.size w w' := by
  go_enter Tryd.func34, Tryd.ntmps34
  go_wp2
  obtain ⟨w0, hw0⟩ : ∃ w0, w0 = w.alloc (.cells #[.int .i64 0, .int .i64 0, .int .i64 0, .int .i64 0, .int .i64 0] 23) := ⟨_, rfl⟩
  rw [← hw0]
  have hz0 : w.heap.size + 1 ≤ w0.heap.size := by rw [hw0]; simp
  have H0 : Below w.heap.size w w0 := by rw [hw0]; exact (Below.refl _ _).alloc (Nat.le_refl _) _
  have hc0 : ∀ j, j < 5 → w0.cell? ⟨w.heap.size, j, none⟩ = some (.int .i64 0) := by
    intro j hj
    rw [hw0, cell_of_row _ _ _ _ _ _ (heap_alloc_new w _)]
    match j, hj with
    | 0, _ => rfl
    | 1, _ => rfl
    | 2, _ => rfl
    | 3, _ => rfl
    | 4, _ => rfl
  have hf0 : ∀ j, w0.frozen? ⟨w.heap.size, j, none⟩ = false := by
    intro j
    have := heap_alloc_new w (.cells #[.int .i64 0, .int .i64 0, .int .i64 0, .int .i64 0, .int .i64 0] 23)
    rw [← hw0] at this
    simp [World.frozen?, this]
  have HC := Lib.hid hc0
  have HF := Lib.hid hf0
  clear hc0 hf0 hw0
  go_loopw [4] (fun i wr => ∃ k : Nat, 1 ≤ k ∧ k ≤ 32 ∧ i = .int .i64 k ∧ Below (w.heap.size + 1) w0 wr ∧ Hid (∀ j : Nat, 1 ≤ j → j < k → hit j v = false)) (fun i _ => 32 - (intOf i).toNat)
  case atStart => exact ⟨1, by omega, by omega, rfl, Below.refl _ _, fun j h1 h2 => absurd h2 (by omega)⟩
  case round =>
    obtain ⟨k, hk1, hk2, rfl, hbw, hno⟩ := hrel
    by_cases hlt : k ≤ 31
    · have hzr : w.heap.size + 1 ≤ wr.heap.size := Nat.le_trans hz0 hbw.size
      rcases formI_cases k with hf | hf | hf | hf | hf | hf | hf | hf
      · have HFO := Lib.hid hf
        rcases hit_at k v hf with ⟨hm, hh⟩ | ⟨hm, hq, hh⟩ | ⟨hm, hq, hh⟩
        · have HM := Lib.hid hm
          have HH := Lib.hid hh
          clear hf hm hh
          have hh := HH
          go_wp2_with (first
            | (go_at_call 66
               refine (form_any _ _ (by omega)).mono ?_
               rintro e w1 ⟨rfl, rfl⟩
               rw [HFO.out])
            | (go_at_call 67
               refine (part_any _ _ _ _ hv (by omega) (by omega)).mono ?_
               rintro e w2 ⟨rfl, nk, rfl⟩)
            | (go_at_call 68
               refine (below_eq (r := pI 82 v) (by omega) (by omega) (nb_R hv)).mono ?_
               rintro e w3 ⟨rfl, rfl⟩)
            | (go_at_call 69
               refine (rw_bad (c := 82) (v := v) rfl rfl rfl rfl HM.out).mono ?_
               rintro e w4 ⟨rfl, hb4⟩
               have HB := Lib.hid (toW (B := w.heap.size + 1) (w0 := w0) hb4 hz0 (by repeat (first | (with_reducible exact hbw) | (with_reducible refine Below.setCell ?_ (by simp; omega) _) | (with_reducible refine below_drewN ?_ _) | (with_reducible refine Below.alloc ?_ (by omega) _))))))
          exact ⟨⟨k + 1, by omega, by omega, by go_num, HB.out, fun j h1 h2 => if hj : j = k then by rw [hj]; exact hh else hno.out j h1 (by omega)⟩, by simp [intOf]; omega⟩
        · have HM := Lib.hid hm
          have HH := Lib.hid hh
          clear hf hm hh
          have hh := HH
          go_wp2_with (first
            | (go_at_call 66
               refine (form_any _ _ (by omega)).mono ?_
               rintro e w1 ⟨rfl, rfl⟩
               rw [HFO.out])
            | (go_at_call 67
               refine (part_any _ _ _ _ hv (by omega) (by omega)).mono ?_
               rintro e w2 ⟨rfl, nk, rfl⟩)
            | (go_at_call 68
               refine (below_eq (r := pI 82 v) (by omega) (by omega) (nb_R hv)).mono ?_
               rintro e w3 ⟨rfl, rfl⟩)
            | (go_at_call 69
               refine (rw_good (c := 82) (v := v) rfl rfl rfl rfl HM.out).mono ?_
               rintro e w4 ⟨rfl, hb4⟩
               have HB := Lib.hid (toW (B := w.heap.size + 1) (w0 := w0) hb4 hz0 (by repeat (first | (with_reducible exact hbw) | (with_reducible refine Below.setCell ?_ (by simp; omega) _) | (with_reducible refine below_drewN ?_ _) | (with_reducible refine Below.alloc ?_ (by omega) _))))
               have hsz : wr.heap.size < w4.heap.size := by have := hb4.size; simp at this; omega
               obtain ⟨c4, f4⟩ := bcell hb4
               have r0 := (HB.out.cell (p := ⟨w.heap.size, 0, none⟩) (by simp)).trans (HC.out 0 (by omega))
               have g0 := (HB.out.frozen (p := ⟨w.heap.size, 0, none⟩) (by simp)).trans (HF.out 0)
               have r1 := (HB.out.cell (p := ⟨w.heap.size, 1, none⟩) (by simp)).trans (HC.out 1 (by omega))
               have g1 := (HB.out.frozen (p := ⟨w.heap.size, 1, none⟩) (by simp)).trans (HF.out 1)
               have r2 := (HB.out.cell (p := ⟨w.heap.size, 2, none⟩) (by simp)).trans (HC.out 2 (by omega))
               have g2 := (HB.out.frozen (p := ⟨w.heap.size, 2, none⟩) (by simp)).trans (HF.out 2)
               have r3 := (HB.out.cell (p := ⟨w.heap.size, 3, none⟩) (by simp)).trans (HC.out 3 (by omega))
               have g3 := (HB.out.frozen (p := ⟨w.heap.size, 3, none⟩) (by simp)).trans (HF.out 3)
               have r4 := (HB.out.cell (p := ⟨w.heap.size, 4, none⟩) (by simp)).trans (HC.out 4 (by omega))
               have g4 := (HB.out.frozen (p := ⟨w.heap.size, 4, none⟩) (by simp)).trans (HF.out 4)))
          refine bodyPost_ret (v := .tuple #[.agg #[.int .i64 k, .int .i64 (v / 128 % 32), .int .i64 (v / 32768 % 32), .int .i64 (v / 1048576 % 32), .int .i64 (0)], .int .i64 0]) ?_ rfl ⟨takeV_hit HFO.out rfl rfl rfl rfl (takeK_some hk1 (by omega) hno.out hh), ?_⟩
          · simp [results, Tryd.results34, go_sem, r0, r1, r2, r3, r4]
          · repeat (first | (with_reducible refine Below.setCell ?_ (by simp) _) | (with_reducible exact (H0.trans (HB.out.mono (Nat.le_succ _)))))
        · have HM := Lib.hid hm
          have HH := Lib.hid hh
          clear hf hm hh
          have hh := HH
          go_wp2_with (first
            | (go_at_call 66
               refine (form_any _ _ (by omega)).mono ?_
               rintro e w1 ⟨rfl, rfl⟩
               rw [HFO.out])
            | (go_at_call 67
               refine (part_any _ _ _ _ hv (by omega) (by omega)).mono ?_
               rintro e w2 ⟨rfl, nk, rfl⟩)
            | (go_at_call 68
               refine (below_eq (r := pI 82 v) (by omega) (by omega) (nb_R hv)).mono ?_
               rintro e w3 ⟨rfl, rfl⟩)
            | (go_at_call 69
               refine (rw_good (c := 82) (v := v) rfl rfl rfl rfl HM.out).mono ?_
               rintro e w4 ⟨rfl, hb4⟩
               have HB := Lib.hid (toW (B := w.heap.size + 1) (w0 := w0) hb4 hz0 (by repeat (first | (with_reducible exact hbw) | (with_reducible refine Below.setCell ?_ (by simp; omega) _) | (with_reducible refine below_drewN ?_ _) | (with_reducible refine Below.alloc ?_ (by omega) _))))))
          exact ⟨⟨k + 1, by omega, by omega, by go_num, HB.out, fun j h1 h2 => if hj : j = k then by rw [hj]; exact hh else hno.out j h1 (by omega)⟩, by simp [intOf]; omega⟩
      · have HFO := Lib.hid hf
        rcases hit_at k v hf with ⟨hm, hh⟩ | ⟨hm, hq, hh⟩ | ⟨hm, hq, hh⟩
        · have HM := Lib.hid hm
          have HH := Lib.hid hh
          clear hf hm hh
          have hh := HH
          go_wp2_with (first
            | (go_at_call 66
               refine (form_any _ _ (by omega)).mono ?_
               rintro e w1 ⟨rfl, rfl⟩
               rw [HFO.out])
            | (go_at_call 67
               refine (part_any _ _ _ _ hv (by omega) (by omega)).mono ?_
               rintro e w2 ⟨rfl, nk, rfl⟩)
            | (go_at_call 68
               refine (below_eq (r := pI 73 v) (by omega) (by omega) (nb_I hv)).mono ?_
               rintro e w3 ⟨rfl, rfl⟩)
            | (go_at_call 69
               refine (rw_bad (c := 73) (v := v) rfl rfl rfl rfl HM.out).mono ?_
               rintro e w4 ⟨rfl, hb4⟩
               have HB := Lib.hid (toW (B := w.heap.size + 1) (w0 := w0) hb4 hz0 (by repeat (first | (with_reducible exact hbw) | (with_reducible refine Below.setCell ?_ (by simp; omega) _) | (with_reducible refine below_drewN ?_ _) | (with_reducible refine Below.alloc ?_ (by omega) _))))))
          exact ⟨⟨k + 1, by omega, by omega, by go_num, HB.out, fun j h1 h2 => if hj : j = k then by rw [hj]; exact hh else hno.out j h1 (by omega)⟩, by simp [intOf]; omega⟩
        · have HM := Lib.hid hm
          have HH := Lib.hid hh
          clear hf hm hh
          have hh := HH
          go_wp2_with (first
            | (go_at_call 66
               refine (form_any _ _ (by omega)).mono ?_
               rintro e w1 ⟨rfl, rfl⟩
               rw [HFO.out])
            | (go_at_call 67
               refine (part_any _ _ _ _ hv (by omega) (by omega)).mono ?_
               rintro e w2 ⟨rfl, nk, rfl⟩)
            | (go_at_call 68
               refine (below_eq (r := pI 73 v) (by omega) (by omega) (nb_I hv)).mono ?_
               rintro e w3 ⟨rfl, rfl⟩)
            | (go_at_call 69
               refine (rw_good (c := 73) (v := v) rfl rfl rfl rfl HM.out).mono ?_
               rintro e w4 ⟨rfl, hb4⟩
               have HB := Lib.hid (toW (B := w.heap.size + 1) (w0 := w0) hb4 hz0 (by repeat (first | (with_reducible exact hbw) | (with_reducible refine Below.setCell ?_ (by simp; omega) _) | (with_reducible refine below_drewN ?_ _) | (with_reducible refine Below.alloc ?_ (by omega) _))))
               have hsz : wr.heap.size < w4.heap.size := by have := hb4.size; simp at this; omega
               obtain ⟨c4, f4⟩ := bcell hb4
               have r0 := (HB.out.cell (p := ⟨w.heap.size, 0, none⟩) (by simp)).trans (HC.out 0 (by omega))
               have g0 := (HB.out.frozen (p := ⟨w.heap.size, 0, none⟩) (by simp)).trans (HF.out 0)
               have r1 := (HB.out.cell (p := ⟨w.heap.size, 1, none⟩) (by simp)).trans (HC.out 1 (by omega))
               have g1 := (HB.out.frozen (p := ⟨w.heap.size, 1, none⟩) (by simp)).trans (HF.out 1)
               have r2 := (HB.out.cell (p := ⟨w.heap.size, 2, none⟩) (by simp)).trans (HC.out 2 (by omega))
               have g2 := (HB.out.frozen (p := ⟨w.heap.size, 2, none⟩) (by simp)).trans (HF.out 2)
               have r3 := (HB.out.cell (p := ⟨w.heap.size, 3, none⟩) (by simp)).trans (HC.out 3 (by omega))
               have g3 := (HB.out.frozen (p := ⟨w.heap.size, 3, none⟩) (by simp)).trans (HF.out 3)
               have r4 := (HB.out.cell (p := ⟨w.heap.size, 4, none⟩) (by simp)).trans (HC.out 4 (by omega))
               have g4 := (HB.out.frozen (p := ⟨w.heap.size, 4, none⟩) (by simp)).trans (HF.out 4)))
          refine bodyPost_ret (v := .tuple #[.agg #[.int .i64 k, .int .i64 (v / 128 % 32), .int .i64 (v / 32768 % 32), .int .i64 (0), .int .i64 (pI 73 v)], .int .i64 0]) ?_ rfl ⟨takeV_hit HFO.out rfl rfl rfl rfl (takeK_some hk1 (by omega) hno.out hh), ?_⟩
          · simp [results, Tryd.results34, go_sem, r0, r1, r2, r3, r4]
          · repeat (first | (with_reducible refine Below.setCell ?_ (by simp) _) | (with_reducible exact (H0.trans (HB.out.mono (Nat.le_succ _)))))
        · have HM := Lib.hid hm
          have HH := Lib.hid hh
          clear hf hm hh
          have hh := HH
          go_wp2_with (first
            | (go_at_call 66
               refine (form_any _ _ (by omega)).mono ?_
               rintro e w1 ⟨rfl, rfl⟩
               rw [HFO.out])
            | (go_at_call 67
               refine (part_any _ _ _ _ hv (by omega) (by omega)).mono ?_
               rintro e w2 ⟨rfl, nk, rfl⟩)
            | (go_at_call 68
               refine (below_eq (r := pI 73 v) (by omega) (by omega) (nb_I hv)).mono ?_
               rintro e w3 ⟨rfl, rfl⟩)
            | (go_at_call 69
               refine (rw_good (c := 73) (v := v) rfl rfl rfl rfl HM.out).mono ?_
               rintro e w4 ⟨rfl, hb4⟩
               have HB := Lib.hid (toW (B := w.heap.size + 1) (w0 := w0) hb4 hz0 (by repeat (first | (with_reducible exact hbw) | (with_reducible refine Below.setCell ?_ (by simp; omega) _) | (with_reducible refine below_drewN ?_ _) | (with_reducible refine Below.alloc ?_ (by omega) _))))))
          exact ⟨⟨k + 1, by omega, by omega, by go_num, HB.out, fun j h1 h2 => if hj : j = k then by rw [hj]; exact hh else hno.out j h1 (by omega)⟩, by simp [intOf]; omega⟩
      · have HFO := Lib.hid hf
        rcases hit_at k v hf with ⟨hm, hh⟩ | ⟨hm, hq, hh⟩ | ⟨hm, hq, hh⟩
        · have HM := Lib.hid hm
          have HH := Lib.hid hh
          clear hf hm hh
          have hh := HH
          go_wp2_with (first
            | (go_at_call 66
               refine (form_any _ _ (by omega)).mono ?_
               rintro e w1 ⟨rfl, rfl⟩
               rw [HFO.out])
            | (go_at_call 67
               refine (part_any _ _ _ _ hv (by omega) (by omega)).mono ?_
               rintro e w2 ⟨rfl, nk, rfl⟩)
            | (go_at_call 68
               refine (below_eq (r := pI 72 v) (by omega) (by omega) (nb_H hv)).mono ?_
               rintro e w3 ⟨rfl, rfl⟩)
            | (go_at_call 69
               refine (rw_bad (c := 72) (v := v) rfl rfl rfl (by have e : pI 72 v = v / 1048576 := rfl; rw [e]; omega) HM.out).mono ?_
               rintro e w4 ⟨rfl, hb4⟩
               have HB := Lib.hid (toW (B := w.heap.size + 1) (w0 := w0) hb4 hz0 (by repeat (first | (with_reducible exact hbw) | (with_reducible refine Below.setCell ?_ (by simp; omega) _) | (with_reducible refine below_drewN ?_ _) | (with_reducible refine Below.alloc ?_ (by omega) _))))))
          exact ⟨⟨k + 1, by omega, by omega, by go_num, HB.out, fun j h1 h2 => if hj : j = k then by rw [hj]; exact hh else hno.out j h1 (by omega)⟩, by simp [intOf]; omega⟩
        · have HM := Lib.hid hm
          have HH := Lib.hid hh
          clear hf hm hh
          have hh := HH
          go_wp2_with (first
            | (go_at_call 66
               refine (form_any _ _ (by omega)).mono ?_
               rintro e w1 ⟨rfl, rfl⟩
               rw [HFO.out])
            | (go_at_call 67
               refine (part_any _ _ _ _ hv (by omega) (by omega)).mono ?_
               rintro e w2 ⟨rfl, nk, rfl⟩)
            | (go_at_call 68
               refine (below_eq (r := pI 72 v) (by omega) (by omega) (nb_H hv)).mono ?_
               rintro e w3 ⟨rfl, rfl⟩)
            | (go_at_call 69
               refine (rw_good (c := 72) (v := v) rfl rfl rfl (by have e : pI 72 v = v / 1048576 := rfl; rw [e]; omega) HM.out).mono ?_
               rintro e w4 ⟨rfl, hb4⟩
               have HB := Lib.hid (toW (B := w.heap.size + 1) (w0 := w0) hb4 hz0 (by repeat (first | (with_reducible exact hbw) | (with_reducible refine Below.setCell ?_ (by simp; omega) _) | (with_reducible refine below_drewN ?_ _) | (with_reducible refine Below.alloc ?_ (by omega) _))))
               have hsz : wr.heap.size < w4.heap.size := by have := hb4.size; simp at this; omega
               obtain ⟨c4, f4⟩ := bcell hb4
               have r0 := (HB.out.cell (p := ⟨w.heap.size, 0, none⟩) (by simp)).trans (HC.out 0 (by omega))
               have g0 := (HB.out.frozen (p := ⟨w.heap.size, 0, none⟩) (by simp)).trans (HF.out 0)
               have r1 := (HB.out.cell (p := ⟨w.heap.size, 1, none⟩) (by simp)).trans (HC.out 1 (by omega))
               have g1 := (HB.out.frozen (p := ⟨w.heap.size, 1, none⟩) (by simp)).trans (HF.out 1)
               have r2 := (HB.out.cell (p := ⟨w.heap.size, 2, none⟩) (by simp)).trans (HC.out 2 (by omega))
               have g2 := (HB.out.frozen (p := ⟨w.heap.size, 2, none⟩) (by simp)).trans (HF.out 2)
               have r3 := (HB.out.cell (p := ⟨w.heap.size, 3, none⟩) (by simp)).trans (HC.out 3 (by omega))
               have g3 := (HB.out.frozen (p := ⟨w.heap.size, 3, none⟩) (by simp)).trans (HF.out 3)
               have r4 := (HB.out.cell (p := ⟨w.heap.size, 4, none⟩) (by simp)).trans (HC.out 4 (by omega))
               have g4 := (HB.out.frozen (p := ⟨w.heap.size, 4, none⟩) (by simp)).trans (HF.out 4)))
          refine bodyPost_ret (v := .tuple #[.agg #[.int .i64 k, .int .i64 (v / 128 % 32), .int .i64 (v / 32768 % 32), .int .i64 (0), .int .i64 (v / 1048576 % 4096)], .int .i64 0]) ?_ rfl ⟨takeV_hit HFO.out rfl rfl rfl (by have e : pI 72 v = v / 1048576 := rfl; rw [e]; omega) (takeK_some hk1 (by omega) hno.out hh), ?_⟩
          · simp [results, Tryd.results34, go_sem, r0, r1, r2, r3, r4]
          · repeat (first | (with_reducible refine Below.setCell ?_ (by simp) _) | (with_reducible exact (H0.trans (HB.out.mono (Nat.le_succ _)))))
        · have HM := Lib.hid hm
          have HH := Lib.hid hh
          clear hf hm hh
          have hh := HH
          go_wp2_with (first
            | (go_at_call 66
               refine (form_any _ _ (by omega)).mono ?_
               rintro e w1 ⟨rfl, rfl⟩
               rw [HFO.out])
            | (go_at_call 67
               refine (part_any _ _ _ _ hv (by omega) (by omega)).mono ?_
               rintro e w2 ⟨rfl, nk, rfl⟩)
            | (go_at_call 68
               refine (below_eq (r := pI 72 v) (by omega) (by omega) (nb_H hv)).mono ?_
               rintro e w3 ⟨rfl, rfl⟩)
            | (go_at_call 69
               refine (rw_good (c := 72) (v := v) rfl rfl rfl (by have e : pI 72 v = v / 1048576 := rfl; rw [e]; omega) HM.out).mono ?_
               rintro e w4 ⟨rfl, hb4⟩
               have HB := Lib.hid (toW (B := w.heap.size + 1) (w0 := w0) hb4 hz0 (by repeat (first | (with_reducible exact hbw) | (with_reducible refine Below.setCell ?_ (by simp; omega) _) | (with_reducible refine below_drewN ?_ _) | (with_reducible refine Below.alloc ?_ (by omega) _))))))
          exact ⟨⟨k + 1, by omega, by omega, by go_num, HB.out, fun j h1 h2 => if hj : j = k then by rw [hj]; exact hh else hno.out j h1 (by omega)⟩, by simp [intOf]; omega⟩
      · have HFO := Lib.hid hf
        rcases hit_at k v hf with ⟨hm, hh⟩ | ⟨hm, hq, hh⟩ | ⟨hm, hq, hh⟩
        · have HM := Lib.hid hm
          have HH := Lib.hid hh
          clear hf hm hh
          have hh := HH
          go_wp2_with (first
            | (go_at_call 66
               refine (form_any _ _ (by omega)).mono ?_
               rintro e w1 ⟨rfl, rfl⟩
               rw [HFO.out])
            | (go_at_call 67
               refine (part_any _ _ _ _ hv (by omega) (by omega)).mono ?_
               rintro e w2 ⟨rfl, nk, rfl⟩)
            | (go_at_call 68
               refine (below_eq (r := pI 83 v) (by omega) (by omega) (nb_S hv)).mono ?_
               rintro e w3 ⟨rfl, rfl⟩)
            | (go_at_call 69
               refine (rw_bad (c := 83) (v := v) rfl rfl rfl rfl HM.out).mono ?_
               rintro e w4 ⟨rfl, hb4⟩
               have HB := Lib.hid (toW (B := w.heap.size + 1) (w0 := w0) hb4 hz0 (by repeat (first | (with_reducible exact hbw) | (with_reducible refine Below.setCell ?_ (by simp; omega) _) | (with_reducible refine below_drewN ?_ _) | (with_reducible refine Below.alloc ?_ (by omega) _))))))
          exact ⟨⟨k + 1, by omega, by omega, by go_num, HB.out, fun j h1 h2 => if hj : j = k then by rw [hj]; exact hh else hno.out j h1 (by omega)⟩, by simp [intOf]; omega⟩
        · have HM := Lib.hid hm
          have HH := Lib.hid hh
          clear hf hm hh
          have hh := HH
          go_wp2_with (first
            | (go_at_call 66
               refine (form_any _ _ (by omega)).mono ?_
               rintro e w1 ⟨rfl, rfl⟩
               rw [HFO.out])
            | (go_at_call 67
               refine (part_any _ _ _ _ hv (by omega) (by omega)).mono ?_
               rintro e w2 ⟨rfl, nk, rfl⟩)
            | (go_at_call 68
               refine (below_eq (r := pI 83 v) (by omega) (by omega) (nb_S hv)).mono ?_
               rintro e w3 ⟨rfl, rfl⟩)
            | (go_at_call 69
               refine (rw_good (c := 83) (v := v) rfl rfl rfl rfl HM.out).mono ?_
               rintro e w4 ⟨rfl, hb4⟩
               have HB := Lib.hid (toW (B := w.heap.size + 1) (w0 := w0) hb4 hz0 (by repeat (first | (with_reducible exact hbw) | (with_reducible refine Below.setCell ?_ (by simp; omega) _) | (with_reducible refine below_drewN ?_ _) | (with_reducible refine Below.alloc ?_ (by omega) _))))
               have hsz : wr.heap.size < w4.heap.size := by have := hb4.size; simp at this; omega
               obtain ⟨c4, f4⟩ := bcell hb4
               have r0 := (HB.out.cell (p := ⟨w.heap.size, 0, none⟩) (by simp)).trans (HC.out 0 (by omega))
               have g0 := (HB.out.frozen (p := ⟨w.heap.size, 0, none⟩) (by simp)).trans (HF.out 0)
               have r1 := (HB.out.cell (p := ⟨w.heap.size, 1, none⟩) (by simp)).trans (HC.out 1 (by omega))
               have g1 := (HB.out.frozen (p := ⟨w.heap.size, 1, none⟩) (by simp)).trans (HF.out 1)
               have r2 := (HB.out.cell (p := ⟨w.heap.size, 2, none⟩) (by simp)).trans (HC.out 2 (by omega))
               have g2 := (HB.out.frozen (p := ⟨w.heap.size, 2, none⟩) (by simp)).trans (HF.out 2)
               have r3 := (HB.out.cell (p := ⟨w.heap.size, 3, none⟩) (by simp)).trans (HC.out 3 (by omega))
               have g3 := (HB.out.frozen (p := ⟨w.heap.size, 3, none⟩) (by simp)).trans (HF.out 3)
               have r4 := (HB.out.cell (p := ⟨w.heap.size, 4, none⟩) (by simp)).trans (HC.out 4 (by omega))
               have g4 := (HB.out.frozen (p := ⟨w.heap.size, 4, none⟩) (by simp)).trans (HF.out 4)))
          refine bodyPost_ret (v := .tuple #[.agg #[.int .i64 k, .int .i64 (0), .int .i64 (v / 32768 % 32), .int .i64 (v / 1048576 % 32), .int .i64 (pI 83 v)], .int .i64 0]) ?_ rfl ⟨takeV_hit HFO.out rfl rfl rfl rfl (takeK_some hk1 (by omega) hno.out hh), ?_⟩
          · simp [results, Tryd.results34, go_sem, r0, r1, r2, r3, r4]
          · repeat (first | (with_reducible refine Below.setCell ?_ (by simp) _) | (with_reducible exact (H0.trans (HB.out.mono (Nat.le_succ _)))))
        · have HM := Lib.hid hm
          have HH := Lib.hid hh
          clear hf hm hh
          have hh := HH
          go_wp2_with (first
            | (go_at_call 66
               refine (form_any _ _ (by omega)).mono ?_
               rintro e w1 ⟨rfl, rfl⟩
               rw [HFO.out])
            | (go_at_call 67
               refine (part_any _ _ _ _ hv (by omega) (by omega)).mono ?_
               rintro e w2 ⟨rfl, nk, rfl⟩)
            | (go_at_call 68
               refine (below_eq (r := pI 83 v) (by omega) (by omega) (nb_S hv)).mono ?_
               rintro e w3 ⟨rfl, rfl⟩)
            | (go_at_call 69
               refine (rw_good (c := 83) (v := v) rfl rfl rfl rfl HM.out).mono ?_
               rintro e w4 ⟨rfl, hb4⟩
               have HB := Lib.hid (toW (B := w.heap.size + 1) (w0 := w0) hb4 hz0 (by repeat (first | (with_reducible exact hbw) | (with_reducible refine Below.setCell ?_ (by simp; omega) _) | (with_reducible refine below_drewN ?_ _) | (with_reducible refine Below.alloc ?_ (by omega) _))))))
          exact ⟨⟨k + 1, by omega, by omega, by go_num, HB.out, fun j h1 h2 => if hj : j = k then by rw [hj]; exact hh else hno.out j h1 (by omega)⟩, by simp [intOf]; omega⟩
      · have HFO := Lib.hid hf
        rcases hit_at k v hf with ⟨hm, hh⟩ | ⟨hm, hq, hh⟩ | ⟨hm, hq, hh⟩
        · have HM := Lib.hid hm
          have HH := Lib.hid hh
          clear hf hm hh
          have hh := HH
          go_wp2_with (first
            | (go_at_call 66
               refine (form_any _ _ (by omega)).mono ?_
               rintro e w1 ⟨rfl, rfl⟩
               rw [HFO.out])
            | (go_at_call 67
               refine (part_any _ _ _ _ hv (by omega) (by omega)).mono ?_
               rintro e w2 ⟨rfl, nk, rfl⟩)
            | (go_at_call 68
               refine (below_eq (r := pI 66 v) (by omega) (by omega) (nb_B hv)).mono ?_
               rintro e w3 ⟨rfl, rfl⟩)
            | (go_at_call 69
               refine (rw_bad (c := 66) (v := v) rfl rfl rfl rfl HM.out).mono ?_
               rintro e w4 ⟨rfl, hb4⟩
               have HB := Lib.hid (toW (B := w.heap.size + 1) (w0 := w0) hb4 hz0 (by repeat (first | (with_reducible exact hbw) | (with_reducible refine Below.setCell ?_ (by simp; omega) _) | (with_reducible refine below_drewN ?_ _) | (with_reducible refine Below.alloc ?_ (by omega) _))))))
          exact ⟨⟨k + 1, by omega, by omega, by go_num, HB.out, fun j h1 h2 => if hj : j = k then by rw [hj]; exact hh else hno.out j h1 (by omega)⟩, by simp [intOf]; omega⟩
        · have HM := Lib.hid hm
          have HH := Lib.hid hh
          clear hf hm hh
          have hh := HH
          go_wp2_with (first
            | (go_at_call 66
               refine (form_any _ _ (by omega)).mono ?_
               rintro e w1 ⟨rfl, rfl⟩
               rw [HFO.out])
            | (go_at_call 67
               refine (part_any _ _ _ _ hv (by omega) (by omega)).mono ?_
               rintro e w2 ⟨rfl, nk, rfl⟩)
            | (go_at_call 68
               refine (below_eq (r := pI 66 v) (by omega) (by omega) (nb_B hv)).mono ?_
               rintro e w3 ⟨rfl, rfl⟩)
            | (go_at_call 69
               refine (rw_good (c := 66) (v := v) rfl rfl rfl rfl HM.out).mono ?_
               rintro e w4 ⟨rfl, hb4⟩
               have HB := Lib.hid (toW (B := w.heap.size + 1) (w0 := w0) hb4 hz0 (by repeat (first | (with_reducible exact hbw) | (with_reducible refine Below.setCell ?_ (by simp; omega) _) | (with_reducible refine below_drewN ?_ _) | (with_reducible refine Below.alloc ?_ (by omega) _))))
               have hsz : wr.heap.size < w4.heap.size := by have := hb4.size; simp at this; omega
               obtain ⟨c4, f4⟩ := bcell hb4
               have r0 := (HB.out.cell (p := ⟨w.heap.size, 0, none⟩) (by simp)).trans (HC.out 0 (by omega))
               have g0 := (HB.out.frozen (p := ⟨w.heap.size, 0, none⟩) (by simp)).trans (HF.out 0)
               have r1 := (HB.out.cell (p := ⟨w.heap.size, 1, none⟩) (by simp)).trans (HC.out 1 (by omega))
               have g1 := (HB.out.frozen (p := ⟨w.heap.size, 1, none⟩) (by simp)).trans (HF.out 1)
               have r2 := (HB.out.cell (p := ⟨w.heap.size, 2, none⟩) (by simp)).trans (HC.out 2 (by omega))
               have g2 := (HB.out.frozen (p := ⟨w.heap.size, 2, none⟩) (by simp)).trans (HF.out 2)
               have r3 := (HB.out.cell (p := ⟨w.heap.size, 3, none⟩) (by simp)).trans (HC.out 3 (by omega))
               have g3 := (HB.out.frozen (p := ⟨w.heap.size, 3, none⟩) (by simp)).trans (HF.out 3)
               have r4 := (HB.out.cell (p := ⟨w.heap.size, 4, none⟩) (by simp)).trans (HC.out 4 (by omega))
               have g4 := (HB.out.frozen (p := ⟨w.heap.size, 4, none⟩) (by simp)).trans (HF.out 4)))
          refine bodyPost_ret (v := .tuple #[.agg #[.int .i64 k, .int .i64 (0), .int .i64 (v / 32768 % 32), .int .i64 (v / 1048576 % 32), .int .i64 (pI 66 v)], .int .i64 0]) ?_ rfl ⟨takeV_hit HFO.out rfl rfl rfl rfl (takeK_some hk1 (by omega) hno.out hh), ?_⟩
          · simp [results, Tryd.results34, go_sem, r0, r1, r2, r3, r4]
          · repeat (first | (with_reducible refine Below.setCell ?_ (by simp) _) | (with_reducible exact (H0.trans (HB.out.mono (Nat.le_succ _)))))
        · have HM := Lib.hid hm
          have HH := Lib.hid hh
          clear hf hm hh
          have hh := HH
          go_wp2_with (first
            | (go_at_call 66
               refine (form_any _ _ (by omega)).mono ?_
               rintro e w1 ⟨rfl, rfl⟩
               rw [HFO.out])
            | (go_at_call 67
               refine (part_any _ _ _ _ hv (by omega) (by omega)).mono ?_
               rintro e w2 ⟨rfl, nk, rfl⟩)
            | (go_at_call 68
               refine (below_eq (r := pI 66 v) (by omega) (by omega) (nb_B hv)).mono ?_
               rintro e w3 ⟨rfl, rfl⟩)
            | (go_at_call 69
               refine (rw_good (c := 66) (v := v) rfl rfl rfl rfl HM.out).mono ?_
               rintro e w4 ⟨rfl, hb4⟩
               have HB := Lib.hid (toW (B := w.heap.size + 1) (w0 := w0) hb4 hz0 (by repeat (first | (with_reducible exact hbw) | (with_reducible refine Below.setCell ?_ (by simp; omega) _) | (with_reducible refine below_drewN ?_ _) | (with_reducible refine Below.alloc ?_ (by omega) _))))))
          exact ⟨⟨k + 1, by omega, by omega, by go_num, HB.out, fun j h1 h2 => if hj : j = k then by rw [hj]; exact hh else hno.out j h1 (by omega)⟩, by simp [intOf]; omega⟩
      · have HFO := Lib.hid hf
        rcases hit_at k v hf with ⟨hm, hh⟩ | ⟨hm, hq, hh⟩ | ⟨hm, hq, hh⟩
        · have HM := Lib.hid hm
          have HH := Lib.hid hh
          clear hf hm hh
          have hh := HH
          go_wp2_with (first
            | (go_at_call 66
               refine (form_any _ _ (by omega)).mono ?_
               rintro e w1 ⟨rfl, rfl⟩
               rw [HFO.out])
            | (go_at_call 67
               refine (part_any _ _ _ _ hv (by omega) (by omega)).mono ?_
               rintro e w2 ⟨rfl, nk, rfl⟩)
            | (go_at_call 68
               refine (below_eq (r := v / 4096 - v / 2147483648 * 1048576) (by omega) (by omega) (nb_U hv)).mono ?_
               rintro e w3 ⟨rfl, rfl⟩)
            | (go_at_call 69
               refine (rw_bad (c := 85) (v := v) rfl rfl rfl (by have e : pI 85 v = v / 4096 * 4096 - v / 2147483648 * 4294967296 := rfl; rw [e]; omega) HM.out).mono ?_
               rintro e w4 ⟨rfl, hb4⟩
               have HB := Lib.hid (toW (B := w.heap.size + 1) (w0 := w0) hb4 hz0 (by repeat (first | (with_reducible exact hbw) | (with_reducible refine Below.setCell ?_ (by simp; omega) _) | (with_reducible refine below_drewN ?_ _) | (with_reducible refine Below.alloc ?_ (by omega) _))))))
          exact ⟨⟨k + 1, by omega, by omega, by go_num, HB.out, fun j h1 h2 => if hj : j = k then by rw [hj]; exact hh else hno.out j h1 (by omega)⟩, by simp [intOf]; omega⟩
        · have HM := Lib.hid hm
          have HH := Lib.hid hh
          clear hf hm hh
          have hh := HH
          go_wp2_with (first
            | (go_at_call 66
               refine (form_any _ _ (by omega)).mono ?_
               rintro e w1 ⟨rfl, rfl⟩
               rw [HFO.out])
            | (go_at_call 67
               refine (part_any _ _ _ _ hv (by omega) (by omega)).mono ?_
               rintro e w2 ⟨rfl, nk, rfl⟩)
            | (go_at_call 68
               refine (below_eq (r := v / 4096 - v / 2147483648 * 1048576) (by omega) (by omega) (nb_U hv)).mono ?_
               rintro e w3 ⟨rfl, rfl⟩)
            | (go_at_call 69
               refine (rw_good (c := 85) (v := v) rfl rfl rfl (by have e : pI 85 v = v / 4096 * 4096 - v / 2147483648 * 4294967296 := rfl; rw [e]; omega) HM.out).mono ?_
               rintro e w4 ⟨rfl, hb4⟩
               have HB := Lib.hid (toW (B := w.heap.size + 1) (w0 := w0) hb4 hz0 (by repeat (first | (with_reducible exact hbw) | (with_reducible refine Below.setCell ?_ (by simp; omega) _) | (with_reducible refine below_drewN ?_ _) | (with_reducible refine Below.alloc ?_ (by omega) _))))
               have hsz : wr.heap.size < w4.heap.size := by have := hb4.size; simp at this; omega
               obtain ⟨c4, f4⟩ := bcell hb4
               have r0 := (HB.out.cell (p := ⟨w.heap.size, 0, none⟩) (by simp)).trans (HC.out 0 (by omega))
               have g0 := (HB.out.frozen (p := ⟨w.heap.size, 0, none⟩) (by simp)).trans (HF.out 0)
               have r1 := (HB.out.cell (p := ⟨w.heap.size, 1, none⟩) (by simp)).trans (HC.out 1 (by omega))
               have g1 := (HB.out.frozen (p := ⟨w.heap.size, 1, none⟩) (by simp)).trans (HF.out 1)
               have r2 := (HB.out.cell (p := ⟨w.heap.size, 2, none⟩) (by simp)).trans (HC.out 2 (by omega))
               have g2 := (HB.out.frozen (p := ⟨w.heap.size, 2, none⟩) (by simp)).trans (HF.out 2)
               have r3 := (HB.out.cell (p := ⟨w.heap.size, 3, none⟩) (by simp)).trans (HC.out 3 (by omega))
               have g3 := (HB.out.frozen (p := ⟨w.heap.size, 3, none⟩) (by simp)).trans (HF.out 3)
               have r4 := (HB.out.cell (p := ⟨w.heap.size, 4, none⟩) (by simp)).trans (HC.out 4 (by omega))
               have g4 := (HB.out.frozen (p := ⟨w.heap.size, 4, none⟩) (by simp)).trans (HF.out 4)))
          refine bodyPost_ret (v := .tuple #[.agg #[.int .i64 k, .int .i64 (v / 128 % 32), .int .i64 (0), .int .i64 (0), .int .i64 ((v / 4096 - v / 2147483648 * 1048576) * 4096)], .int .i64 0]) ?_ rfl ⟨takeV_hit HFO.out rfl rfl rfl (by have e : pI 85 v = v / 4096 * 4096 - v / 2147483648 * 4294967296 := rfl; rw [e]; omega) (takeK_some hk1 (by omega) hno.out hh), ?_⟩
          · simp [results, Tryd.results34, go_sem, r0, r1, r2, r3, r4]
          · repeat (first | (with_reducible refine Below.setCell ?_ (by simp) _) | (with_reducible exact (H0.trans (HB.out.mono (Nat.le_succ _)))))
        · have HM := Lib.hid hm
          have HH := Lib.hid hh
          clear hf hm hh
          have hh := HH
          go_wp2_with (first
            | (go_at_call 66
               refine (form_any _ _ (by omega)).mono ?_
               rintro e w1 ⟨rfl, rfl⟩
               rw [HFO.out])
            | (go_at_call 67
               refine (part_any _ _ _ _ hv (by omega) (by omega)).mono ?_
               rintro e w2 ⟨rfl, nk, rfl⟩)
            | (go_at_call 68
               refine (below_eq (r := v / 4096 - v / 2147483648 * 1048576) (by omega) (by omega) (nb_U hv)).mono ?_
               rintro e w3 ⟨rfl, rfl⟩)
            | (go_at_call 69
               refine (rw_good (c := 85) (v := v) rfl rfl rfl (by have e : pI 85 v = v / 4096 * 4096 - v / 2147483648 * 4294967296 := rfl; rw [e]; omega) HM.out).mono ?_
               rintro e w4 ⟨rfl, hb4⟩
               have HB := Lib.hid (toW (B := w.heap.size + 1) (w0 := w0) hb4 hz0 (by repeat (first | (with_reducible exact hbw) | (with_reducible refine Below.setCell ?_ (by simp; omega) _) | (with_reducible refine below_drewN ?_ _) | (with_reducible refine Below.alloc ?_ (by omega) _))))))
          exact ⟨⟨k + 1, by omega, by omega, by go_num, HB.out, fun j h1 h2 => if hj : j = k then by rw [hj]; exact hh else hno.out j h1 (by omega)⟩, by simp [intOf]; omega⟩
      · have HFO := Lib.hid hf
        rcases hit_at k v hf with ⟨hm, hh⟩ | ⟨hm, hq, hh⟩ | ⟨hm, hq, hh⟩
        · have HM := Lib.hid hm
          have HH := Lib.hid hh
          clear hf hm hh
          have hh := HH
          go_wp2_with (first
            | (go_at_call 66
               refine (form_any _ _ (by omega)).mono ?_
               rintro e w1 ⟨rfl, rfl⟩
               rw [HFO.out])
            | (go_at_call 67
               refine (part_any _ _ _ _ hv (by omega) (by omega)).mono ?_
               rintro e w2 ⟨rfl, nk, rfl⟩)
            | (go_at_call 68
               refine (below_eq (r := pI 74 v) (by omega) (by omega) (nb_J hv)).mono ?_
               rintro e w3 ⟨rfl, rfl⟩)
            | (go_at_call 69
               refine (rw_bad (c := 74) (v := v) rfl rfl rfl rfl HM.out).mono ?_
               rintro e w4 ⟨rfl, hb4⟩
               have HB := Lib.hid (toW (B := w.heap.size + 1) (w0 := w0) hb4 hz0 (by repeat (first | (with_reducible exact hbw) | (with_reducible refine Below.setCell ?_ (by simp; omega) _) | (with_reducible refine below_drewN ?_ _) | (with_reducible refine Below.alloc ?_ (by omega) _))))))
          exact ⟨⟨k + 1, by omega, by omega, by go_num, HB.out, fun j h1 h2 => if hj : j = k then by rw [hj]; exact hh else hno.out j h1 (by omega)⟩, by simp [intOf]; omega⟩
        · have HM := Lib.hid hm
          have HH := Lib.hid hh
          clear hf hm hh
          have hh := HH
          go_wp2_with (first
            | (go_at_call 66
               refine (form_any _ _ (by omega)).mono ?_
               rintro e w1 ⟨rfl, rfl⟩
               rw [HFO.out])
            | (go_at_call 67
               refine (part_any _ _ _ _ hv (by omega) (by omega)).mono ?_
               rintro e w2 ⟨rfl, nk, rfl⟩)
            | (go_at_call 68
               refine (below_eq (r := pI 74 v) (by omega) (by omega) (nb_J hv)).mono ?_
               rintro e w3 ⟨rfl, rfl⟩)
            | (go_at_call 69
               refine (rw_good (c := 74) (v := v) rfl rfl rfl rfl HM.out).mono ?_
               rintro e w4 ⟨rfl, hb4⟩
               have HB := Lib.hid (toW (B := w.heap.size + 1) (w0 := w0) hb4 hz0 (by repeat (first | (with_reducible exact hbw) | (with_reducible refine Below.setCell ?_ (by simp; omega) _) | (with_reducible refine below_drewN ?_ _) | (with_reducible refine Below.alloc ?_ (by omega) _))))
               have hsz : wr.heap.size < w4.heap.size := by have := hb4.size; simp at this; omega
               obtain ⟨c4, f4⟩ := bcell hb4
               have r0 := (HB.out.cell (p := ⟨w.heap.size, 0, none⟩) (by simp)).trans (HC.out 0 (by omega))
               have g0 := (HB.out.frozen (p := ⟨w.heap.size, 0, none⟩) (by simp)).trans (HF.out 0)
               have r1 := (HB.out.cell (p := ⟨w.heap.size, 1, none⟩) (by simp)).trans (HC.out 1 (by omega))
               have g1 := (HB.out.frozen (p := ⟨w.heap.size, 1, none⟩) (by simp)).trans (HF.out 1)
               have r2 := (HB.out.cell (p := ⟨w.heap.size, 2, none⟩) (by simp)).trans (HC.out 2 (by omega))
               have g2 := (HB.out.frozen (p := ⟨w.heap.size, 2, none⟩) (by simp)).trans (HF.out 2)
               have r3 := (HB.out.cell (p := ⟨w.heap.size, 3, none⟩) (by simp)).trans (HC.out 3 (by omega))
               have g3 := (HB.out.frozen (p := ⟨w.heap.size, 3, none⟩) (by simp)).trans (HF.out 3)
               have r4 := (HB.out.cell (p := ⟨w.heap.size, 4, none⟩) (by simp)).trans (HC.out 4 (by omega))
               have g4 := (HB.out.frozen (p := ⟨w.heap.size, 4, none⟩) (by simp)).trans (HF.out 4)))
          refine bodyPost_ret (v := .tuple #[.agg #[.int .i64 k, .int .i64 (v / 128 % 32), .int .i64 (0), .int .i64 (0), .int .i64 (pI 74 v)], .int .i64 0]) ?_ rfl ⟨takeV_hit HFO.out rfl rfl rfl rfl (takeK_some hk1 (by omega) hno.out hh), ?_⟩
          · simp [results, Tryd.results34, go_sem, r0, r1, r2, r3, r4]
          · repeat (first | (with_reducible refine Below.setCell ?_ (by simp) _) | (with_reducible exact (H0.trans (HB.out.mono (Nat.le_succ _)))))
        · have HM := Lib.hid hm
          have HH := Lib.hid hh
          clear hf hm hh
          have hh := HH
          go_wp2_with (first
            | (go_at_call 66
               refine (form_any _ _ (by omega)).mono ?_
               rintro e w1 ⟨rfl, rfl⟩
               rw [HFO.out])
            | (go_at_call 67
               refine (part_any _ _ _ _ hv (by omega) (by omega)).mono ?_
               rintro e w2 ⟨rfl, nk, rfl⟩)
            | (go_at_call 68
               refine (below_eq (r := pI 74 v) (by omega) (by omega) (nb_J hv)).mono ?_
               rintro e w3 ⟨rfl, rfl⟩)
            | (go_at_call 69
               refine (rw_good (c := 74) (v := v) rfl rfl rfl rfl HM.out).mono ?_
               rintro e w4 ⟨rfl, hb4⟩
               have HB := Lib.hid (toW (B := w.heap.size + 1) (w0 := w0) hb4 hz0 (by repeat (first | (with_reducible exact hbw) | (with_reducible refine Below.setCell ?_ (by simp; omega) _) | (with_reducible refine below_drewN ?_ _) | (with_reducible refine Below.alloc ?_ (by omega) _))))))
          exact ⟨⟨k + 1, by omega, by omega, by go_num, HB.out, fun j h1 h2 => if hj : j = k then by rw [hj]; exact hh else hno.out j h1 (by omega)⟩, by simp [intOf]; omega⟩
      · have HFO := Lib.hid hf
        rcases hit_at k v hf with ⟨hm, hh⟩ | ⟨hm, hq, hh⟩ | ⟨hm, hq, hh⟩
        · have HM := Lib.hid hm
          have HH := Lib.hid hh
          clear hf hm hh
          have hh := HH
          go_wp2_with (first
            | (go_at_call 66
               refine (form_any _ _ (by omega)).mono ?_
               rintro e w1 ⟨rfl, rfl⟩
               rw [HFO.out])
            | (go_at_call 67
               refine (part_any _ _ _ _ hv (by omega) (by omega)).mono ?_
               rintro e w2 ⟨rfl, nk, rfl⟩)
            | (go_at_call 68
               refine (below_eq (r := pI 69 v) (by omega) (by omega) (nb_E hv)).mono ?_
               rintro e w3 ⟨rfl, rfl⟩)
            | (go_at_call 69
               refine (rw_bad (c := 69) (v := v) rfl rfl rfl rfl HM.out).mono ?_
               rintro e w4 ⟨rfl, hb4⟩
               have HB := Lib.hid (toW (B := w.heap.size + 1) (w0 := w0) hb4 hz0 (by repeat (first | (with_reducible exact hbw) | (with_reducible refine Below.setCell ?_ (by simp; omega) _) | (with_reducible refine below_drewN ?_ _) | (with_reducible refine Below.alloc ?_ (by omega) _))))))
          exact ⟨⟨k + 1, by omega, by omega, by go_num, HB.out, fun j h1 h2 => if hj : j = k then by rw [hj]; exact hh else hno.out j h1 (by omega)⟩, by simp [intOf]; omega⟩
        · have HM := Lib.hid hm
          have HH := Lib.hid hh
          clear hf hm hh
          have hh := HH
          go_wp2_with (first
            | (go_at_call 66
               refine (form_any _ _ (by omega)).mono ?_
               rintro e w1 ⟨rfl, rfl⟩
               rw [HFO.out])
            | (go_at_call 67
               refine (part_any _ _ _ _ hv (by omega) (by omega)).mono ?_
               rintro e w2 ⟨rfl, nk, rfl⟩)
            | (go_at_call 68
               refine (below_eq (r := pI 69 v) (by omega) (by omega) (nb_E hv)).mono ?_
               rintro e w3 ⟨rfl, rfl⟩)
            | (go_at_call 69
               refine (rw_good (c := 69) (v := v) rfl rfl rfl rfl HM.out).mono ?_
               rintro e w4 ⟨rfl, hb4⟩
               have HB := Lib.hid (toW (B := w.heap.size + 1) (w0 := w0) hb4 hz0 (by repeat (first | (with_reducible exact hbw) | (with_reducible refine Below.setCell ?_ (by simp; omega) _) | (with_reducible refine below_drewN ?_ _) | (with_reducible refine Below.alloc ?_ (by omega) _))))
               have hsz : wr.heap.size < w4.heap.size := by have := hb4.size; simp at this; omega
               obtain ⟨c4, f4⟩ := bcell hb4
               have r0 := (HB.out.cell (p := ⟨w.heap.size, 0, none⟩) (by simp)).trans (HC.out 0 (by omega))
               have g0 := (HB.out.frozen (p := ⟨w.heap.size, 0, none⟩) (by simp)).trans (HF.out 0)
               have r1 := (HB.out.cell (p := ⟨w.heap.size, 1, none⟩) (by simp)).trans (HC.out 1 (by omega))
               have g1 := (HB.out.frozen (p := ⟨w.heap.size, 1, none⟩) (by simp)).trans (HF.out 1)
               have r2 := (HB.out.cell (p := ⟨w.heap.size, 2, none⟩) (by simp)).trans (HC.out 2 (by omega))
               have g2 := (HB.out.frozen (p := ⟨w.heap.size, 2, none⟩) (by simp)).trans (HF.out 2)
               have r3 := (HB.out.cell (p := ⟨w.heap.size, 3, none⟩) (by simp)).trans (HC.out 3 (by omega))
               have g3 := (HB.out.frozen (p := ⟨w.heap.size, 3, none⟩) (by simp)).trans (HF.out 3)
               have r4 := (HB.out.cell (p := ⟨w.heap.size, 4, none⟩) (by simp)).trans (HC.out 4 (by omega))
               have g4 := (HB.out.frozen (p := ⟨w.heap.size, 4, none⟩) (by simp)).trans (HF.out 4)))
          refine bodyPost_ret (v := .tuple #[.agg #[.int .i64 k, .int .i64 (0), .int .i64 (0), .int .i64 (0), .int .i64 (0)], .int .i64 0]) ?_ rfl ⟨takeV_hit HFO.out rfl rfl rfl rfl (takeK_some hk1 (by omega) hno.out hh), ?_⟩
          · simp [results, Tryd.results34, go_sem, r0, r1, r2, r3, r4]
          · repeat (first | (with_reducible refine Below.setCell ?_ (by simp) _) | (with_reducible exact (H0.trans (HB.out.mono (Nat.le_succ _)))))
        · have HM := Lib.hid hm
          have HH := Lib.hid hh
          clear hf hm hh
          have hh := HH
          go_wp2_with (first
            | (go_at_call 66
               refine (form_any _ _ (by omega)).mono ?_
               rintro e w1 ⟨rfl, rfl⟩
               rw [HFO.out])
            | (go_at_call 67
               refine (part_any _ _ _ _ hv (by omega) (by omega)).mono ?_
               rintro e w2 ⟨rfl, nk, rfl⟩)
            | (go_at_call 68
               refine (below_eq (r := pI 69 v) (by omega) (by omega) (nb_E hv)).mono ?_
               rintro e w3 ⟨rfl, rfl⟩)
            | (go_at_call 69
               refine (rw_good (c := 69) (v := v) rfl rfl rfl rfl HM.out).mono ?_
               rintro e w4 ⟨rfl, hb4⟩
               have HB := Lib.hid (toW (B := w.heap.size + 1) (w0 := w0) hb4 hz0 (by repeat (first | (with_reducible exact hbw) | (with_reducible refine Below.setCell ?_ (by simp; omega) _) | (with_reducible refine below_drewN ?_ _) | (with_reducible refine Below.alloc ?_ (by omega) _))))))
          exact ⟨⟨k + 1, by omega, by omega, by go_num, HB.out, fun j h1 h2 => if hj : j = k then by rw [hj]; exact hh else hno.out j h1 (by omega)⟩, by simp [intOf]; omega⟩
    · obtain rfl : k = 32 := by omega
      have r0 := (hbw.cell (p := ⟨w.heap.size, 0, none⟩) (by simp)).trans (HC.out 0 (by omega))
      have g0 := (hbw.frozen (p := ⟨w.heap.size, 0, none⟩) (by simp)).trans (HF.out 0)
      have r1 := (hbw.cell (p := ⟨w.heap.size, 1, none⟩) (by simp)).trans (HC.out 1 (by omega))
      have g1 := (hbw.frozen (p := ⟨w.heap.size, 1, none⟩) (by simp)).trans (HF.out 1)
      have r2 := (hbw.cell (p := ⟨w.heap.size, 2, none⟩) (by simp)).trans (HC.out 2 (by omega))
      have g2 := (hbw.frozen (p := ⟨w.heap.size, 2, none⟩) (by simp)).trans (HF.out 2)
      have r3 := (hbw.cell (p := ⟨w.heap.size, 3, none⟩) (by simp)).trans (HC.out 3 (by omega))
      have g3 := (hbw.frozen (p := ⟨w.heap.size, 3, none⟩) (by simp)).trans (HF.out 3)
      have r4 := (hbw.cell (p := ⟨w.heap.size, 4, none⟩) (by simp)).trans (HC.out 4 (by omega))
      have g4 := (hbw.frozen (p := ⟨w.heap.size, 4, none⟩) (by simp)).trans (HF.out 4)
      go_wp2
      refine bodyPost_ret (v := ?v2) ?_ rfl ⟨?_, ?_⟩
      rotate_left
      · simp [results, Tryd.results34, go_sem, r0, r1, r2, r3, r4]
        rfl
      · unfold takeV takeE
        rw [takeK_none hno.out]
      · repeat (first | (with_reducible refine Below.setCell ?_ (by simp) _) | (with_reducible exact (H0.trans (hbw.mono (Nat.le_succ _)))))
end Go.Proofs.YtajhehmkdlebbaaDoor
