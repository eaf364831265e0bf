/- PlaceRises' walk: true, whatever the codes and the globals. -/
import Derived.Test.YtkmjhmkenjoiaaaLaws
import Derived.Deep.QuietTactic
import Derived.BigQuiet
namespace Go.Proofs.Ytkmjhmkenjoiaaa
open Go.ChangeShapes Go.WideShapes Go.ChangeAt Go.RowKit
theorem rises_not {B : Nat} {A A2 : Option Addr} {cap gc : Nat} {L : List CodeD} {G : List GlobD} {w : World} (hL : Codes w B A cap L) (hG : Globs w B A2 gc G) (hf : fewB L G.length = false) :
    Calls Try.prog 5 #[.slice A L.length cap, .slice A2 G.length gc] w fun e w' => e = .returned (.bool true) ∧ Below w.heap.size w w' := by
  have hlenG := hG.len
  go_enter Try.func5, Try.ntmps5
  go_wp2_with (first | (go_at_call 7; refine (shown_any _).mono ?_; rintro e w' ⟨rfl, rfl⟩) | (go_at_call 10; refine (few_any hL (by omega)).mono ?_; rintro e w' ⟨rfl, rfl⟩))
  go_ret
  exact ⟨rfl, Below.refl _ _⟩
set_option maxRecDepth 100000 in
set_option maxHeartbeats 400000 in
theorem rises_few {B : Nat} {A A2 : Option Addr} {cap gc : Nat} {L : List CodeD} {G : List GlobD} {w : World} (hL : Codes w B A cap L) (hG : Globs w B A2 gc G) (hB : B ≤ w.heap.size) (hf : fewB L G.length = true) :
    Calls Try.prog 5 #[.slice A L.length cap, .slice A2 G.length gc] w fun e w' => e = .returned (.bool true) ∧ Below w.heap.size w w' := by
  have hlenG := hG.len
  have hlenL := hL.len
  obtain ⟨h1, h2, h3⟩ := fewB_true hL hf
  go_enter Try.func5, Try.ntmps5
  go_wp2_with (first
    | (go_at_call 7; refine (shown_any _).mono ?_; rintro e w' ⟨rfl, rfl⟩)
    | (go_at_call 10; refine (few_any hL (by omega)).mono ?_; rintro e w' ⟨rfl, rfl⟩)
    | (go_at_call 11; refine (syms_read hL hG hB).mono ?_; rintro e w1 ⟨S, c, rfl, hin, hb1⟩)
    | (go_at_call 12; refine (ends_any (hL.below (hb1.mono hB)) (Nat.le_trans hB hb1.size) (by omega)).mono ?_; rintro e w2 ⟨rfl, hb2⟩))
  have hin2 := hin.below hb2
  have hb3 := hb1.trans (hb2.mono hb1.size)
  have Ht := Lib.hid (text_small h1)
  have Hd := Lib.hid (data_small (L := L) h1 h3)
  have Hs := Lib.hid (stack_small (L := L) h1 h3)
  clear hin hb1 hb2
  obtain ⟨N, hN⟩ : ∃ N, N = L.length + G.length := ⟨_, rfl⟩
  rw [← hN]
  have HN := Lib.hid hN
  go_loopw [11] (fun i wr => ∃ k n : Nat, k ≤ N ∧ i = .int .i64 k ∧ wr = w2.drewN n) (fun i _ => N - (intOf i).toNat)
  case atStart => exact ⟨0, 0, Nat.zero_le _, rfl, rfl⟩
  case round =>
    obtain ⟨k, n, hk, rfl, rfl⟩ := hrel
    by_cases hlt : k < N
    · have hlt' : k < L.length + G.length := by omega
      clear hN
      obtain ⟨nm, hx⟩ := sym_small h1 h3 hlt'
      obtain ⟨b, off, rfl, hb, c1, c2⟩ := sym_cells hin2 hx
      have bd := place_bd (L := L) (G := G) h1 h3 hlt'
      by_cases hl : k < L.length
      · rw [decide_eq_true hl] at c2
        have hp := place_text hl
        have t1 : decide (textI L < placeOf L k) = false := by rw [Ht.out]; simp; omega
        by_cases h0 : 0 < k
        · obtain ⟨m, rfl⟩ : ∃ m, k = m + 1 := ⟨k - 1, by omega⟩
          obtain ⟨nm', hx'⟩ := sym_small (i := m) (G := G) h1 h3 (by omega)
          obtain ⟨b', off', e', hb', c1', c2'⟩ := sym_cells hin2 hx'
          simp only [Option.some.injEq, Addr.mk.injEq, and_true] at e'
          obtain ⟨rfl, rfl⟩ := e'
          have hr := place_rise (L := L) (show m < m + 1 by omega)
          rw [dif_pos (by omega)] at hr
          have t2 : decide (placeOf L (m + 1) < placeOf L m) = false := by simp; omega
          clear hr hx hx' hin2
          go_wp2_with fail
          go_quiet (fail)
          go_wp2
          exact ⟨⟨m + 1 + 1, n + nq, hlt, by go_num, rfl⟩, by simp [intOf]; omega⟩
        · have hz : decide ((0 : Int) < (k : Int)) = false := by simp; omega
          clear hx hin2
          go_wp2_with fail
          go_quiet (fail)
          go_wp2
          exact ⟨⟨k + 1, n + nq, hlt, by go_num, rfl⟩, by simp [intOf]; omega⟩
      · rw [decide_eq_false hl] at c2
        have hp1 : textI L ≤ placeOf L k ∧ placeOf L k < dataI L G.length := by
          rw [Ht.out, Hd.out]; unfold placeOf; rw [if_neg hl]; omega
        have t1 : decide (placeOf L k < textI L) = false := by simp; omega
        have t1' : decide (dataI L G.length ≤ placeOf L k) = false := by simp; omega
        by_cases h0 : 0 < k
        · obtain ⟨m, rfl⟩ : ∃ m, k = m + 1 := ⟨k - 1, by omega⟩
          obtain ⟨nm', hx'⟩ := sym_small (i := m) (G := G) h1 h3 (by omega)
          obtain ⟨b', off', e', hb', c1', c2'⟩ := sym_cells hin2 hx'
          simp only [Option.some.injEq, Addr.mk.injEq, and_true] at e'
          obtain ⟨rfl, rfl⟩ := e'
          have hr := place_rise (L := L) (show m < m + 1 by omega)
          have hr' : placeOf L m ≤ placeOf L (m + 1) := by split at hr <;> omega
          have t2 : decide (placeOf L (m + 1) < placeOf L m) = false := by simp; omega
          clear hr hx hx' hin2
          go_wp2_with fail
          go_quiet (fail)
          go_wp2
          exact ⟨⟨m + 1 + 1, n + nq, hlt, by go_num, rfl⟩, by simp [intOf]; omega⟩
        · have hz : decide ((0 : Int) < (k : Int)) = false := by simp; omega
          clear hx hin2
          go_wp2_with fail
          go_quiet (fail)
          go_wp2
          exact ⟨⟨k + 1, n + nq, hlt, by go_num, rfl⟩, by simp [intOf]; omega⟩
    · obtain rfl : k = N := by omega
      have d1 : ((k : Int) == (L.length : Int) + (G.length : Int)) = true := by have := HN.out; rw [beq_iff_eq]; omega
      have d2 : decide (textI L ≤ dataI L G.length) = true := by rw [Ht.out, Hd.out, decide_eq_true_eq]; omega
      have d3 : decide (dataI L G.length < stackI L G.length) = true := by rw [Hs.out, decide_eq_true_eq]; omega
      have d4 : 0 ≤ stackI L G.length := by rw [Hs.out, Hd.out]; omega
      have d5 : (stackI L G.length % 256 == 0) = true := by rw [Hs.out, beq_iff_eq]; omega
      go_wp2
      go_ret
      exact ⟨rfl, hb3.trans (below_drewN (Below.refl _ _) _)⟩
theorem rises_any {B : Nat} {A A2 : Option Addr} {cap gc : Nat} {L : List CodeD} {G : List GlobD} {w : World} (hL : Codes w B A cap L) (hG : Globs w B A2 gc G) (hB : B ≤ w.heap.size) :
    Calls Try.prog 5 #[.slice A L.length cap, .slice A2 G.length gc] w fun e w' => e = .returned (.bool true) ∧ Below w.heap.size w w' := by
  cases hf : fewB L G.length
  · exact rises_not hL hG hf
  · exact rises_few hL hG hB hf
end Go.Proofs.Ytkmjhmkenjoiaaa
