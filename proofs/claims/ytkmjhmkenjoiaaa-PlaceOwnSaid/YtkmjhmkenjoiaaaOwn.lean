/- PlaceOwn's walk: true, whatever the codes, the globals and the two numbers. -/
import Derived.Test.YtkmjhmkenjoiaaaLaws
import Derived.Deep.QuietTactic
import Derived.BigQuiet
namespace Go.Proofs.Ytkmjhmkenjoiaaa
open Go.ChangeShapes Go.WideShapes Go.ChangeAt Go.RowKit
section
variable {B : Nat} {A A2 : Option Addr} {cap gc : Nat} {L : List CodeD} {G : List GlobD} {w : World} {i k : Int}
set_option maxRecDepth 100000 in
set_option maxHeartbeats 400000 in
theorem own_not (hL : Codes w B A cap L) (hG : Globs w B A2 gc G) (hB : B ≤ w.heap.size) (hf : fewB L G.length = false) :
    Calls Try.prog 4 #[.agg #[.slice A L.length cap, .slice A2 G.length gc, .int .i64 i, .int .i64 k]] w fun e w' => e = .returned (.bool true) ∧ Below w.heap.size w w' := by
  have hlenG := hG.len
  have ba := (Below.refl w.heap.size w).alloc (Nat.le_refl _) (.cells #[.slice A L.length cap, .slice A2 G.length gc, .int .i64 i, .int .i64 k] 29)
  go_enter Try.func4, Try.ntmps4
  go_wp2_with (first
    | (go_at_call 7; refine (shown_any _).mono ?_; rintro e w' ⟨rfl, rfl⟩)
    | (go_at_call 10; refine (few_any (hL.below (ba.mono hB)) (by omega)).mono ?_; rintro e w' ⟨rfl, rfl⟩)
    | (go_at_call 11; refine (syms_read (hL.below (ba.mono hB)) (hG.below (ba.mono hB)) (Nat.le_trans hB ba.size)).mono ?_; rintro e w1 ⟨S, c, rfl, hin, hb1⟩))
  go_ret
  exact ⟨rfl, ba.trans (hb1.mono ba.size)⟩
set_option maxRecDepth 100000 in
set_option maxHeartbeats 400000 in
theorem own_out (hL : Codes w B A cap L) (hG : Globs w B A2 gc G) (hB : B ≤ w.heap.size) (hf : fewB L G.length = true) (hi : i < 0 ∨ k ≤ i ∨ (L.length : Int) + (G.length : Int) ≤ k) :
    Calls Try.prog 4 #[.agg #[.slice A L.length cap, .slice A2 G.length gc, .int .i64 i, .int .i64 k]] w fun e w' => e = .returned (.bool true) ∧ Below w.heap.size w w' := by
  have hlenG := hG.len
  have hlenL := hL.len
  have ba := (Below.refl w.heap.size w).alloc (Nat.le_refl _) (.cells #[.slice A L.length cap, .slice A2 G.length gc, .int .i64 i, .int .i64 k] 29)
  by_cases c1 : i < 0
  · go_enter Try.func4, Try.ntmps4
    go_wp2_with (first
      | (go_at_call 7; refine (shown_any _).mono ?_; rintro e w' ⟨rfl, rfl⟩)
      | (go_at_call 10; refine (few_any (hL.below (ba.mono hB)) (by omega)).mono ?_; rintro e w' ⟨rfl, rfl⟩)
      | (go_at_call 11; refine (syms_read (hL.below (ba.mono hB)) (hG.below (ba.mono hB)) (Nat.le_trans hB ba.size)).mono ?_; rintro e w1 ⟨S, c, rfl, hin, hb1⟩))
    go_ret
    exact ⟨rfl, ba.trans (hb1.mono ba.size)⟩
  · by_cases c2 : k ≤ i
    · go_enter Try.func4, Try.ntmps4
      go_wp2_with (first
        | (go_at_call 7; refine (shown_any _).mono ?_; rintro e w' ⟨rfl, rfl⟩)
        | (go_at_call 10; refine (few_any (hL.below (ba.mono hB)) (by omega)).mono ?_; rintro e w' ⟨rfl, rfl⟩)
        | (go_at_call 11; refine (syms_read (hL.below (ba.mono hB)) (hG.below (ba.mono hB)) (Nat.le_trans hB ba.size)).mono ?_; rintro e w1 ⟨S, c, rfl, hin, hb1⟩))
      go_ret
      exact ⟨rfl, ba.trans (hb1.mono ba.size)⟩
    · have c3 : (L.length : Int) + (G.length : Int) ≤ k := by omega
      clear hi
      go_enter Try.func4, Try.ntmps4
      go_wp2_with (first
        | (go_at_call 7; refine (shown_any _).mono ?_; rintro e w' ⟨rfl, rfl⟩)
        | (go_at_call 10; refine (few_any (hL.below (ba.mono hB)) (by omega)).mono ?_; rintro e w' ⟨rfl, rfl⟩)
        | (go_at_call 11; refine (syms_read (hL.below (ba.mono hB)) (hG.below (ba.mono hB)) (Nat.le_trans hB ba.size)).mono ?_; rintro e w1 ⟨S, c, rfl, hin, hb1⟩))
      go_ret
      exact ⟨rfl, ba.trans (hb1.mono ba.size)⟩
end
set_option maxRecDepth 100000 in
set_option maxHeartbeats 400000 in
theorem own_f {B : Nat} {A A2 : Option Addr} {cap gc : Nat} {L : List CodeD} {G : List GlobD} {w : World} {i k : Nat} (hL : Codes w B A cap L) (hG : Globs w B A2 gc G) (hB : B ≤ w.heap.size) (hf : fewB L G.length = true) (hik : i < k) (hk : k < L.length + G.length) (hi : i < L.length) :
    Calls Try.prog 4 #[.agg #[.slice A L.length cap, .slice A2 G.length gc, .int .i64 i, .int .i64 k]] w fun e w' => e = .returned (.bool true) ∧ Below w.heap.size w w' := by
  have hlenG := hG.len
  have hlenL := hL.len
  obtain ⟨h1, h2, h3⟩ := fewB_true hL hf
  have ba := (Below.refl w.heap.size w).alloc (Nat.le_refl _) (.cells #[.slice A L.length cap, .slice A2 G.length gc, .int .i64 i, .int .i64 k] 29)
  have hkI : (k : Int) < (L.length : Int) + (G.length : Int) := by omega
  have hop := hL.ops_len hi
  obtain ⟨bL, offL, rfl, hbL, l0, l1, l2⟩ := hL.at_ hi
  clear l0 l2
  have hr := place_rise (L := L) hik
  rw [dif_pos hi] at hr
  have hn := place_next hi
  have bdi := place_bd (L := L) (G := G) h1 h3 (i := i) (by omega)
  have bdk := place_bd (L := L) (G := G) h1 h3 hk
  have t1 : decide (textI L < placeOf L i + 4 * (L[i].ops.l.length : Int)) = false := by rw [text_small h1]; simp; omega
  have t2 : decide (placeOf L i + 4 * (L[i].ops.l.length : Int) ≤ placeOf L k) = true := by simp; omega
  clear hr hn
  go_enter Try.func4, Try.ntmps4
  go_wp2_with (first
    | (go_at_call 7; refine (shown_any _).mono ?_; rintro e w' ⟨rfl, rfl⟩)
    | (go_at_call 10; refine (few_any (hL.below (ba.mono hB)) (by omega)).mono ?_; rintro e w' ⟨rfl, rfl⟩)
    | (go_at_call 11
       refine (syms_read (hL.below (ba.mono hB)) (hG.below (ba.mono hB)) (Nat.le_trans hB ba.size)).mono ?_
       rintro e w1 ⟨S, c, rfl, hin, hb1⟩
       have hb1' := ba.trans (hb1.mono ba.size)
       have l1' := (hb1'.cell (p := ⟨bL, offL + i * 3 + 1, none⟩) (by simp only; omega)).trans l1)
    | (go_at_call 12
       refine (ends_any (hL.below (hb1'.mono hB)) (Nat.le_trans hB hb1'.size) (by omega)).mono ?_
       rintro e w2 ⟨rfl, hb2⟩
       have hin2 := hin.below hb2
       obtain ⟨nm, hx⟩ := sym_small (G := G) h1 h3 (i := i) (by omega)
       obtain ⟨b, off, rfl, hb, c1, _⟩ := sym_cells hin2 hx
       obtain ⟨nm', hx'⟩ := sym_small (G := G) h1 h3 hk
       obtain ⟨b', off', e', hb', c1', _⟩ := sym_cells hin2 hx'
       simp only [Option.some.injEq, Addr.mk.injEq, and_true] at e'
       obtain ⟨rfl, rfl⟩ := e'
       clear hx hx' hin hin2))
  go_quiet (fail)
  go_wp2
  go_ret
  exact ⟨rfl, below_drewN (hb1'.trans (hb2.mono hb1'.size)) _⟩
set_option maxRecDepth 100000 in
set_option maxHeartbeats 400000 in
theorem own_g {B : Nat} {A A2 : Option Addr} {cap gc : Nat} {L : List CodeD} {G : List GlobD} {w : World} {i k : Nat} (hL : Codes w B A cap L) (hG : Globs w B A2 gc G) (hB : B ≤ w.heap.size) (hf : fewB L G.length = true) (hik : i < k) (hk : k < L.length + G.length) (hi : ¬ i < L.length) :
    Calls Try.prog 4 #[.agg #[.slice A L.length cap, .slice A2 G.length gc, .int .i64 i, .int .i64 k]] w fun e w' => e = .returned (.bool true) ∧ Below w.heap.size w w' := by
  have hlenG := hG.len
  have hlenL := hL.len
  obtain ⟨h1, h2, h3⟩ := fewB_true hL hf
  have ba := (Below.refl w.heap.size w).alloc (Nat.le_refl _) (.cells #[.slice A L.length cap, .slice A2 G.length gc, .int .i64 i, .int .i64 k] 29)
  have hkI : (k : Int) < (L.length : Int) + (G.length : Int) := by omega
  have hr := place_rise (L := L) hik
  rw [dif_neg hi] at hr
  have bdi := place_bd (L := L) (G := G) h1 h3 (i := i) (by omega)
  have bdk := place_bd (L := L) (G := G) h1 h3 hk
  have hp1 : textI L ≤ placeOf L i ∧ placeOf L i + 8 ≤ dataI L G.length := by
    rw [text_small h1, data_small h1 h3]; unfold placeOf; rw [if_neg hi]; omega
  have t1 : decide (placeOf L i < textI L) = false := by simp; omega
  have t1' : decide (dataI L G.length < placeOf L i + 8) = false := by simp; omega
  have t2 : decide (placeOf L i + 8 ≤ placeOf L k) = true := by simp; omega
  clear hr
  go_enter Try.func4, Try.ntmps4
  go_wp2_with (first
    | (go_at_call 7; refine (shown_any _).mono ?_; rintro e w' ⟨rfl, rfl⟩)
    | (go_at_call 10; refine (few_any (hL.below (ba.mono hB)) (by omega)).mono ?_; rintro e w' ⟨rfl, rfl⟩)
    | (go_at_call 11
       refine (syms_read (hL.below (ba.mono hB)) (hG.below (ba.mono hB)) (Nat.le_trans hB ba.size)).mono ?_
       rintro e w1 ⟨S, c, rfl, hin, hb1⟩
       have hb1' := ba.trans (hb1.mono ba.size)
       skip)
    | (go_at_call 12
       refine (ends_any (hL.below (hb1'.mono hB)) (Nat.le_trans hB hb1'.size) (by omega)).mono ?_
       rintro e w2 ⟨rfl, hb2⟩
       have hin2 := hin.below hb2
       obtain ⟨nm, hx⟩ := sym_small (G := G) h1 h3 (i := i) (by omega)
       obtain ⟨b, off, rfl, hb, c1, _⟩ := sym_cells hin2 hx
       obtain ⟨nm', hx'⟩ := sym_small (G := G) h1 h3 hk
       obtain ⟨b', off', e', hb', c1', _⟩ := sym_cells hin2 hx'
       simp only [Option.some.injEq, Addr.mk.injEq, and_true] at e'
       obtain ⟨rfl, rfl⟩ := e'
       clear hx hx' hin hin2))
  go_quiet (fail)
  go_wp2
  go_ret
  exact ⟨rfl, below_drewN (hb1'.trans (hb2.mono hb1'.size)) _⟩
theorem own_any {B : Nat} {A A2 : Option Addr} {cap gc : Nat} {L : List CodeD} {G : List GlobD} {w : World} {i k : Int} (hL : Codes w B A cap L) (hG : Globs w B A2 gc G) (hB : B ≤ w.heap.size) :
    Calls Try.prog 4 #[.agg #[.slice A L.length cap, .slice A2 G.length gc, .int .i64 i, .int .i64 k]] w fun e w' => e = .returned (.bool true) ∧ Below w.heap.size w w' := by
  cases hf : fewB L G.length
  · exact own_not hL hG hB hf
  · by_cases h : i < 0 ∨ k ≤ i ∨ (L.length : Int) + (G.length : Int) ≤ k
    · exact own_out hL hG hB hf h
    · obtain ⟨i', rfl⟩ := Int.eq_ofNat_of_zero_le (show 0 ≤ i by omega)
      obtain ⟨k', rfl⟩ := Int.eq_ofNat_of_zero_le (show 0 ≤ k by omega)
      by_cases hi : i' < L.length
      · exact own_f hL hG hB hf (by omega) (by omega) hi
      · exact own_g hL hG hB hf (by omega) (by omega) hi
structure OwnD where
  l : Sl CodeD
  g : Sl GlobD
  i : Int
  k : Int
def OwnD.cells (x : OwnD) : List Value := [x.l.v, x.g.v, .int .i64 x.i, .int .i64 x.k]
theorem opens_own {w : World} : Opens Try.prog w 29 OwnD.cells (fun x => x.l.Good w w.heap.size 3 64 CodeD.cells (CodeD.In w w.heap.size) ∧ x.g.Good w w.heap.size 4 40 GlobD.cells GlobD.ok) := by
  intro H enc fuel cs y h hw
  obtain ⟨n, hl, hf⟩ := open_one Try.underlying29 (by kernel_rfl) (show Try.prog.cellsOf 29 = 4 by kernel_rfl) h hw
  match cs, hl with
  | [c0, c1, c2, c3], _ =>
    obtain ⟨v0, y0, e0, t0, w0⟩ := hf 0 _ rfl
    obtain ⟨v1, y1, e1, t1, w1⟩ := hf 1 _ rfl
    obtain ⟨v2, y2, e2, t2, w2⟩ := hf 2 _ rfl
    obtain ⟨v3, y3, e3, t3, w3⟩ := hf 3 _ rfl
    obtain ⟨x0, h0, g0⟩ := opens_codes enc _ _ _ t0 w0
    obtain ⟨x1, h1, g1⟩ := opens_globs enc _ _ _ t1 w1
    obtain ⟨x2, h2, g2⟩ := opens_int Try.underlying3 enc _ _ _ t2 w2
    obtain ⟨x3, h3, g3⟩ := opens_int Try.underlying3 enc _ _ _ t3 w3
    simp only [List.getElem?_cons_zero, List.getElem?_cons_succ, Option.some.injEq, List.cons.injEq, and_true] at e0 e1 e2 e3 h0 h1 h2 h3
    subst e0 e1 e2 e3 h0 h1 h2 h3
    exact ⟨⟨x0, x1, x2, x3⟩, rfl, g0, g1⟩
end Go.Proofs.Ytkmjhmkenjoiaaa
