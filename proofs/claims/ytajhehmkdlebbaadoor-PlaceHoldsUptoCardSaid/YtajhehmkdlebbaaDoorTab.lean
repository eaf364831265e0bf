/- The table enc.sorts: from 'it reads as the program's text lays it' to its cells. An instruction among the arguments, opened. -/
import Derived.Test.YtajhehmkdlebbaaDoorPlain
import Derived.Lib.LaidTab
namespace Go.Proofs.YtajhehmkdlebbaaDoor
open Go.ChangeShapes Go.WideShapes Go.ChangeAt Go.RowKit Go.Deep
set_option maxRecDepth 100000
theorem Tryd.cells140 : Tryd.prog.cellsOf 140 = 4 := by kernel_rfl
theorem Tryd.cells141 : Tryd.prog.cellsOf 141 = 128 := by kernel_rfl
section
variable {H : Type} {enc : TypeId × Value → H} {w : World} {base : Nat} {spare : Nat → Bool} {held : Bool}
theorem sort_row {m : Nat} {cs : List Value} {f o a b : Int} {pp : List MemPlace}
    (h : DataW.trod enc Tryd.prog w base spare held m 140 cs = some (.agg [.lit (.int .u8 f), .lit (.int .u32 o), .lit (.int .u32 a), .lit (.int .u32 b)], pp)) :
    cs = [.int .u8 f, .int .u32 o, .int .u32 a, .int .u32 b] := by
  obtain ⟨ys, n, _, hx, hlen, hyl, hf⟩ := DataW.trod_struct Tryd.underlying140 h
  rw [Tryd.cells140] at hlen
  match cs, hlen, ys, hyl with
  | [v0, v1, v2, v3], _, [y0, y1, y2, y3], _ =>
    have hc5 : Tryd.prog.cellsOf 5 = 1 := by kernel_rfl
    have hc25 : Tryd.prog.cellsOf 63 = 1 := by kernel_rfl
    have g0 : DataW.trod enc Tryd.prog w base spare held n 5 (([v0, v1, v2, v3].drop 0).take (Tryd.prog.cellsOf 5)) = some y0 := hf 0 _ rfl
    have g1 : DataW.trod enc Tryd.prog w base spare held n 63 (([v0, v1, v2, v3].drop 1).take (Tryd.prog.cellsOf 63)) = some y1 := hf 1 _ rfl
    have g2 : DataW.trod enc Tryd.prog w base spare held n 63 (([v0, v1, v2, v3].drop 2).take (Tryd.prog.cellsOf 63)) = some y2 := hf 2 _ rfl
    have g3 : DataW.trod enc Tryd.prog w base spare held n 63 (([v0, v1, v2, v3].drop 3).take (Tryd.prog.cellsOf 63)) = some y3 := hf 3 _ rfl
    rw [hc5] at g0
    rw [hc25] at g1 g2 g3
    obtain ⟨n0, e0, x0, _⟩ := DataW.trod_int Tryd.underlying5 g0
    obtain ⟨n1, e1, x1, _⟩ := DataW.trod_int Tryd.underlying63 g1
    obtain ⟨n2, e2, x2, _⟩ := DataW.trod_int Tryd.underlying63 g2
    obtain ⟨n3, e3, x3, _⟩ := DataW.trod_int Tryd.underlying63 g3
    subst x0 x1 x2 x3
    have e0' : v0 = .int .u8 n0 := (List.cons.inj e0).1
    have e1' : v1 = .int .u32 n1 := (List.cons.inj e1).1
    have e2' : v2 = .int .u32 n2 := (List.cons.inj e2).1
    have e3' : v3 = .int .u32 n3 := (List.cons.inj e3).1
    subst e0' e1' e2' e3'
    simp only [List.map_cons, List.map_nil, Prod.mk.injEq, DataW.agg.injEq, List.cons.injEq, DataW.lit.injEq, Lit.int.injEq, true_and, and_true] at hx
    obtain ⟨⟨rfl, rfl, rfl, rfl⟩, _⟩ := hx
    rfl
end
def sortD {H : Type} (k : Nat) : DataW H := .agg [.lit (.int .u8 (formL.getD k 0 : Nat)), .lit (.int .u32 (opL.getD k 0 : Nat)), .lit (.int .u32 (f3L.getD k 0 : Nat)), .lit (.int .u32 (f7L.getD k 0 : Nat))]
theorem datum {H : Type} : Rows.laid_marline_enc_sorts = (.agg ((List.range 32).map sortD) : DataW H) := rfl
theorem gSorts : Tryd.prog.globalNamed "marline/enc.sorts" = some 0 := by kernel_rfl
theorem gSortsType : (Tryd.prog.globals[0]?).map (·.type) = some 141 := by kernel_rfl
theorem tab_of {W : World} (h : laidMet Tryd.prog [("marline/enc.sorts", Rows.laid_marline_enc_sorts)] W) : Tab W := by
  obtain ⟨ps, ⟨g', t', cs, fuel, p, q, hg', ht', hvar, hd, _, _⟩, _⟩ := h
  obtain rfl := Option.some.inj (gSorts.symm.trans hg')
  obtain rfl := Option.some.inj (gSortsType.symm.trans ht')
  rw [datum] at hd
  obtain ⟨xs, m, _, hx, hlen, hxl, hf⟩ := DataW.trod_array Tryd.underlying141 hd
  rw [Tryd.cells141] at hlen
  simp only [Prod.mk.injEq, DataW.agg.injEq] at hx
  intro k hk
  have hk' := hf k hk
  rw [Tryd.cells140] at hk'
  have hxk : xs[k]? = some (xs[k]'(by omega)) := List.getElem?_eq_getElem (by omega)
  have hfst : (xs[k]'(by omega)).1 = sortD k := by
    have h1 : ((List.range 32).map sortD)[k]? = (xs.map (·.1))[k]? := by rw [hx.1]
    rw [List.getElem?_map, List.getElem?_map, hxk, List.getElem?_range hk] at h1
    exact (Option.some.inj h1).symm
  rw [hxk] at hk'
  have hrow := sort_row (pp := (xs[k]'(by omega)).2) (f := (formL.getD k 0 : Nat)) (o := (opL.getD k 0 : Nat)) (a := (f3L.getD k 0 : Nat)) (b := (f7L.getD k 0 : Nat)) (hk'.trans (congrArg some (Prod.ext hfst rfl)))
  have hcell : ∀ j u, j < 4 → ([.int .u8 (formL.getD k 0 : Nat), .int .u32 (opL.getD k 0 : Nat), .int .u32 (f3L.getD k 0 : Nat), .int .u32 (f7L.getD k 0 : Nat)] : List Value)[j]? = some u → W.cell? ⟨0, k * 4 + j, none⟩ = some u := by
    intro j u hj hu
    rw [← hrow, List.getElem?_take_of_lt hj, List.getElem?_drop] at hu
    rw [World.var?_cell gSorts hvar, ← hu]
    simp
  exact ⟨hcell 0 _ (by omega) rfl, hcell 1 _ (by omega) rfl, hcell 2 _ (by omega) rfl, hcell 3 _ (by omega) rfl⟩

/-! ### Arguments -/
structure OpD where
  kind : Int
  rd : Int
  a : Int
  b : Int
  imm : Int
def OpD.cells (o : OpD) : List Value := [.int .i64 o.kind, .int .i64 o.rd, .int .i64 o.a, .int .i64 o.b, .int .i64 o.imm]
theorem Tryd.cells23 : Tryd.prog.cellsOf 23 = 5 := by kernel_rfl
theorem opens_op {w : World} : Opens Tryd.prog w 23 OpD.cells (fun _ => True) := by
  intro H enc fuel cs y h hw
  obtain ⟨n, hl, hf⟩ := open_one Tryd.underlying23 (by kernel_rfl) Tryd.cells23 h hw
  match cs, hl with
  | [c0, c1, c2, c3, c4], _ =>
    obtain ⟨v0, y0, e0, t0, w0⟩ := hf 0 _ rfl
    obtain ⟨v1, y1, e1, t1, w1⟩ := hf 1 _ rfl
    obtain ⟨v2, y2, e2, t2, w2⟩ := hf 2 _ rfl
    obtain ⟨v3, y3, e3, t3, w3⟩ := hf 3 _ rfl
    obtain ⟨v4, y4, e4, t4, w4⟩ := hf 4 _ rfl
    obtain ⟨x0, h0, _⟩ := opens_int Tryd.underlying3 enc _ _ _ t0 w0
    obtain ⟨x1, h1, _⟩ := opens_int Tryd.underlying3 enc _ _ _ t1 w1
    obtain ⟨x2, h2, _⟩ := opens_int Tryd.underlying3 enc _ _ _ t2 w2
    obtain ⟨x3, h3, _⟩ := opens_int Tryd.underlying3 enc _ _ _ t3 w3
    obtain ⟨x4, h4, _⟩ := opens_int Tryd.underlying2 enc _ _ _ t4 w4
    simp only [List.getElem?_cons_zero, List.getElem?_cons_succ, Option.some.injEq, List.cons.injEq, and_true] at e0 e1 e2 e3 e4 h0 h1 h2 h3 h4
    subst e0 e1 e2 e3 e4 h0 h1 h2 h3 h4
    exact ⟨⟨x0, x1, x2, x3, x4⟩, rfl, trivial⟩
theorem u32_bd {v : Int} (h : (Lit.int .u32 v).wf = true) : 0 ≤ v ∧ v < 4294967296 := by have := bounds_u32 h; omega
end Go.Proofs.YtajhehmkdlebbaaDoor
