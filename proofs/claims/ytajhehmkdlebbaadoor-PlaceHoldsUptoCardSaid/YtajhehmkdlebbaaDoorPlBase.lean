/- The place seat's words: codes, globals, symbols as Lean data; how they are opened; what place.Low, place.High, the laws' shown and few come to. -/
import Derived.Test.YtajhehmkdlebbaaDoorLib
import Derived.Test.YtajhehmkdlebbaaDoorTab
namespace Go.Proofs.YtajhehmkdlebbaaDoor.Pl
open Go.ChangeShapes Go.WideShapes Go.ChangeAt Go.RowKit Go.Deep
def OpD.ok (o : OpD) : Prop := (Lit.int .i64 o.kind).wf = true ∧ (Lit.int .i64 o.rd).wf = true ∧ (Lit.int .i64 o.a).wf = true ∧ (Lit.int .i64 o.b).wf = true ∧ (Lit.int .i64 o.imm).wf = true
structure RelD where
  at_ : Int
  kind : Int
  name : ByteArray
def RelD.cells (o : RelD) : List Value := [.int .i64 o.at_, .int .i64 o.kind, .string o.name]
def RelD.ok (o : RelD) : Prop := (Lit.int .i64 o.at_).wf = true ∧ (Lit.int .i64 o.kind).wf = true ∧ o.name.size ≤ 140737488351232
structure CodeD where
  name : ByteArray
  ops : Sl OpD
  rels : Sl RelD
def CodeD.cells (c : CodeD) : List Value := [.string c.name, c.ops.v, c.rels.v]
def CodeD.In (w : World) (B : Nat) (c : CodeD) : Prop :=
  c.name.size ≤ 140737488351232 ∧ c.ops.Good w B 5 40 OpD.cells OpD.ok ∧ c.rels.Good w B 3 32 RelD.cells RelD.ok
structure GlobD where
  name : ByteArray
  bind : Int
  here : Bool
  init : Int
def GlobD.cells (g : GlobD) : List Value := [.string g.name, .int .i64 g.bind, .bool g.here, .int .u64 g.init]
def GlobD.ok (g : GlobD) : Prop := g.name.size ≤ 140737488351232 ∧ (Lit.int .i64 g.bind).wf = true ∧ (Lit.int .u64 g.init).wf = true
structure SymD where
  name : ByteArray
  at_ : Int
  fn : Bool
def SymD.cells (s : SymD) : List Value := [.string s.name, .int .u64 s.at_, .bool s.fn]
def SymD.ok (s : SymD) : Prop := s.name.size ≤ 140737488351232 ∧ (Lit.int .u64 s.at_).wf = true

theorem pcells23 : Tryd.prog.cellsOf 23 = 5 := by kernel_rfl
theorem pcells134 : Tryd.prog.cellsOf 134 = 3 := by kernel_rfl
theorem pcells91 : Tryd.prog.cellsOf 91 = 3 := by kernel_rfl
theorem pcells67 : Tryd.prog.cellsOf 67 = 4 := by kernel_rfl
theorem pcells65 : Tryd.prog.cellsOf 65 = 3 := by kernel_rfl
section
variable {w : World}
theorem opens_op : Opens Tryd.prog w 23 OpD.cells OpD.ok := by
  intro H enc fuel cs y h hw
  obtain ⟨n, hl, hf⟩ := open_one Tryd.underlying23 (by kernel_rfl) pcells23 h hw
  match cs, hl with
  | [c0, c1, c2, c3, c4], _ =>
    obtain ⟨v0, y0, e0, t0, w0⟩ := hf 0 _ rfl
    obtain ⟨v1, y1, e1, t1, w1⟩ := hf 1 _ rfl
    obtain ⟨v2, y2, e2, t2, w2⟩ := hf 2 _ rfl
    obtain ⟨v3, y3, e3, t3, w3⟩ := hf 3 _ rfl
    obtain ⟨v4, y4, e4, t4, w4⟩ := hf 4 _ rfl
    obtain ⟨x0, h0, g0⟩ := opens_int Tryd.underlying3 enc _ _ _ t0 w0
    obtain ⟨x1, h1, g1⟩ := opens_int Tryd.underlying3 enc _ _ _ t1 w1
    obtain ⟨x2, h2, g2⟩ := opens_int Tryd.underlying3 enc _ _ _ t2 w2
    obtain ⟨x3, h3, g3⟩ := opens_int Tryd.underlying3 enc _ _ _ t3 w3
    obtain ⟨x4, h4, g4⟩ := opens_int Tryd.underlying2 enc _ _ _ t4 w4
    simp only [List.getElem?_cons_zero, List.getElem?_cons_succ, Option.some.injEq, List.cons.injEq, and_true] at e0 e1 e2 e3 e4 h0 h1 h2 h3 h4
    subst e0 e1 e2 e3 e4 h0 h1 h2 h3 h4
    exact ⟨⟨x0, x1, x2, x3, x4⟩, rfl, g0, g1, g2, g3, g4⟩
theorem opens_rel : Opens Tryd.prog w 134 RelD.cells RelD.ok := by
  intro H enc fuel cs y h hw
  obtain ⟨n, hl, hf⟩ := open_one Tryd.underlying134 (by kernel_rfl) pcells134 h hw
  match cs, hl with
  | [c0, c1, c2], _ =>
    obtain ⟨v0, y0, e0, t0, w0⟩ := hf 0 _ rfl
    obtain ⟨v1, y1, e1, t1, w1⟩ := hf 1 _ rfl
    obtain ⟨v2, y2, e2, t2, w2⟩ := hf 2 _ rfl
    obtain ⟨x0, h0, g0⟩ := opens_int Tryd.underlying3 enc _ _ _ t0 w0
    obtain ⟨x1, h1, g1⟩ := opens_int Tryd.underlying3 enc _ _ _ t1 w1
    obtain ⟨x2, h2, g2⟩ := opens_string Tryd.underlying9 enc _ _ _ t2 w2
    simp only [List.getElem?_cons_zero, List.getElem?_cons_succ, Option.some.injEq, List.cons.injEq, and_true] at e0 e1 e2 h0 h1 h2
    subst e0 e1 e2 h0 h1 h2
    exact ⟨⟨x0, x1, x2⟩, rfl, g0, g1, g2⟩
theorem opens_glob : Opens Tryd.prog w 67 GlobD.cells GlobD.ok := by
  intro H enc fuel cs y h hw
  obtain ⟨n, hl, hf⟩ := open_one Tryd.underlying67 (by kernel_rfl) pcells67 h hw
  match cs, hl with
  | [c0, c1, c2, c3], _ =>
    obtain ⟨v0, y0, e0, t0, w0⟩ := hf 0 _ rfl
    obtain ⟨v1, y1, e1, t1, w1⟩ := hf 1 _ rfl
    obtain ⟨v2, y2, e2, t2, w2⟩ := hf 2 _ rfl
    obtain ⟨v3, y3, e3, t3, w3⟩ := hf 3 _ rfl
    obtain ⟨x0, h0, g0⟩ := opens_string Tryd.underlying9 enc _ _ _ t0 w0
    obtain ⟨x1, h1, g1⟩ := opens_int Tryd.underlying3 enc _ _ _ t1 w1
    obtain ⟨x2, h2, _⟩ := opens_bool Tryd.underlying4 enc _ _ _ t2 w2
    obtain ⟨x3, h3, g3⟩ := opens_int Tryd.underlying24 enc _ _ _ t3 w3
    simp only [List.getElem?_cons_zero, List.getElem?_cons_succ, Option.some.injEq, List.cons.injEq, and_true] at e0 e1 e2 e3 h0 h1 h2 h3
    subst e0 e1 e2 e3 h0 h1 h2 h3
    exact ⟨⟨x0, x1, x2, x3⟩, rfl, g0, g1, g3⟩
theorem opens_sym : Opens Tryd.prog w 65 SymD.cells SymD.ok := by
  intro H enc fuel cs y h hw
  obtain ⟨n, hl, hf⟩ := open_one Tryd.underlying65 (by kernel_rfl) pcells65 h hw
  match cs, hl with
  | [c0, c1, c2], _ =>
    obtain ⟨v0, y0, e0, t0, w0⟩ := hf 0 _ rfl
    obtain ⟨v1, y1, e1, t1, w1⟩ := hf 1 _ rfl
    obtain ⟨v2, y2, e2, t2, w2⟩ := hf 2 _ rfl
    obtain ⟨x0, h0, g0⟩ := opens_string Tryd.underlying9 enc _ _ _ t0 w0
    obtain ⟨x1, h1, g1⟩ := opens_int Tryd.underlying24 enc _ _ _ t1 w1
    obtain ⟨x2, h2, _⟩ := opens_bool Tryd.underlying4 enc _ _ _ t2 w2
    simp only [List.getElem?_cons_zero, List.getElem?_cons_succ, Option.some.injEq, List.cons.injEq, and_true] at e0 e1 e2 h0 h1 h2
    subst e0 e1 e2 h0 h1 h2
    exact ⟨⟨x0, x1, x2⟩, rfl, g0, g1⟩
theorem opens_ops : Opens Tryd.prog w 71 (fun s : Sl OpD => [s.v]) (Sl.Good w w.heap.size 5 40 OpD.cells OpD.ok) := opens_slice (P := Tryd.prog) (w := w) Tryd.underlying71 pcells23 (bytes := 40) (by kernel_rfl) (by omega) (fun _ => rfl) opens_op
theorem opens_rels : Opens Tryd.prog w 89 (fun s : Sl RelD => [s.v]) (Sl.Good w w.heap.size 3 32 RelD.cells RelD.ok) := opens_slice (P := Tryd.prog) (w := w) Tryd.underlying89 pcells134 (bytes := 32) (by kernel_rfl) (by omega) (fun _ => rfl) opens_rel
theorem opens_code : Opens Tryd.prog w 91 CodeD.cells (CodeD.In w w.heap.size) := by
  intro H enc fuel cs y h hw
  obtain ⟨n, hl, hf⟩ := open_one Tryd.underlying91 (by kernel_rfl) pcells91 h hw
  match cs, hl with
  | [c0, c1, c2], _ =>
    obtain ⟨v0, y0, e0, t0, w0⟩ := hf 0 _ rfl
    obtain ⟨v1, y1, e1, t1, w1⟩ := hf 1 _ rfl
    obtain ⟨v2, y2, e2, t2, w2⟩ := hf 2 _ rfl
    obtain ⟨x0, h0, g0⟩ := opens_string Tryd.underlying9 enc _ _ _ t0 w0
    obtain ⟨x1, h1, g1⟩ := opens_ops enc _ _ _ t1 w1
    obtain ⟨x2, h2, g2⟩ := opens_rels enc _ _ _ t2 w2
    simp only [List.getElem?_cons_zero, List.getElem?_cons_succ, Option.some.injEq, List.cons.injEq, and_true] at e0 e1 e2 h0 h1 h2
    subst e0 e1 e2 h0 h1 h2
    exact ⟨⟨x0, x1, x2⟩, rfl, g0, g1, g2⟩
theorem opens_codes : Opens Tryd.prog w 44 (fun s : Sl CodeD => [s.v]) (Sl.Good w w.heap.size 3 64 CodeD.cells (CodeD.In w w.heap.size)) := opens_slice (P := Tryd.prog) (w := w) Tryd.underlying44 pcells91 (bytes := 64) (by kernel_rfl) (by omega) (fun _ => rfl) opens_code
theorem opens_globs : Opens Tryd.prog w 45 (fun s : Sl GlobD => [s.v]) (Sl.Good w w.heap.size 4 40 GlobD.cells GlobD.ok) := opens_slice (P := Tryd.prog) (w := w) Tryd.underlying45 pcells67 (bytes := 40) (by kernel_rfl) (by omega) (fun _ => rfl) opens_glob
theorem opens_syms : Opens Tryd.prog w 56 (fun s : Sl SymD => [s.v]) (Sl.Good w w.heap.size 3 32 SymD.cells SymD.ok) := opens_slice (P := Tryd.prog) (w := w) Tryd.underlying56 pcells65 (bytes := 32) (by kernel_rfl) (by omega) (fun _ => rfl) opens_sym
end

/-- some codes, as they lie in memory -/
def Codes (w : World) (B : Nat) (A : Option Addr) (cap : Nat) (L : List CodeD) : Prop :=
  (⟨A, cap, L⟩ : Sl CodeD).In w B 3 CodeD.cells ∧ cap * 64 ≤ 140737488351232 ∧ ∀ c ∈ L, c.In w B
def Globs (w : World) (B : Nat) (A : Option Addr) (cap : Nat) (L : List GlobD) : Prop :=
  (⟨A, cap, L⟩ : Sl GlobD).In w B 4 GlobD.cells ∧ cap * 40 ≤ 140737488351232 ∧ ∀ c ∈ L, c.ok
def Syms (w : World) (B : Nat) (A : Option Addr) (cap : Nat) (L : List SymD) : Prop :=
  (⟨A, cap, L⟩ : Sl SymD).In w B 3 SymD.cells ∧ cap * 32 ≤ 140737488351232 ∧ ∀ c ∈ L, c.ok
theorem CodeD.In.below {w w' : World} {B : Nat} {c : CodeD} (h : c.In w B) (hb : Below B w w') : c.In w' B :=
  ⟨h.1, ⟨h.2.1.1.below hb, h.2.1.2⟩, ⟨h.2.2.1.below hb, h.2.2.2⟩⟩
theorem Codes.below {w w' : World} {B cap : Nat} {A : Option Addr} {L : List CodeD} (h : Codes w B A cap L) (hb : Below B w w') : Codes w' B A cap L :=
  ⟨h.1.below hb, h.2.1, fun c hc => (h.2.2 c hc).below hb⟩
theorem Globs.below {w w' : World} {B cap : Nat} {A : Option Addr} {L : List GlobD} (h : Globs w B A cap L) (hb : Below B w w') : Globs w' B A cap L :=
  ⟨h.1.below hb, h.2⟩
theorem Syms.below {w w' : World} {B cap : Nat} {A : Option Addr} {L : List SymD} (h : Syms w B A cap L) (hb : Below B w w') : Syms w' B A cap L :=
  ⟨h.1.below hb, h.2⟩
section
variable {w : World} {B cap : Nat} {A : Option Addr}
theorem Codes.len {L : List CodeD} (h : Codes w B A cap L) : L.length ≤ cap ∧ cap ≤ 2199023255488 := ⟨h.1.1, by have := h.2.1; omega⟩
theorem Globs.len {L : List GlobD} (h : Globs w B A cap L) : L.length ≤ cap ∧ cap ≤ 3518437208784 := ⟨h.1.1, by have := h.2.1; omega⟩
theorem Syms.len {L : List SymD} (h : Syms w B A cap L) : L.length ≤ cap ∧ cap ≤ 4398046510976 := ⟨h.1.1, by have := h.2.1; omega⟩
/-- code k's cells -/
theorem Codes.at_ {L : List CodeD} (h : Codes w B A cap L) {k : Nat} (hk : k < L.length) : ∃ b off, A = some ⟨b, off, none⟩ ∧ b < B ∧
    w.cell? ⟨b, off + k * 3, none⟩ = some (.string L[k].name) ∧
    w.cell? ⟨b, off + k * 3 + 1, none⟩ = some (.slice L[k].ops.a L[k].ops.l.length L[k].ops.cap) ∧
    w.cell? ⟨b, off + k * 3 + 2, none⟩ = some (.slice L[k].rels.a L[k].rels.l.length L[k].rels.cap) := by
  obtain ⟨b, off, h1, h2, h3⟩ := h.1.at_ hk
  exact ⟨b, off, h1, h2, h3 0 _ rfl, h3 1 _ rfl, h3 2 _ rfl⟩
theorem Codes.ops_len {L : List CodeD} (h : Codes w B A cap L) {k : Nat} (hk : k < L.length) : L[k].ops.l.length ≤ 3518437208784 := by
  have hc := (h.2.2 L[k] (List.getElem_mem hk)).2.1
  have h1 := hc.1.1
  have h2 := hc.2.1
  omega
theorem Globs.at_ {L : List GlobD} (h : Globs w B A cap L) {k : Nat} (hk : k < L.length) : ∃ b off, A = some ⟨b, off, none⟩ ∧ b < B ∧
    w.cell? ⟨b, off + k * 4, none⟩ = some (.string L[k].name) ∧
    w.cell? ⟨b, off + k * 4 + 1, none⟩ = some (.int .i64 L[k].bind) ∧
    w.cell? ⟨b, off + k * 4 + 2, none⟩ = some (.bool L[k].here) ∧
    w.cell? ⟨b, off + k * 4 + 3, none⟩ = some (.int .u64 L[k].init) := by
  obtain ⟨b, off, h1, h2, h3⟩ := h.1.at_ hk
  exact ⟨b, off, h1, h2, h3 0 _ rfl, h3 1 _ rfl, h3 2 _ rfl, h3 3 _ rfl⟩
theorem Syms.at_ {L : List SymD} (h : Syms w B A cap L) {k : Nat} (hk : k < L.length) : ∃ b off, A = some ⟨b, off, none⟩ ∧ b < B ∧
    w.cell? ⟨b, off + k * 3, none⟩ = some (.string L[k].name) ∧
    w.cell? ⟨b, off + k * 3 + 1, none⟩ = some (.int .u64 L[k].at_) ∧
    w.cell? ⟨b, off + k * 3 + 2, none⟩ = some (.bool L[k].fn) := by
  obtain ⟨b, off, h1, h2, h3⟩ := h.1.at_ hk
  exact ⟨b, off, h1, h2, h3 0 _ rfl, h3 1 _ rfl, h3 2 _ rfl⟩
end

/-! ### Low, High, shown -/
def lowI (v : Int) : Int := if v % 4096 < 2048 then v % 4096 else v % 4096 - 4096
def highI (v : Int) : Int := wrap64 (v - lowI v)
theorem low_any (v : Int) (w : World) :
    Calls Tryd.prog 48 #[.int .u64 v] w fun e w' => e = .returned (.int .i64 (lowI v)) ∧ w = w' := by
  have e : wrap64 (IntKind.u64.wrap (v * 4503599627370496)) / 4503599627370496 = lowI v := by
    simp only [IntKind.wrap_u64, wrap64, lowI]; omega
  go_enter Tryd.func48, Tryd.ntmps48
  go_wp2
  go_ret
  exact ⟨rfl, rfl⟩
theorem lowI_bd (v : Int) : -2048 ≤ lowI v ∧ lowI v ≤ 2047 := by unfold lowI; omega
theorem high_any (v : Int) (w : World) :
    Calls Tryd.prog 49 #[.int .u64 v] w fun e w' => e = .returned (.int .i64 (highI v)) ∧ w = w' := by
  have e : wrap64 (IntKind.u64.wrap (v - IntKind.u64.wrap (lowI v))) = highI v := by
    have := lowI_bd v
    simp only [IntKind.wrap_u64, wrap64, highI]; omega
  go_enter Tryd.func49, Tryd.ntmps49
  go_wp2_with (go_at_call 48; refine (low_any _ _).mono ?_; rintro e w' ⟨rfl, rfl⟩)
  go_ret
  exact ⟨ret_int e, rfl⟩
theorem shown_any (w : World) :
    Calls Tryd.prog 26 #[] w fun e w' => e = .returned (.bool true) ∧ w = w' := by
  have e1 : lowI 6144 = -2048 := by simp only [lowI]; omega
  have e2 : highI 6144 = 8192 := by simp only [highI, lowI, wrap64]; omega
  go_enter Tryd.func26, Tryd.ntmps26
  go_wp2_with (first | (go_at_call 48; refine (low_any _ _).mono ?_; rintro e w' ⟨rfl, rfl⟩) | (go_at_call 49; refine (high_any _ _).mono ?_; rintro e w' ⟨rfl, rfl⟩))
  go_ret
  exact ⟨rfl, rfl⟩

/-! ### few -/
def sumOps : List CodeD → Nat
  | [] => 0
  | c :: r => c.ops.l.length + sumOps r
theorem sumOps_append (l r : List CodeD) : sumOps (l ++ r) = sumOps l + sumOps r := by
  induction l with
  | nil => simp [sumOps]
  | cons c l ih => simp only [List.cons_append, sumOps, ih]; omega
theorem take_succ {α : Type} {l : List α} {k : Nat} (hk : k < l.length) : l.take (k + 1) = l.take k ++ [l[k]] := by
  rw [List.take_succ_eq_append_getElem hk]
theorem sumOps_take {L : List CodeD} {k : Nat} (hk : k < L.length) : sumOps (L.take (k + 1)) = sumOps (L.take k) + L[k].ops.l.length := by
  rw [take_succ hk, sumOps_append]; simp [sumOps]
theorem sumOps_le {w : World} {B cap : Nat} {A : Option Addr} {L : List CodeD} (h : Codes w B A cap L) (k : Nat) (hk : k ≤ L.length) : sumOps (L.take k) ≤ k * 3518437208784 := by
  induction k with
  | zero => simp [sumOps]
  | succ k ih =>
    rw [sumOps_take (by omega)]
    have := ih (by omega)
    have := h.ops_len (k := k) (by omega)
    omega
def fewB (L : List CodeD) (m : Nat) : Bool := decide (wrap64 (sumOps L) ≤ 5000) && (decide (L.length ≤ 40) && decide (m ≤ 3000))
theorem wrap_add (a b : Int) : wrap64 (wrap64 a + b) = wrap64 (a + b) := by unfold wrap64; omega
theorem fewB_true {w : World} {B cap : Nat} {A : Option Addr} {L : List CodeD} {m : Nat} (h : Codes w B A cap L) (hf : fewB L m = true) : sumOps L ≤ 5000 ∧ L.length ≤ 40 ∧ m ≤ 3000 := by
  simp only [fewB, Bool.and_eq_true, decide_eq_true_eq] at hf
  have h1 := sumOps_le h L.length (Nat.le_refl _)
  rw [List.take_length] at h1
  obtain ⟨h2, h3, h4⟩ := hf
  refine ⟨?_, h3, h4⟩
  have : sumOps L < 9223372036854775808 := by
    have : L.length * 3518437208784 ≤ 40 * 3518437208784 := Nat.mul_le_mul_right _ h3
    omega
  unfold wrap64 at h2
  omega
set_option maxHeartbeats 400000 in
theorem few_any {B : Nat} {A G : Option Addr} {cap gn gc : Nat} {L : List CodeD} {w : World} (hL : Codes w B A cap L) (hg : gn ≤ 3518437208784) :
    Calls Tryd.prog 27 #[.slice A L.length cap, .slice G gn gc] w fun e w' => e = .returned (.bool (fewB L gn)) ∧ w = w' := by
  have hlen := hL.len
  go_enter Tryd.func27, Tryd.ntmps27
  go_wp2
  go_loop [5, 6] (fun s i => ∃ k : Nat, k ≤ L.length ∧ i = .int .i64 k ∧ s = .int .i64 (wrap64 (sumOps (L.take k)))) (fun _ i => L.length - (intOf i).toNat)
  case atStart => exact ⟨0, Nat.zero_le _, rfl, by simp [sumOps, wrap64]⟩
  case round =>
    obtain ⟨k, hk, rfl, rfl⟩ := hrel
    by_cases hlt : k < L.length
    · obtain ⟨b, off, rfl, hb, c0, c1, c2⟩ := hL.at_ hlt
      have hsum := Lib.hid (sumOps_take hlt)
      clear c0 c2
      go_wp2
      go_round
      case rel => exact ⟨k + 1, hlt, by go_num, by rw [hsum.out, wrap_add]; go_num⟩
      case measure => simp [intOf]; omega
    · obtain rfl : k = L.length := by omega
      rw [List.take_length]
      by_cases h1 : wrap64 (sumOps L) ≤ 5000
      · by_cases h2 : L.length ≤ 40
        · go_wp2
          go_ret
          exact ⟨ret_bool (by simp only [fewB, h1, h2, decide_true, Bool.true_and]; exact decide_eq_decide.2 (by omega)), rfl⟩
        · go_wp2
          go_ret
          exact ⟨ret_bool (by simp [fewB, h2]), rfl⟩
      · have h1 := Int.not_le.1 h1
        go_wp2
        go_ret
        exact ⟨ret_bool (by simp only [fewB, decide_eq_false (Int.not_le.2 h1), Bool.false_and]), rfl⟩
end Go.Proofs.YtajhehmkdlebbaaDoor.Pl
