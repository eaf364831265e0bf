/- What every proof of this seat leans on, no program in sight: slices as lists of Lean data, how arguments are opened to them, how a law's walk becomes its row. -/
import Derived.Test.YtajhehmkdlebbaaDoorRows
import Derived.WalkKit
import Derived.ProofKit
import Derived.OpenShut
import Derived.Deep.Slices
import Derived.Deep.Fields
import Derived.Deep.Draws
import Derived.Deep.DeepHandedRow
import Derived.Lib.Hide
import Derived.ShutString
import Derived.SizedLaws
namespace Go.Proofs.YtajhehmkdlebbaaDoor
open Go.ChangeShapes Go.WideShapes Go.ChangeAt Go.RowKit Go.Deep

theorem ret_int {k : IntKind} {a b : Int} (h : a = b) : Ending.returned (.int k a) = .returned (.int k b) := by rw [h]
theorem ret_bool {a b : Bool} (h : a = b) : Ending.returned (.bool a) = .returned (.bool b) := by rw [h]
theorem ret_val {a b : Value} (h : a = b) : Ending.returned a = .returned b := by rw [h]
theorem i64_bd {v : Int} (h : (Lit.int .i64 v).wf = true) : -9223372036854775808 ≤ v ∧ v ≤ 9223372036854775807 := bounds_i64 h
theorem u64_bd {v : Int} (h : (Lit.int .u64 v).wf = true) : 0 ≤ v ∧ v ≤ 18446744073709551615 := bounds_u64 h

/-- the rules for old cells behind a callee that makes memory -/
theorem bcell {B : Nat} {W w1 : World} (hb : Below B W w1) : (∀ b o, b < B → w1.cell? ⟨b, o, none⟩ = W.cell? ⟨b, o, none⟩) ∧ (∀ b o, b < B → w1.frozen? ⟨b, o, none⟩ = W.frozen? ⟨b, o, none⟩) :=
  ⟨fun b o h => hb.cell (p := ⟨b, o, none⟩) h, fun b o h => hb.frozen (p := ⟨b, o, none⟩) h⟩
theorem below_drewN {B : Nat} {a w : World} (h : Below B a w) (n : Nat) : Below B a (w.drewN n) := ⟨h.os, h.tape, h.output, h.size, h.block⟩

/-! ### Slices as lists -/
/-- a slice value, and what it holds -/
structure Sl (α : Type) where
  a : Option Addr
  cap : Nat
  l : List α
def Sl.v {α : Type} (s : Sl α) : Value := .slice s.a s.l.length s.cap
/-- where its elements lie: each of 'size' cells, below block B -/
def Sl.In {α : Type} (w : World) (B size : Nat) (cells : α → List Value) (s : Sl α) : Prop :=
  s.l.length ≤ s.cap ∧ ∀ k x, s.l[k]? = some x → ∃ b off, s.a = some ⟨b, off, none⟩ ∧ b < B ∧ ∀ j u, (cells x)[j]? = some u → w.cell? ⟨b, off + k * size + j, none⟩ = some u
/-- .. its capacity within the form's reach, its elements good -/
def Sl.Good {α : Type} (w : World) (B size bytes : Nat) (cells : α → List Value) (good : α → Prop) (s : Sl α) : Prop :=
  s.In w B size cells ∧ s.cap * bytes ≤ 140737488351232 ∧ s.cap ≤ 9223372036854775807 ∧ ∀ x ∈ s.l, good x
section
variable {α : Type} {w w' : World} {B B' size : Nat} {cells : α → List Value} {s : Sl α}
theorem Sl.In.below (h : s.In w B size cells) (hb : Below B w w') : s.In w' B size cells := by
  refine ⟨h.1, fun k x hk => ?_⟩
  obtain ⟨b, off, h1, h2, h3⟩ := h.2 k x hk
  exact ⟨b, off, h1, h2, fun j u hu => (hb.cell (p := ⟨b, _, none⟩) h2).trans (h3 j u hu)⟩
theorem Sl.In.more (h : s.In w B size cells) (hB : B ≤ B') : s.In w B' size cells := by
  refine ⟨h.1, fun k x hk => ?_⟩
  obtain ⟨b, off, h1, h2, h3⟩ := h.2 k x hk
  exact ⟨b, off, h1, by omega, h3⟩
theorem Sl.In.at_ (h : s.In w B size cells) {k : Nat} (hk : k < s.l.length) : ∃ b off, s.a = some ⟨b, off, none⟩ ∧ b < B ∧ ∀ j u, (cells s.l[k])[j]? = some u → w.cell? ⟨b, off + k * size + j, none⟩ = some u :=
  h.2 k _ (List.getElem?_eq_getElem hk)
end
theorem flat_at {α : Type} {size : Nat} {cells : α → List Value} (hc : ∀ x, (cells x).length = size) : ∀ {l : List α} {k : Nat} {x : α}, l[k]? = some x → ∀ {j : Nat} {u : Value}, (cells x)[j]? = some u → (l.flatMap cells)[k * size + j]? = some u
  | [], k, x, h, _, _, _ => by simp at h
  | y :: l, 0, x, h, j, u, hu => by
    simp only [List.getElem?_cons_zero, Option.some.injEq] at h
    subst h
    have hj := (List.getElem?_eq_some_iff.1 hu).1
    rw [List.flatMap_cons, Nat.zero_mul, Nat.zero_add, List.getElem?_append_left hj]
    exact hu
  | y :: l, k + 1, x, h, j, u, hu => by
    simp only [List.getElem?_cons_succ] at h
    have := flat_at hc h hu
    rw [List.flatMap_cons, List.getElem?_append_right (by rw [hc y, Nat.succ_mul]; omega), hc y]
    rw [show (k + 1) * size + j - size = k * size + j by rw [Nat.succ_mul]; omega]
    exact this
/-- a row of the call's own reads as its list -/
theorem Sl.of_own {α : Type} {w : World} {base : Nat} {e : TypeId} {size n : Nat} {v : Value} {cells : α → List Value} {l : List α} (hc : ∀ x, (cells x).length = size) (h : w.ownsRow base e size v n (l.flatMap cells)) (hl : l.length = n) :
    ∃ S cap, v = .slice S n cap ∧ Sl.In w w.heap.size size cells ⟨S, cap, l⟩ := by
  have h0 := h
  obtain ⟨_, ⟨rfl, rfl⟩ | ⟨g, cap, cur, rfl, hg, hh, hn, hm, hs, ht⟩⟩ := h
  · obtain rfl := List.eq_nil_of_length_eq_zero hl
    exact ⟨none, 0, rfl, by simp, fun k x hk => by simp at hk⟩
  · refine ⟨some ⟨g, 0, none⟩, cap, rfl, by simp only; omega, fun k x hk => ⟨g, 0, rfl, (Array.getElem?_eq_some_iff.1 hh).1, fun j u hu => ?_⟩⟩
    have := h0.cells (g := g) rfl (k * size + j) u (flat_at hc hk hu)
    have e2 : (⟨g, 0, none⟩ : Addr).add (k * size + j) = ⟨g, 0 + k * size + j, none⟩ := by
      unfold Addr.add
      split
      · rw [show 0 + k * size + j = 0 by omega]
      · rw [show 0 + k * size + j = 0 + (k * size + j) by omega]
    rw [← e2]
    exact this

/-! ### Arguments opened -/
/-- type t's readings are 'cells x' of a good x -/
def Opens {α : Type} (P : Program) (w : World) (t : TypeId) (cells : α → List Value) (good : α → Prop) : Prop :=
  ∀ {H : Type} (enc : TypeId × Value → H) (fuel : Nat) (cs : List Value) (y : DataW H × List MemPlace),
    DataW.trod enc P w 0 (fun _ => true) true fuel t cs = some y → (∀ n ∈ y.1.weights P t, n ≤ reachBytes) → ∃ x, cs = cells x ∧ good x
section
variable {P : Program} {w : World} {t e : TypeId}
theorem opens_int {k : IntKind} (ht : P.underlying t = some (.int k)) : Opens P w t (fun n : Int => [.int k n]) (fun n => (Lit.int k n).wf = true) := by
  intro H enc fuel cs y h _
  obtain ⟨n, h1, _, h2⟩ := DataW.trod_int ht h
  exact ⟨n, h1, h2⟩
theorem opens_bool (ht : P.underlying t = some .bool) : Opens P w t (fun b : Bool => [.bool b]) (fun _ => True) := by
  intro H enc fuel cs y h _
  obtain ⟨n, h1, _⟩ := DataW.trod_bool ht h
  exact ⟨n, h1, trivial⟩
theorem opens_string (ht : P.underlying t = some .string) : Opens P w t (fun s : ByteArray => [.string s]) (fun s => s.size ≤ 140737488351232) := by
  intro H enc fuel cs y h hw
  obtain ⟨s, h1, h2, _⟩ := DataW.trod_string ht h
  subst h2
  refine ⟨s, h1, ?_⟩
  have := hw s.data.toList.length (by simp [DataW.weights])
  simp only [reachBytes, Array.length_toList] at this
  exact this
theorem cell_block_lt {a : Addr} {v : Value} (h : w.cell? a = some v) : a.block < w.heap.size ∧ a.spot = none := by
  unfold World.cell? at h
  split at h
  · rename_i hb
    refine ⟨(Array.getElem?_eq_some_iff.1 hb).1, ?_⟩
    cases hs : a.spot with
    | none => rfl
    | some x => simp [hs] at h
  · simp at h
theorem weights_elem {H : Type} {P : Program} {e : TypeId} : ∀ {l : List (DataW H)} {d : DataW H}, d ∈ l → ∀ n ∈ d.weights P e, n ∈ DataW.weightsAll P e l
  | x :: r, d, hd, n, hn => by
    simp only [DataW.weightsAll, List.mem_append]
    rcases List.mem_cons.1 hd with rfl | h
    · exact .inl hn
    · exact .inr (weights_elem h n hn)
theorem opens_slice {α : Type} {cells : α → List Value} {good : α → Prop} {size bytes : Nat} (ht : P.underlying t = some (.slice e)) (hC : P.cellsOf e = size) (hB : P.bytesOf e = bytes) (hs : 1 ≤ size)
    (hlen : ∀ x, (cells x).length = size) (hel : Opens P w e cells good) :
    Opens P w t (fun s : Sl α => [s.v]) (Sl.Good w w.heap.size size bytes cells good) := by
  intro H enc fuel cs y h hw
  rcases open_slice ht h with ⟨rfl, rfl⟩ | ⟨a, len, cap, m, n, D, Pl, rfl, _, hl, hm, hmm, rfl, hx⟩
  · exact ⟨⟨none, 0, []⟩, rfl, ⟨by simp, fun k x hk => by simp at hk⟩, by simp, by simp, by simp⟩
  · simp only [if_true] at hmm
    subst hmm
    have hwt : ∀ i, i < m → ∀ q ∈ (D i).weights P e, q ≤ reachBytes := by
      intro i hi q hq
      refine hw q ?_
      simp only [DataW.weights, ht, List.mem_cons, List.mem_append]
      by_cases hil : i < len
      · exact .inr (.inl (weights_elem (List.mem_map.2 ⟨i, List.mem_range.2 hil, rfl⟩) q hq))
      · exact .inr (.inr (weights_elem (List.mem_map.2 ⟨i - len, List.mem_range.2 (by omega), by rw [show len + (i - len) = i by omega]⟩) q hq))
    have hcells : ∀ i, i < m → ∃ x, (∃ cs', w.cells? 0 (a.add (i * P.cellsOf e)) (P.cellsOf e) = some cs' ∧ cs' = cells x) ∧ good x := by
      intro i hi
      obtain ⟨cs', h1, h2⟩ := hx i hi
      obtain ⟨x, h3, h4⟩ := hel enc n cs' _ h2 (hwt i hi)
      exact ⟨x, ⟨cs', h1, h3⟩, h4⟩
    have hcap : m * bytes ≤ 140737488351232 := by
      have := hw (m * bytes) (by
        simp only [DataW.weights, ht, List.mem_cons]
        left
        simp only [List.length_map, List.length_range, hB]
        rw [show len + (m - len) = m by omega])
      simpa [reachBytes] using this
    have main : ∀ q, q ≤ m → ∃ l : List α, l.length = q ∧ (∀ k x, l[k]? = some x → (∃ cs', w.cells? 0 (a.add (k * P.cellsOf e)) (P.cellsOf e) = some cs' ∧ cs' = cells x) ∧ good x) := by
      intro q
      induction q with
      | zero => exact fun _ => ⟨[], rfl, fun k x hk => by simp at hk⟩
      | succ q ih =>
        intro hq
        obtain ⟨l, h1, h2⟩ := ih (by omega)
        obtain ⟨x, hx'⟩ := hcells q (by omega)
        refine ⟨l ++ [x], by simp [h1], fun k z hk => ?_⟩
        by_cases hkq : k < q
        · rw [List.getElem?_append_left (by omega)] at hk
          exact h2 k z hk
        · rw [List.getElem?_append_right (by omega)] at hk
          have : k = q := by
            have hlt : k - l.length < 1 := by
              have := (List.getElem?_eq_some_iff.1 hk).1
              simpa using this
            omega
          subst this
          rw [h1] at hk
          simp at hk
          subst hk
          exact hx'
    obtain ⟨l, h1, h2⟩ := main len hl
    refine ⟨⟨some a, m, l⟩, by simp [Sl.v, h1], ⟨by rw [h1]; exact hl, fun k x hk => ?_⟩, hcap, hm, fun x hx' => ?_⟩
    · obtain ⟨⟨cs', hc, rfl⟩, _⟩ := h2 k x hk
      obtain ⟨_, hlen', hat⟩ := World.cells?_some hc
      rw [hC] at hc hat hlen'
      have hkl : k < l.length := (List.getElem?_eq_some_iff.1 hk).1
      obtain ⟨⟨cs0, hc0, rfl⟩, _⟩ := h2 0 _ (List.getElem?_eq_getElem (by omega))
      obtain ⟨_, hlen0, hat0⟩ := World.cells?_some hc0
      rw [hC] at hat0
      have h00 := hat0 0 (by omega)
      rw [hC] at hlen0
      rw [List.getElem?_eq_getElem (by omega)] at h00
      have ha0 : (a.add (0 * size)).add 0 = a := by simp [Addr.add]
      rw [ha0] at h00
      obtain ⟨hb, hsp⟩ := cell_block_lt h00
      obtain ⟨b, off, sp⟩ := a
      simp only at hsp hb
      subst hsp
      refine ⟨b, off, rfl, hb, fun j u hu => ?_⟩
      have hj : j < size := by
        have := (List.getElem?_eq_some_iff.1 hu).1
        rw [hlen x] at this; exact this
      have := hat j hj
      rw [hu] at this
      rw [← this]
      congr 1
      unfold Addr.add
      by_cases e1 : k * size = 0 <;> by_cases e2 : j = 0 <;> simp [e1, e2, Nat.add_assoc]
    · obtain ⟨k, hk⟩ := List.getElem?_of_mem hx'
      exact (h2 k x hk).2

/-- a struct of one-cell fields, field by field -/
theorem open_one {H : Type} {enc : TypeId × Value → H} {fs : Array Field} {fuel : Nat} {cs : List Value} {y : DataW H × List MemPlace} (ht : P.underlying t = some (.struct fs)) (hone : oneCellFields P fs = true) (hC : P.cellsOf t = fs.size)
    (h : DataW.trod enc P w 0 (fun _ => true) true fuel t cs = some y) (hw : ∀ n ∈ y.1.weights P t, n ≤ reachBytes) :
    ∃ n, cs.length = fs.size ∧ ∀ (j : Nat) (f : Field), fs[j]? = some f → ∃ v y', cs[j]? = some v ∧ DataW.trod enc P w 0 (fun _ => true) true n f.type [v] = some y' ∧ ∀ q ∈ y'.1.weights P f.type, q ≤ reachBytes := by
  obtain ⟨ys, n, _, rfl, hlen, hyl, hf⟩ := DataW.trod_struct ht h
  rw [hC] at hlen
  refine ⟨n, hlen, fun j f hj => ?_⟩
  obtain ⟨ho, hk⟩ := hone_of hone j f hj
  have hjl : j < fs.size := (Array.getElem?_eq_some_iff.1 hj).1
  have h1 := hf j f hj
  rw [ho, hk] at h1
  have hone' : (cs.drop j).take 1 = [cs[j]'(by omega)] := by
    rw [List.drop_eq_getElem_cons (by omega)]; rfl
  rw [hone'] at h1
  have hys : ys[j]? = some (ys[j]'(by omega)) := List.getElem?_eq_getElem (by omega)
  refine ⟨cs[j]'(by omega), ys[j]'(by omega), List.getElem?_eq_getElem (by omega), h1.trans hys, fun q hq => hw q ?_⟩
  simp only [DataW.weights, ht]
  exact DataW.weights_mem_each (j := j) (d := (ys[j]'(by omega)).1) (by simp [hj]) (by simp [hys]) q hq
section
variable {α : Type} {cells : α → List Value} {good : α → Prop} {H : Type} {enc : TypeId × Value → H} {r : Reach} {base : Nat} {v : Value} {d : DataW H} {p : List MemPlace}
theorem arg_slice {g : Sl α → Prop} (ht : P.underlying t = some (.slice e)) (ho : Opens P w t (fun s : Sl α => [s.v]) g) (hv : Value.okWide P w r base t v) (h : DataW.Trod enc P w 0 (fun _ => true) true t v d p) (hw : ∀ n ∈ d.weights P t, n ≤ reachBytes) : ∃ s : Sl α, v = s.v ∧ g s := by
  obtain ⟨a, len, cap, rfl⟩ := okWide_slice ht hv
  obtain ⟨fuel, hf⟩ := h
  obtain ⟨s, h1, h2⟩ := ho enc fuel _ _ hf hw
  exact ⟨s, by simpa [Value.cells] using h1, h2⟩
theorem arg_struct {fs : Array Field} (ht : P.underlying t = some (.struct fs)) (ho : Opens P w t cells good) (hv : Value.okWide P w r base t v) (h : DataW.Trod enc P w 0 (fun _ => true) true t v d p) (hw : ∀ n ∈ d.weights P t, n ≤ reachBytes) : ∃ x, v = .agg (cells x).toArray ∧ good x := by
  obtain ⟨cs, rfl, _⟩ := okWide_struct ht hv
  obtain ⟨fuel, hf⟩ := h
  obtain ⟨x, h1, h2⟩ := ho enc fuel _ _ hf hw
  exact ⟨x, by rw [← h1]; rfl, h2⟩
theorem arg_int {k : IntKind} (ht : P.underlying t = some (.int k)) (hv : Value.okWide P w r base t v) (h : DataW.Trod enc P w 0 (fun _ => true) true t v d p) : ∃ n, v = .int k n ∧ (Lit.int k n).wf = true := by
  obtain ⟨n, rfl, _, _, h2⟩ := open_int ht hv h
  exact ⟨n, rfl, h2⟩
theorem arg_bool (ht : P.underlying t = some .bool) (hv : Value.okWide P w r base t v) : ∃ b, v = .bool b := okWide_bool ht hv
theorem arg_string (ht : P.underlying t = some .string) (hv : Value.okWide P w r base t v) (h : DataW.Trod enc P w 0 (fun _ => true) true t v d p) (hw : ∀ n ∈ d.weights P t, n ≤ reachBytes) : ∃ s : ByteArray, v = .string s ∧ s.size ≤ 140737488351232 := by
  obtain ⟨s, rfl⟩ := okWide_string ht hv
  obtain ⟨fuel, hf⟩ := h
  obtain ⟨s', h1, h2⟩ := opens_string ht enc fuel _ _ hf hw
  refine ⟨s, rfl, ?_⟩
  simp only [Value.cells, List.cons.injEq, Value.string.injEq, and_true] at h1
  subst h1
  exact h2
/-- an argument's weights out of all -/
theorem weights_of {ts : List TypeId} {ds : List (DataW H)} (h : (DataW.weightsEach P ts ds).all (· ≤ reachBytes) = true) (j : Nat) {t : TypeId} {d : DataW H} (ht : ts[j]? = some t) (hd : ds[j]? = some d) : ∀ n ∈ d.weights P t, n ≤ reachBytes :=
  fun n hn => by
    have := List.all_eq_true.1 h n (DataW.weights_mem_each ht hd n hn)
    simpa using this
end

/-! ### A law's walk becomes its row -/
theorem trodAll_stays {H : Type} {enc : TypeId × Value → H} (hl : laidOutB P = true) {W W' : World} (hb : Below W.heap.size W W') {sp' : Nat → Bool} :
    ∀ {ts : List TypeId} {vs : List Value} {ds : List (DataW H)} {ps : List MemPlace}, (∀ t ∈ ts, P.readableRec t = true ∧ t < P.types.size) →
      DataW.TrodAll enc P W 0 (fun _ => true) true ts vs ds ps → (∀ x ∈ ps, x.block < W.heap.size) → (∀ x ∈ ps, sp' x.block = true) → DataW.TrodAll enc P W' 0 sp' true ts vs ds ps
  | [], [], [], _, _, h, _, _ => h
  | t :: ts, v :: vs, d :: ds, ps, hr, h, hlt, hsp => by
    obtain ⟨p, q, h1, h2, rfl⟩ := h
    refine ⟨p, q, ?_, ?_, rfl⟩
    · exact WideElems.Trod_stays hl (hr t (by simp)).1 (hr t (by simp)).2 h1 (fun x hx => hb.same (hlt x (by simp [hx]))) (fun x hx => hsp x (by simp [hx]))
    · exact trodAll_stays hl hb (fun t' ht' => hr t' (by simp [ht'])) h2 (fun x hx => hlt x (by simp [hx])) (fun x hx => hsp x (by simp [hx]))
  | [], _ :: _, _, _, _, h, _, _ => h.elim
  | [], [], _ :: _, _, _, h, _, _ => h.elim
  | _ :: _, [], _, _, _, h, _, _ => h.elim
  | _ :: _, _ :: _, [], _, _, h, _, _ => h.elim

theorem trodAll_length {H : Type} {enc : TypeId × Value → H} {W : World} {base : Nat} {sp : Nat → Bool} {hd : Bool} :
    ∀ {ts : List TypeId} {vs : List Value} {ds : List (DataW H)} {ps : List MemPlace}, DataW.TrodAll enc P W base sp hd ts vs ds ps → ds.length = ts.length ∧ vs.length = ts.length
  | [], [], [], _, _ => ⟨rfl, rfl⟩
  | t :: ts, v :: vs, d :: ds, ps, h => by
    obtain ⟨p, q, _, h2, _⟩ := h
    have := trodAll_length h2
    exact ⟨by simp [this.1], by simp [this.2]⟩
  | [], _ :: _, _, _, h => h.elim
  | [], [], _ :: _, _, h => h.elim
  | _ :: _, [], _, _, h => h.elim
  | _ :: _, _ :: _, [], _, h => h.elim

/-- true came out and nothing below turned: all that the row asks -/
theorem post_true {H : Type} {enc : TypeId × Value → H} {f : Func} {s : ChangeSpec} {tb : TypeId} {W W' : World} {args : Array Value} {ds gs : List (DataW H)} {before : List MemPlace}
    (hl : laidOutB P = true) (hr : f.params.toList.all (fun t => P.readableRec t && decide (t < P.types.size)) = true) (hv : s.vars = []) (hres : f.resultTypes = #[tb]) (htb : P.underlying tb = some .bool)
    (hs : ∀ ds : List (DataW H), ds.length = f.params.size → s.fn H ds = { results := [.lit (.bool true)], args := ds })
    (hW : DataW.Whole enc P f.params.toList s.vars false W args.toList ds gs before) (hb : Below W.heap.size W W') :
    s.post enc P f false true false false W args (.bool true) W' := by
  have hW0 := hW
  obtain ⟨p, q, hA, hV, rfl, hfz, hnd⟩ := hW
  rw [hv] at hV
  obtain ⟨rfl, rfl⟩ := trodVars_none hV
  have hlen := (trodAll_length hA).1
  have hfn : s.fn H (ds ++ []) = { results := [.lit (.bool true)], args := ds } := by rw [List.append_nil]; exact hs ds (by simpa using hlen)
  have hlt : ∀ x ∈ p ++ [], x.block < W.heap.size := fun x hx => hW0.lt x hx
  refine ⟨ds, [], p ++ [], [], p, [], hW0, ?_, ?_, ?_, hb.frame _, fun h => by cases h⟩
  · rw [hfn, hres]
    exact trodAll_cons_mk (shut_bool htb _) trodAll_mk0
  · rw [hfn]
    refine trodAll_stays hl hb (fun t ht => ?_) hA (fun x hx => hlt x (by simp [hx])) (fun x hx => by simpa using hlt x (by simp [hx]))
    have := List.all_eq_true.1 hr t ht
    simpa using this
  · rw [hfn, hv]; rfl
end
end Go.Proofs.YtajhehmkdlebbaaDoor
