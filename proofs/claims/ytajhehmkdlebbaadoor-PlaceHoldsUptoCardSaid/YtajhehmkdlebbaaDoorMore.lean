/- More of what every proof of this seat leans on: rows of the call's own behind calls; new blocks. -/
import Derived.Test.YtajhehmkdlebbaaDoorLib
import Derived.Deep.DeepAppendWide
import Derived.Deep.RegionHeld3
import Derived.Laws.AppendOwnNone
namespace Go.Proofs.YtajhehmkdlebbaaDoor
open Go.ChangeShapes Go.WideShapes Go.ChangeAt Go.RowKit Go.Deep
theorem grown0 {w w' : World} (h : Below w.heap.size w w') : w.grownBy w' none := ⟨h.os, h.tape, h.output, h.size, fun k hk _ => h.block k hk⟩
/-- a row of the call's own stays behind a callee that only makes memory -/
theorem own_below {w w' : World} {base : Nat} {e : TypeId} {size n : Nat} {v : Value} {xs : List Value} (h : w.ownsRow base e size v n xs) (hb : Below w.heap.size w w') : w'.ownsRow base e size v n xs :=
  h.kept (grown0 hb) (by cases hv : v.ownBlock <;> simp)
theorem cells_new (w : World) (cs : List Value) (t : TypeId) (g : Nat) (hg : g = w.heap.size) {A : Array Value} (hA : A = cs.toArray) : ∀ j u, cs[j]? = some u → (w.alloc (.cells A t)).cell? ((⟨g, 0, none⟩ : Addr).add j) = some u := by
  intro j u hu
  subst hg hA
  have : (⟨w.heap.size, 0, none⟩ : Addr).add j = ⟨w.heap.size, j, none⟩ := by unfold Addr.add; split <;> simp [*]
  rw [this, cell_of_row _ _ _ _ _ _ (heap_alloc_new w _)]
  simpa using hu
theorem cell_alloc2 (w : World) (A : Array Value) (t : TypeId) (o : Obj) (i : Nat) : ((w.alloc (.cells A t)).alloc o).cell? ⟨w.heap.size, i, none⟩ = A[i]? :=
  cell_of_row _ _ _ _ _ _ ((Below.heap_alloc _ _ _ (by simp)).trans (heap_alloc_new w _))
theorem own_ne {w : World} {base : Nat} {e : TypeId} {size n : Nat} {v : Value} {xs : List Value} (h : w.ownsRow base e size v n xs) {g : Nat} (hg : w.heap.size ≤ g) : some g ≠ v.ownBlock :=
  fun he => by have := h.lt g he.symm; omega
theorem own_form {w : World} {base : Nat} {e : TypeId} {size n : Nat} {v : Value} {xs : List Value} (h : w.ownsRow base e size v n xs) : ∃ a cap, v = .slice a n cap := by
  rcases h.2 with ⟨rfl, rfl⟩ | ⟨g, cap, cur, rfl, _⟩
  · exact ⟨none, 0, rfl⟩
  · exact ⟨_, _, rfl⟩
/-- the bytes of a string, as numbers -/
def byteI (s : ByteArray) (q : Nat) : Int := ((s.data[q]?).getD 0).toNat
theorem byteI_bd (s : ByteArray) (q : Nat) : 0 ≤ byteI s q ∧ byteI s q < 256 := by
  unfold byteI
  have := ((s.data[q]?).getD 0).toNat_lt
  omega
theorem byteI_at {s : ByteArray} {q : Nat} (h : q < s.size) : (s[q].toNat : Int) = byteI s q := by
  unfold byteI
  have : s.data[q]? = some s[q] := by
    rw [Array.getElem?_eq_getElem (by simpa using h)]; rfl
  rw [this]; rfl
theorem takeH {P : Program} {ops : Array Oper} {Q : Exit → Act → World → Prop} {md : Region.Mode} {S : World → Prop} {i : Nat} {oi : Oper} {v : Value} {d : Option Nat} {fuel : Nat} {listed : Array Bool} {a : Act} {w : World} (hi : ops[i]? = some oi)
    (hs : Region.noSelect ops = true) (hf : Region.free md ops listed i = true) (hr : (Region.ready md ops listed).contains i = true)
    (hQ : ∀ c a w, Q (.panic c) (a.put oi.dst v) w → Q (.panic c) a w) (hd : oi.dst = d) (hy : YieldsIf P ops S oi v a) (hS : S w)
    (h : wpAnyH P md ops Q S fuel (listed.setIfInBounds i true) (a.put d v) w) : wpAnyH P md ops Q S (fuel + 1) listed a w :=
  wpAnyH_take hi hs hf hr hQ hy hS (hd ▸ h)
/-- a slice that came in, its nil told: nil has no capacity -/
theorem opens_slice0 {α : Type} {P : Program} {w : World} {t e : TypeId} {cells : α → List Value} {good : α → Prop} {size bytes : Nat} (ht : P.underlying t = some (.slice e)) (hC : P.cellsOf e = size) (hB : P.bytesOf e = bytes) (hs : 1 ≤ size)
    (hlen : ∀ x, (cells x).length = size) (hel : Opens P w e cells good) :
    Opens P w t (fun s : Sl α => [s.v]) (fun s => Sl.Good w w.heap.size size bytes cells good s ∧ (s.a = none → s.cap = 0)) := by
  intro H enc fuel cs y h hw
  obtain ⟨s, h1, h2⟩ := opens_slice ht hC hB hs hlen hel enc fuel cs y h hw
  refine ⟨s, h1, h2, fun hn => ?_⟩
  rcases open_slice ht h with ⟨h3, _⟩ | ⟨a, len, cap, m, n, D, Pl, h3, _⟩
  · rw [h3] at h1
    simp only [Sl.v, List.cons.injEq, Value.slice.injEq, and_true] at h1
    exact h1.2.2.symm
  · rw [h3] at h1
    simp only [Sl.v, List.cons.injEq, Value.slice.injEq, and_true] at h1
    rw [hn] at h1
    exact absurd h1.1 (by simp)
theorem flat_len {α : Type} {size : Nat} {cells : α → List Value} (hc : ∀ x, (cells x).length = size) : ∀ l : List α, (l.flatMap cells).length = l.length * size
  | [] => by simp
  | x :: l => by rw [List.flatMap_cons, List.length_append, flat_len hc l, hc x, List.length_cons, Nat.succ_mul]; omega
theorem flat_get {α : Type} {size : Nat} {cells : α → List Value} (hc : ∀ x, (cells x).length = size) (hs : 0 < size) {l : List α} {j : Nat} {u : Value} (h : (l.flatMap cells)[j]? = some u) : ∃ x, l[j / size]? = some x ∧ (cells x)[j % size]? = some u := by
  have hj := (List.getElem?_eq_some_iff.1 h).1
  rw [flat_len hc] at hj
  have hk : j / size < l.length := Nat.div_lt_of_lt_mul (by rw [Nat.mul_comm]; exact hj)
  have hr : j % size < (cells l[j / size]).length := by rw [hc]; exact Nat.mod_lt _ hs
  refine ⟨l[j / size], List.getElem?_eq_getElem hk, ?_⟩
  have h2 := flat_at hc (List.getElem?_eq_getElem hk) (List.getElem?_eq_getElem hr)
  rw [Nat.div_add_mod' j size, h] at h2
  rw [List.getElem?_eq_getElem hr, ← h2]
theorem Sl.In.flat {α : Type} {w : World} {B size : Nat} {cells : α → List Value} {ad : Addr} {cap : Nat} {l : List α} (hc : ∀ x, (cells x).length = size) (hs : 0 < size) (h : Sl.In w B size cells ⟨some ad, cap, l⟩) :
    ∀ j u, (l.flatMap cells)[j]? = some u → w.cell? (ad.add j) = some u := by
  intro j u hu
  obtain ⟨x, h1, h2⟩ := flat_get hc hs hu
  obtain ⟨b, off, h3, _, h4⟩ := h.2 _ _ h1
  obtain rfl := Option.some.inj h3
  have h5 := h4 _ _ h2
  have : (⟨b, off, none⟩ : Addr).add j = ⟨b, off + j / size * size + j % size, none⟩ := by
    have e := Nat.div_add_mod' j size
    unfold Addr.add
    split
    · rename_i h0; subst h0; simp
    · rw [Nat.add_assoc, e]
  rw [this]; exact h5
/-- 'append(dst, src...)', dst the call's own, src a slice that lies in memory (or nil) -/
theorem wpList_append_sl {α : Type} {P : Program} {w : World} {ops : Array Oper} {rest : List Oper} {o : Oper} {a : Act} {Q : Exit → Act → World → Prop} (hgd : o.guard = none) (s x : Operand) (t : TypeId)
    (ho : o.op = .call { callee := .builtin .append, args := #[s, x], argTypes := #[t, t] })
    (base : Nat) (e : TypeId) (i : TypeInfo) (z : Value) (size bytes : Nat) (ht : P.underlying t = some (.slice e)) (hi : P.info? e = some i) (hz : i.zero = some z)
    (hsize : i.size = size) (hby : i.bytes = bytes) (hzs : z.cells.size = size) (hsz : 0 < size)
    (v : Value) (n : Nat) (xs : List Value) (hs : a.eval s = v) (hown : w.ownsRow base e size v n xs)
    {B : Nat} {cells : α → List Value} {A : Option Addr} {c : Nat} {l : List α} (hc : ∀ x, (cells x).length = size) (h1 : ∀ x, ∀ u ∈ cells x, u.oneCell' = true) (hS : Sl.In w B size cells ⟨A, c, l⟩) (h0 : A = none → c = 0) (hx : a.eval x = .slice A l.length c)
    (h63 : n + l.length ≤ maxLen) (hbytes : ((n + l.length) + (n + l.length) / 4 + 192) * bytes ≤ 281474976710656) (hbase : base ≤ w.heap.size)
    (h : ∀ v' w', w'.ownsRow base e size v' (n + l.length) (xs ++ l.flatMap cells) → w.grownBy w' v.ownBlock → wpList P ops Q rest (a.put o.dst v') w') : wpList P ops Q (o :: rest) a w := by
  cases A with
  | none =>
    obtain rfl : l = [] := by
      cases l with
      | nil => rfl
      | cons y l => obtain ⟨b, off, hb, _⟩ := hS.2 0 y rfl; cases hb
    obtain rfl := h0 rfl
    refine wpList_append_own_none hgd s x t ho base e i size ht hi v n xs hs hown hx (h _ _ ?_ ⟨rfl, rfl, rfl, Nat.le_refl _, fun _ _ _ => rfl⟩)
    simpa using hown
  | some ad =>
    refine wpList_append_own_wide _ hgd s x t ho base e i z size bytes ht hi hz hsize hby hzs hsz v n xs hs hown ad l.length c (l.flatMap cells) hx (flat_len hc l) (hS.flat hc hsz) (fun u hu => ?_) h63 hbytes hbase (fun v' w' h2 h3 _ => h v' w' h2 h3)
    obtain ⟨y, _, hy⟩ := List.mem_flatMap.1 hu
    exact h1 y u hy
/-- noughts -/
def zerosB (n : Nat) : ByteArray := ⟨(List.replicate n 0).toArray⟩
end Go.Proofs.YtajhehmkdlebbaaDoor
