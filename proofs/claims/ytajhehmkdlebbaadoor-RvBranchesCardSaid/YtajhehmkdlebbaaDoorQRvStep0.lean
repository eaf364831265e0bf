/- What a step leans on: how it ends; what each instruction comes to. -/
import Derived.Test.YtajhehmkdlebbaaDoorQRvBase
import Derived.Test.YtajhehmkdlebbaaDoorQRvDoAll
namespace Go.Proofs.YtajhehmkdlebbaaDoor
open Go.ChangeShapes Go.WideShapes Go.ChangeAt Go.RowKit Go.Deep
set_option maxRecDepth 100000
/-- with its memory elsewhere -/
def Mc.home (m : Mc) (A : Option Addr) (c : Nat) : Mc := { m with a := A, cap := c }
def Mc.tick (m : Mc) : Mc := { m with steps := IntKind.u64.wrap (m.steps + 1) }
/-- what a step's call comes to -/
def Comes (w : World) (m : Mc) (e : Ending) (w' : World) : Prop := ∃ A c, e = .returned (.agg (m.home A c).cells.toArray) ∧ Below w.heap.size w w' ∧ Mem w' w'.heap.size A c m.mem ∧ (A = none → c = 0)
/-- a machine in an argument -/
structure McG (w : World) (m : Mc) : Prop where
  ok : m.Ok
  tab : Tab w
  mem : Mem w w.heap.size m.a m.cap m.mem
  nil : m.a = none → m.cap = 0
section
variable {W w : World} {b : Nat} {m z : Mc} {o : OpD}
theorem Comes.same (hM : Mem w w.heap.size m.a m.cap m.mem) (hn : m.a = none → m.cap = 0) {m' : Mc} (h1 : m'.mem = m.mem) (h2 : m'.a = m.a) (h3 : m'.cap = m.cap) {w' : World} (hb : Below w.heap.size w w') {e : Ending} (he : e = .returned (.agg m'.cells.toArray)) : Comes w m' e w' :=
  ⟨m.a, m.cap, by rw [he, ← h2, ← h3]; rfl, hb, by rw [h1]; exact hM.step hb, hn⟩
/-- the result is laid down -/
theorem MB.lay_only {k : Nat} (h : MB W k z) (hz : z.x.length = 32) (hl : m.x.length = 32) {W' : World} (hr : (Go.storeVar 34 ⟨k, 0, none⟩ (.agg m.cells.toArray)).run Tryd.prog W = .ok () W') : ∀ j, j ≠ k → W'.heap[j]? = W.heap[j]? := by
  have hc := Mc.cells_len hz
  have hc' := Mc.cells_len hl
  have hs : m.cells.toArray.size = 39 := by simp [hc']
  have h2 := run_storeVar_mid (P := Tryd.prog) W k 0 34 m.cells.toArray (fun j hj => by
    have hj' : j < z.cells.length := by omega
    exact ⟨by rw [Nat.zero_add, h.cell, List.getElem?_eq_getElem hj']; rfl, by rw [Nat.zero_add]; exact h.frz j⟩) (by rw [mach_info, hs]) (all_oneCell_toArray Mc.cells_one)
  rw [hr] at h2
  injection h2 with _ h3
  subst h3
  exact (setCells_heap k m.cells 0 W).2
theorem mach_out (z' : MB W (b + 1) z) (hz : z.x.length = 32) (hl : m.x.length = 32) : ∃ Wc, (Go.storeVar 34 ⟨b + 1, 0, none⟩ (.agg m.cells.toArray)).run Tryd.prog W = .ok () Wc ∧ (Go.loadVar 34 ⟨b + 1, 0, none⟩).run Tryd.prog Wc = .ok (.agg m.cells.toArray) Wc ∧ Below b W Wc := by
  obtain ⟨Wc, h1, h2, _, h4, _⟩ := z'.lay hz m hl
  exact ⟨Wc, h1, h2.loadVar hl, h4.mono (Nat.le_succ _)⟩
/-- a step that ends well: register 0 is nought, it goes on elsewhere -/
theorem mach_end (x : MB W b m) (hl : m.x.length = 32) (z' : MB W (b + 1) z) (hz : z.x.length = 32) (p : Int) : ∃ Wa Wb Wc R, R = ({ m.put 0 0 with pc := p } : Mc) ∧ W.setCell ⟨b, 0, none⟩ (.int .u64 0) = Wa ∧ Wa.setCell ⟨b, 32, none⟩ (.int .u64 p) = Wb ∧
    (∃ u, W.cell? ⟨b, 0, none⟩ = some (.int .u64 u)) ∧ W.frozen? ⟨b, 0, none⟩ = false ∧ Wa.cell? ⟨b, 32, none⟩ = some (.int .u64 m.pc) ∧ Wa.frozen? ⟨b, 32, none⟩ = false ∧
    (Go.loadVar 34 ⟨b, 0, none⟩).run Tryd.prog Wb = .ok (.agg R.cells.toArray) Wb ∧ (Go.storeVar 34 ⟨b + 1, 0, none⟩ (.agg R.cells.toArray)).run Tryd.prog Wb = .ok () Wc ∧ (Go.loadVar 34 ⟨b + 1, 0, none⟩).run Tryd.prog Wc = .ok (.agg R.cells.toArray) Wc ∧ Below b W Wc ∧ ∀ j, j ≠ b → j ≠ b + 1 → Wc.heap[j]? = W.heap[j]? := by
  obtain ⟨R, hR⟩ : ∃ R, R = ({ m.put 0 0 with pc := p } : Mc) := ⟨_, rfl⟩
  have hl1 : (m.put 0 0).x.length = 32 := by rw [Mc.put_len]; exact hl
  have hl2 : R.x.length = 32 := by rw [hR]; exact hl1
  obtain ⟨Wa, h1, x1, _, b1, o1⟩ := x.step (m' := m.put 0 0) (Mc.setReg hl (i := 0) (by omega) 0)
  obtain ⟨Wb, h2, x2, _, b2, o2⟩ := x1.step (m' := R) ((Mc.setPc hl1 p).trans (by rw [hR]))
  obtain ⟨Wc, h3, l3, b3⟩ := mach_out (m := R) (o2 _ _ (by omega) (o1 _ _ (by omega) z')) hz hl2
  exact ⟨Wa, Wb, Wc, R, hR, h1, h2, ⟨_, x.reg hl (by omega)⟩, x.frz 0, (x1.tail hl1).1, x1.frz 32, x2.loadVar hl2, h3, l3, (b1.trans b2).trans b3, fun j hj hj' => by
    rw [MB.lay_only (o2 _ _ (by omega) (o1 _ _ (by omega) z')) hz hl2 h3 j hj', ← h2, Below.heap_setCell _ _ _ _ (show j ≠ b from hj), ← h1, Below.heap_setCell _ _ _ _ (show j ≠ b from hj)]⟩
theorem exec_ecall (h : o.kind = 31) : m.exec o = m.calls := by unfold Mc.exec; rw [if_pos h]
theorem exec_ld (h : o.kind = 19 ∨ o.kind = 20) (he : loadE m.mem (m.at_ o) (manyR o.kind) 4 = 0) : m.exec o = { (m.put o.rd (loadV m.mem (m.at_ o) (manyR o.kind) 4)).put 0 0 with pc := m.next } := by
  unfold Mc.exec; rw [if_neg (by omega), if_pos h, if_pos he]
theorem exec_ld_bad (h : o.kind = 19 ∨ o.kind = 20) (he : loadE m.mem (m.at_ o) (manyR o.kind) 4 ≠ 0) : m.exec o = m.trap := by
  unfold Mc.exec; rw [if_neg (by omega), if_pos h, if_neg he]
theorem exec_st (h : o.kind = 21 ∨ o.kind = 22) (he : loadE m.mem (m.at_ o) (manyW o.kind) 2 = 0) : m.exec o = { m.put 0 0 with mem := storeX m.mem (m.at_ o) (manyW o.kind) (m.reg o.b), pc := m.next } := by
  unfold Mc.exec; rw [if_neg (by omega), if_neg (by omega), if_pos h, if_pos he]
theorem exec_st_bad (h : o.kind = 21 ∨ o.kind = 22) (he : loadE m.mem (m.at_ o) (manyW o.kind) 2 ≠ 0) : m.exec o = m.trap := by
  unfold Mc.exec; rw [if_neg (by omega), if_neg (by omega), if_pos h, if_neg he]
theorem exec_br (h : 23 ≤ o.kind ∧ o.kind ≤ 26) : m.exec o = { m.put 0 0 with pc := m.branch o } := by
  unfold Mc.exec; rw [if_neg (by omega), if_neg (by omega), if_neg (by omega), if_pos h]
theorem exec_do (h : o.kind ≠ 31 ∧ ¬ (19 ≤ o.kind ∧ o.kind ≤ 26)) : m.exec o = { (m.put o.rd (doesF o.kind o.imm (m.reg o.a) (m.reg o.b) m.pc)).put 0 0 with pc := m.goto o } := by
  unfold Mc.exec; rw [if_neg h.1, if_neg (by omega), if_neg (by omega), if_neg (by omega)]
theorem put_put0 (v : Int) : (m.put 0 v).put 0 0 = m.put 0 0 := by unfold Mc.put; simp
theorem calls_place (m : Mc) : m.calls.a = m.a ∧ m.calls.cap = m.cap := by
  unfold Mc.calls
  split
  · split <;> exact ⟨rfl, rfl⟩
  · split
    · exact ⟨rfl, rfl⟩
    · split <;> exact ⟨rfl, rfl⟩
theorem andNot_one {x : Int} (h : U64 x) : bits .andNot .u64 x 1 = x / 2 * 2 := by
  obtain ⟨a, rfl⟩ := Int.eq_ofNat_of_zero_le h.1
  have h1 := h.2
  have h2 := u64_andNot_nat a 1 (by omega) (by omega)
  rw [show ((1 : Nat) : Int) = 1 from rfl] at h2
  rw [h2]
  have e : a &&& (18446744073709551615 - 1) = a / 2 * 2 := by
    apply Nat.eq_of_testBit_eq
    intro i
    rw [Nat.testBit_and, show (18446744073709551615 - 1 : Nat) = (2 ^ 63 - 1) * 2 ^ 1 from rfl, show a / 2 * 2 = a / 2 * 2 ^ 1 from rfl, Nat.testBit_mul_two_pow, Nat.testBit_mul_two_pow, Nat.testBit_two_pow_sub_one, show a / 2 = a / 2 ^ 1 from rfl, Nat.testBit_div_two_pow]
    cases i with
    | zero => simp
    | succ i =>
      by_cases hi : i < 63
      · simp [hi]
      · have : a.testBit (i + 1) = false := Nat.testBit_lt_two_pow (Nat.lt_of_lt_of_le (by omega : a < 2 ^ 64) (Nat.pow_le_pow_right (by decide) (by omega)))
        simp [hi, this]
  rw [e]; omega
/-- no pages lie where a machine does -/
theorem cells_no {q : Nat} {x y : Int} (hl : m.x.length = 32) (h1 : m.cells[q]? = some (.int .u64 x)) (h2 : m.cells[q + 1]? = some (.int .i64 y)) : False := by
  by_cases hq : q + 1 < 32
  · rw [Mc.cells_reg hl hq] at h2; injection h2 with h2; injection h2 with h2; cases h2
  · obtain ⟨j, hj⟩ : ∃ j, q + 1 = 32 + j := ⟨q + 1 - 32, by omega⟩
    rw [hj, Mc.cells_tail hl] at h2
    unfold Mc.tail at h2
    match j with
    | 0 => injection h2 with h2; injection h2 with h2; cases h2
    | 1 => injection h2 with h2; injection h2
    | 2 => injection h2 with h2; injection h2
    | 3 => injection h2 with h2; injection h2
    | 4 =>
      obtain rfl : q = 32 + 3 := by omega
      rw [Mc.cells_tail hl] at h1
      injection h1 with h1; injection h1
    | 5 => injection h2 with h2; injection h2 with h2; cases h2
    | 6 => injection h2 with h2; injection h2 with h2; cases h2
    | j + 7 => simp at h2
theorem mem_keep {B c : Nat} {A : Option Addr} {N : List Pg} {W' : World} (h : Mem W B A c N) (hx : MB W b m) (hl : m.x.length = 32) (hz : MB W (b + 1) z) (hlz : z.x.length = 32) (ho : ∀ j, j ≠ b → j ≠ b + 1 → W'.heap[j]? = W.heap[j]?) (hB : B ≤ W'.heap.size) : Mem W' W'.heap.size A c N := by
  refine ⟨h.1, fun k x hk => ?_⟩
  obtain ⟨bb, off, h1, h2, h3⟩ := h.2 k x hk
  refine ⟨bb, off, h1, by omega, fun j u hu => ?_⟩
  have c0 := h3 0 _ rfl
  have c1 := h3 1 _ rfl
  have n1 : bb ≠ b := fun e => by
    subst e
    rw [hx.cell] at c0 c1
    exact cells_no hl c0 c1
  have n2 : bb ≠ b + 1 := fun e => by
    subst e
    rw [hz.cell] at c0 c1
    exact cells_no hlz c0 c1
  rw [← h3 j u hu]
  unfold World.cell?
  rw [ho bb n1 n2]
end
end Go.Proofs.YtajhehmkdlebbaaDoor
