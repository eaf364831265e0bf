/- Machines in boxes. The machine's calls, what traps, what sets a register, whether a machine is small. The instruction where the machine goes on: rv.fetch. -/
import Derived.Test.YtajhehmkdlebbaaDoorQRvPl
import Derived.Deep.MidRow
import Derived.Lib.Builder
import Derived.Test.YtajhehmkdlebbaaDoorQRvDoes
namespace Go.Proofs.YtajhehmkdlebbaaDoor
open Go.ChangeShapes Go.WideShapes Go.ChangeAt Go.RowKit Go.Deep
set_option maxRecDepth 100000
section
variable {W w : World} {k : Nat} {m : Mc}
theorem Mc.cells_len (h : m.x.length = 32) : m.cells.length = 39 := by simp [Mc.cells, Mc.tail, h]
theorem Mc.cells_reg (h : m.x.length = 32) {i : Nat} (hi : i < 32) : m.cells[i]? = some (.int .u64 (m.x.getD i 0)) := by
  unfold Mc.cells
  rw [List.getElem?_append_left (by simp; omega), List.getElem?_map, List.getElem?_eq_getElem (by omega), List.getD_eq_getElem?_getD, List.getElem?_eq_getElem (by omega)]
  rfl
theorem Mc.cells_tail (h : m.x.length = 32) (j : Nat) : m.cells[32 + j]? = m.tail[j]? := by
  unfold Mc.cells
  rw [List.getElem?_append_right (by simp; omega)]
  congr 1
  simp; omega
theorem Mc.cells_one : ∀ u ∈ m.cells, u.oneCell' = true := by
  intro u hu
  unfold Mc.cells Mc.tail at hu
  rw [List.mem_append, List.mem_map] at hu
  rcases hu with ⟨_, _, rfl⟩ | hu
  · rfl
  · simp only [List.mem_cons, List.not_mem_nil, or_false] at hu
    rcases hu with rfl | rfl | rfl | rfl | rfl | rfl | rfl <;> rfl
theorem Mc.cells_set (i : Nat) (v : Int) (hl : m.x.length = 32) (hi : i < 32) : m.cells.set i (.int .u64 v) = ({ m with x := m.x.set i v } : Mc).cells := by
  unfold Mc.cells
  rw [List.set_append_left _ _ (by simp; omega), List.map_set]
  rfl
theorem Mc.cells_setT (j : Nat) (v : Value) (hl : m.x.length = 32) : m.cells.set (32 + j) v = m.x.map (Value.int .u64) ++ m.tail.set j v := by
  unfold Mc.cells
  rw [List.set_append_right _ _ (by simp; omega)]
  simp [hl]
/-! ### loads and stores: of machines by the laws below, of all else as the walk has them -/
@[go_sem] theorem lv0 (a : Addr) : Go.loadVar 24 a = (do if ← isAgg 24 then pure (.agg (← loadCells a (← sizeOf 24))) else load a) := rfl
@[go_sem] theorem sv0 (a : Addr) (v : Value) : Go.storeVar 24 a v = (do
  if v.cells.size ≠ (← sizeOf 24) then stuck "storeVar: the value has not the size of the variable"
  storeCells a v.cells.toList) := rfl
@[go_sem] theorem lv1 (a : Addr) : Go.loadVar 3 a = (do if ← isAgg 3 then pure (.agg (← loadCells a (← sizeOf 3))) else load a) := rfl
@[go_sem] theorem sv1 (a : Addr) (v : Value) : Go.storeVar 3 a v = (do
  if v.cells.size ≠ (← sizeOf 3) then stuck "storeVar: the value has not the size of the variable"
  storeCells a v.cells.toList) := rfl
@[go_sem] theorem lv2 (a : Addr) : Go.loadVar 2 a = (do if ← isAgg 2 then pure (.agg (← loadCells a (← sizeOf 2))) else load a) := rfl
@[go_sem] theorem sv2 (a : Addr) (v : Value) : Go.storeVar 2 a v = (do
  if v.cells.size ≠ (← sizeOf 2) then stuck "storeVar: the value has not the size of the variable"
  storeCells a v.cells.toList) := rfl
@[go_sem] theorem lv3 (a : Addr) : Go.loadVar 9 a = (do if ← isAgg 9 then pure (.agg (← loadCells a (← sizeOf 9))) else load a) := rfl
@[go_sem] theorem sv3 (a : Addr) (v : Value) : Go.storeVar 9 a v = (do
  if v.cells.size ≠ (← sizeOf 9) then stuck "storeVar: the value has not the size of the variable"
  storeCells a v.cells.toList) := rfl
@[go_sem] theorem lv4 (a : Addr) : Go.loadVar 32 a = (do if ← isAgg 32 then pure (.agg (← loadCells a (← sizeOf 32))) else load a) := rfl
@[go_sem] theorem sv4 (a : Addr) (v : Value) : Go.storeVar 32 a v = (do
  if v.cells.size ≠ (← sizeOf 32) then stuck "storeVar: the value has not the size of the variable"
  storeCells a v.cells.toList) := rfl
@[go_sem] theorem lv6 (a : Addr) : Go.loadVar 4 a = (do if ← isAgg 4 then pure (.agg (← loadCells a (← sizeOf 4))) else load a) := rfl
@[go_sem] theorem sv6 (a : Addr) (v : Value) : Go.storeVar 4 a v = (do
  if v.cells.size ≠ (← sizeOf 4) then stuck "storeVar: the value has not the size of the variable"
  storeCells a v.cells.toList) := rfl
/-- a machine in a block -/
def MB (W : World) (k : Nat) (m : Mc) : Prop := W.heap[k]? = some (.cells m.cells.toArray 34 (0, 0))
theorem MB.lt (h : MB W k m) : k < W.heap.size := (Array.getElem?_eq_some_iff.1 h).1
theorem MB.cell (h : MB W k m) (i : Nat) : W.cell? ⟨k, i, none⟩ = m.cells[i]? := by rw [Lib.cell_of_heap h]; simp
theorem MB.frz (h : MB W k m) (i : Nat) : W.frozen? ⟨k, i, none⟩ = false := Lib.frozen_of_heap h i
theorem MB.reg (h : MB W k m) (hl : m.x.length = 32) {i : Nat} (hi : i < 32) : W.cell? ⟨k, i, none⟩ = some (.int .u64 (m.x.getD i 0)) := by rw [h.cell, Mc.cells_reg hl hi]
theorem MB.tail (h : MB W k m) (hl : m.x.length = 32) : W.cell? ⟨k, 32, none⟩ = some (.int .u64 m.pc) ∧ W.cell? ⟨k, 33, none⟩ = some (.slice m.a m.mem.length m.cap) ∧ W.cell? ⟨k, 34, none⟩ = some (.string m.inp) ∧ W.cell? ⟨k, 35, none⟩ = some (.string m.out) ∧ W.cell? ⟨k, 36, none⟩ = some (.int .i64 m.state) ∧ W.cell? ⟨k, 37, none⟩ = some (.int .u64 m.code) ∧ W.cell? ⟨k, 38, none⟩ = some (.int .u64 m.steps) := by
  refine ⟨?_, ?_, ?_, ?_, ?_, ?_, ?_⟩
  · rw [h.cell, Mc.cells_tail hl 0]; rfl
  · rw [h.cell, Mc.cells_tail hl 1]; rfl
  · rw [h.cell, Mc.cells_tail hl 2]; rfl
  · rw [h.cell, Mc.cells_tail hl 3]; rfl
  · rw [h.cell, Mc.cells_tail hl 4]; rfl
  · rw [h.cell, Mc.cells_tail hl 5]; rfl
  · rw [h.cell, Mc.cells_tail hl 6]; rfl
theorem mach_info : (Tryd.prog.info? 34).map (·.size) = some 39 := by kernel_rfl
theorem MB.load (h : MB W k m) (hl : m.x.length = 32) : (Instr.loadAt 34 (.pointer (some ⟨k, 0, none⟩))).run Tryd.prog W = .ok (.agg m.cells.toArray) W :=
  run_loadAt_mid W k 0 34 m.cells _ (fun j v hv => by rw [Nat.zero_add, h.cell, hv]) Tryd.underlying34 rfl (by rw [mach_info, Mc.cells_len hl])
theorem MB.loadVar (h : MB W k m) (hl : m.x.length = 32) : (Go.loadVar 34 ⟨k, 0, none⟩).run Tryd.prog W = .ok (.agg m.cells.toArray) W :=
  run_loadVar_mid W k 0 34 m.cells _ (fun j v hv => by rw [Nat.zero_add, h.cell, hv]) Tryd.underlying34 rfl (by rw [mach_info, Mc.cells_len hl])
/-- a machine of noughts -/
def Mc.zero : Mc := ⟨List.replicate 32 0, 0, none, 0, [], ⟨#[]⟩, ⟨#[]⟩, 0, 0, 0⟩
def zeroA : Array Value := #[.int .u64 0, .int .u64 0, .int .u64 0, .int .u64 0, .int .u64 0, .int .u64 0, .int .u64 0, .int .u64 0, .int .u64 0, .int .u64 0, .int .u64 0, .int .u64 0, .int .u64 0, .int .u64 0, .int .u64 0, .int .u64 0, .int .u64 0, .int .u64 0, .int .u64 0, .int .u64 0, .int .u64 0, .int .u64 0, .int .u64 0, .int .u64 0, .int .u64 0, .int .u64 0, .int .u64 0, .int .u64 0, .int .u64 0, .int .u64 0, .int .u64 0, .int .u64 0, .int .u64 0, .slice none 0 0, .string ⟨#[]⟩, .string ⟨#[]⟩, .int .i64 0, .int .u64 0, .int .u64 0]
theorem zero_cells : Mc.zero.cells.toArray = zeroA := rfl
theorem mb_new (W : World) (m : Mc) : MB (W.alloc (.cells m.cells.toArray 34)) W.heap.size m := heap_alloc_new W _
theorem MB.alloc (h : MB W k m) (o : Obj) : MB (W.alloc o) k m := (Lib.alloc_old W o _ h.lt).trans h
theorem MB.below {W' : World} {B : Nat} (h : MB W k m) (hb : Below B W W') (hB : k < B) : MB W' k m := (hb.block _ hB).trans h
theorem MB.drew (h : MB W k m) (n : Nat) : MB (W.drewN n) k m := h
theorem MB.other (h : MB W k m) {p : Addr} (hp : k ≠ p.block) (v : Value) : MB (W.setCell p v) k m := by
  unfold MB
  rw [Below.heap_setCell _ _ _ _ hp]; exact h
theorem MB.setAt (h : MB W k m) (i : Nat) (v : Value) {m' : Mc} (he : m.cells.set i v = m'.cells) : MB (W.setCell ⟨k, i, none⟩ v) k m' := by
  unfold MB at h ⊢
  simp only [World.setCell, Array.getElem?_modify, if_true, h, Option.map_some]
  rw [← he]
  simp
theorem setCells_heap (b : Nat) : ∀ (vs : List Value) (o : Nat) (W : World), (W.setCells b o vs).heap.size = W.heap.size ∧ ∀ j, j ≠ b → (W.setCells b o vs).heap[j]? = W.heap[j]?
  | [], _, _ => ⟨rfl, fun _ _ => rfl⟩
  | v :: r, o, W => by
    obtain ⟨h1, h2⟩ := setCells_heap b r (o + 1) (W.setCell ⟨b, o, none⟩ v)
    refine ⟨?_, fun j hj => ?_⟩
    · rw [World.setCells, h1, World.size_setCell]
    · rw [World.setCells, h2 j hj, Below.heap_setCell _ _ _ _ hj]
theorem setCells_row (b : Nat) (t : TypeId) : ∀ (vs : List Value) (A C : List Value) (W : World), C.length = vs.length → W.heap[b]? = some (.cells (A ++ C).toArray t (0, 0)) → (W.setCells b A.length vs).heap[b]? = some (.cells (A ++ vs).toArray t (0, 0))
  | [], A, C, W, hl, h => by
    obtain rfl := List.eq_nil_of_length_eq_zero hl
    exact h
  | v :: r, A, [], W, hl, h => by simp at hl
  | v :: r, A, c :: C, W, hl, h => by
    rw [World.setCells]
    have := setCells_row b t r (A ++ [v]) C (W.setCell ⟨b, A.length, none⟩ v) (by simpa using hl) (by
      simp only [World.setCell, Array.getElem?_modify, if_true, h, Option.map_some]
      simp)
    simpa using this
theorem below_setCells {B b : Nat} (hb : B ≤ b) : ∀ (vs : List Value) (o : Nat) (W0 W : World), Below B W0 W → Below B W0 (W.setCells b o vs)
  | [], _, _, _, h => h
  | v :: r, o, W0, W, h => by rw [World.setCells]; exact below_setCells hb r (o + 1) W0 _ (h.setCell hb v)
/-- a whole machine is laid into a block -/
theorem MB.lay (h : MB W k m) (hl : m.x.length = 32) (m' : Mc) (hl' : m'.x.length = 32) : ∃ W', (Go.storeVar 34 ⟨k, 0, none⟩ (.agg m'.cells.toArray)).run Tryd.prog W = .ok () W' ∧ MB W' k m' ∧ W'.heap.size = W.heap.size ∧ Below k W W' ∧ ∀ j n, j ≠ k → MB W j n → MB W' j n := by
  have hc := Mc.cells_len hl
  have hc' := Mc.cells_len hl'
  have hz : m'.cells.toArray.size = 39 := by simp [hc']
  obtain ⟨s1, s2⟩ := setCells_heap k m'.cells 0 W
  refine ⟨_, run_storeVar_mid W k 0 34 m'.cells.toArray (fun j hj => ⟨?_, ?_⟩) (by rw [mach_info, hz]) (all_oneCell_toArray Mc.cells_one), ?_, s1, ?_, fun j n hj hn => (s2 j hj).trans hn⟩
  · rw [Nat.zero_add, h.cell, List.getElem?_eq_getElem (by omega)]; rfl
  · rw [Nat.zero_add]; exact h.frz j
  · exact setCells_row k 34 m'.cells [] m.cells W (by omega) h
  · exact below_setCells (Nat.le_refl k) _ _ W W (Below.refl _ _)
theorem Mc.setPc (hl : m.x.length = 32) (p : Int) : m.cells.set 32 (.int .u64 p) = ({ m with pc := p } : Mc).cells := Mc.cells_setT 0 _ hl
theorem Mc.setInp (hl : m.x.length = 32) (s : ByteArray) : m.cells.set 34 (.string s) = ({ m with inp := s } : Mc).cells := Mc.cells_setT 2 _ hl
theorem Mc.setOut (hl : m.x.length = 32) (s : ByteArray) : m.cells.set 35 (.string s) = ({ m with out := s } : Mc).cells := Mc.cells_setT 3 _ hl
theorem Mc.setState (hl : m.x.length = 32) (n : Int) : m.cells.set 36 (.int .i64 n) = ({ m with state := n } : Mc).cells := Mc.cells_setT 4 _ hl
theorem Mc.setCode (hl : m.x.length = 32) (n : Int) : m.cells.set 37 (.int .u64 n) = ({ m with code := n } : Mc).cells := Mc.cells_setT 5 _ hl
theorem Mc.setSteps (hl : m.x.length = 32) (n : Int) : m.cells.set 38 (.int .u64 n) = ({ m with steps := n } : Mc).cells := Mc.cells_setT 6 _ hl
theorem Mc.setMem (hl : m.x.length = 32) (a : Option Addr) (c : Nat) (L : List Pg) : m.cells.set 33 (.slice a L.length c) = ({ m with a := a, cap := c, mem := L } : Mc).cells := Mc.cells_setT 1 _ hl
theorem Mc.setReg (hl : m.x.length = 32) {i : Nat} (hi : i < 32) (v : Int) : m.cells.set i (.int .u64 v) = (m.put i v).cells := Mc.cells_set i v hl hi
/-- how each function on a machine begins: its box, its result's box -/
theorem mach_start (m : Mc) (w : World) : ∃ W1 W2, w.alloc (.cells m.cells.toArray 34) = W1 ∧ W1.alloc (.cells #[.int .u64 0, .int .u64 0, .int .u64 0, .int .u64 0, .int .u64 0, .int .u64 0, .int .u64 0, .int .u64 0, .int .u64 0, .int .u64 0, .int .u64 0, .int .u64 0, .int .u64 0, .int .u64 0, .int .u64 0, .int .u64 0, .int .u64 0, .int .u64 0, .int .u64 0, .int .u64 0, .int .u64 0, .int .u64 0, .int .u64 0, .int .u64 0, .int .u64 0, .int .u64 0, .int .u64 0, .int .u64 0, .int .u64 0, .int .u64 0, .int .u64 0, .int .u64 0, .int .u64 0, .slice none 0 0, .string ⟨#[]⟩, .string ⟨#[]⟩, .int .i64 0, .int .u64 0, .int .u64 0] 34) = W2 ∧ W1.heap.size = w.heap.size + 1 ∧ W2.heap.size = w.heap.size + 1 + 1 ∧ MB W2 w.heap.size m ∧ MB W2 (w.heap.size + 1) Mc.zero ∧ Below w.heap.size w W2 := by
  refine ⟨_, _, rfl, rfl, by simp, by simp, (mb_new w m).alloc _, ?_, ((Below.refl _ w).alloc (Nat.le_refl _) _).alloc (by simp) _⟩
  have := mb_new (w.alloc (.cells m.cells.toArray 34)) Mc.zero
  rw [World.size_alloc] at this
  exact this
/-- one more machine's box -/
theorem mach_more (W : World) : ∃ W1, W.alloc (.cells #[.int .u64 0, .int .u64 0, .int .u64 0, .int .u64 0, .int .u64 0, .int .u64 0, .int .u64 0, .int .u64 0, .int .u64 0, .int .u64 0, .int .u64 0, .int .u64 0, .int .u64 0, .int .u64 0, .int .u64 0, .int .u64 0, .int .u64 0, .int .u64 0, .int .u64 0, .int .u64 0, .int .u64 0, .int .u64 0, .int .u64 0, .int .u64 0, .int .u64 0, .int .u64 0, .int .u64 0, .int .u64 0, .int .u64 0, .int .u64 0, .int .u64 0, .int .u64 0, .int .u64 0, .slice none 0 0, .string ⟨#[]⟩, .string ⟨#[]⟩, .int .i64 0, .int .u64 0, .int .u64 0] 34) = W1 ∧ W1.heap.size = W.heap.size + 1 ∧ MB W1 W.heap.size Mc.zero ∧ Below W.heap.size W W1 ∧ ∀ j n, MB W j n → MB W1 j n :=
  ⟨_, rfl, by simp, mb_new W Mc.zero, (Below.refl _ W).alloc (Nat.le_refl _) _, fun j n h => h.alloc _⟩
/-- a cell is set: a new world with a name -/
theorem MB.step (h : MB W k m) {i : Nat} {v : Value} {m' : Mc} (he : m.cells.set i v = m'.cells) : ∃ W', W.setCell ⟨k, i, none⟩ v = W' ∧ MB W' k m' ∧ W'.heap.size = W.heap.size ∧ Below k W W' ∧ ∀ j n, j ≠ k → MB W j n → MB W' j n :=
  ⟨_, rfl, h.setAt i v he, by simp, (Below.refl k W).setCell (p := ⟨k, i, none⟩) (Nat.le_refl k) _, fun j n hj hn => hn.other hj v⟩
/-! ### an instruction in a block -/
def OpD.zero : OpD := ⟨0, 0, 0, 0, 0⟩
def OpD.arr (o : OpD) : Array Value := #[.int .i64 o.kind, .int .i64 o.rd, .int .i64 o.a, .int .i64 o.b, .int .i64 o.imm]
def OB (W : World) (k : Nat) (o : OpD) : Prop := W.heap[k]? = some (.cells #[.int .i64 o.kind, .int .i64 o.rd, .int .i64 o.a, .int .i64 o.b, .int .i64 o.imm] 23 (0, 0))
variable {o : OpD}
theorem op_info : (Tryd.prog.info? 23).map (·.size) = some 5 := by kernel_rfl
theorem OB.lt (h : OB W k o) : k < W.heap.size := (Array.getElem?_eq_some_iff.1 h).1
theorem OB.cells (h : OB W k o) : W.cell? ⟨k, 0, none⟩ = some (.int .i64 o.kind) ∧ W.cell? ⟨k, 1, none⟩ = some (.int .i64 o.rd) ∧ W.cell? ⟨k, 2, none⟩ = some (.int .i64 o.a) ∧ W.cell? ⟨k, 3, none⟩ = some (.int .i64 o.b) ∧ W.cell? ⟨k, 4, none⟩ = some (.int .i64 o.imm) := by
  refine ⟨?_, ?_, ?_, ?_, ?_⟩ <;> (rw [Lib.cell_of_heap h]; rfl)
theorem OB.below {W' : World} {B : Nat} (h : OB W k o) (hb : Below B W W') (hB : k < B) : OB W' k o := (hb.block _ hB).trans h
theorem OB.drew (h : OB W k o) (n : Nat) : OB (W.drewN n) k o := h
theorem OB.other (h : OB W k o) {p : Addr} (hp : k ≠ p.block) (v : Value) : OB (W.setCell p v) k o := by
  unfold OB
  rw [Below.heap_setCell _ _ _ _ hp]; exact h
theorem OB.load (h : OB W k o) : (Go.loadVar 23 ⟨k, 0, none⟩).run Tryd.prog W = .ok (.agg #[.int .i64 o.kind, .int .i64 o.rd, .int .i64 o.a, .int .i64 o.b, .int .i64 o.imm]) W :=
  run_loadVar_mid W k 0 23 [.int .i64 o.kind, .int .i64 o.rd, .int .i64 o.a, .int .i64 o.b, .int .i64 o.imm] _ (fun j v hv => by rw [Nat.zero_add, Lib.cell_of_heap h]; simpa using hv) Tryd.underlying23 rfl (by rw [op_info]; rfl)
theorem OB.lay (h : OB W k o) (o' : OpD) : ∃ W', (Go.storeVar 23 ⟨k, 0, none⟩ (.agg #[.int .i64 o'.kind, .int .i64 o'.rd, .int .i64 o'.a, .int .i64 o'.b, .int .i64 o'.imm])).run Tryd.prog W = .ok () W' ∧ OB W' k o' ∧ W'.heap.size = W.heap.size ∧ Below k W W' ∧ ∀ j n, j ≠ k → MB W j n → MB W' j n := by
  obtain ⟨s1, s2⟩ := setCells_heap k [.int .i64 o'.kind, .int .i64 o'.rd, .int .i64 o'.a, .int .i64 o'.b, .int .i64 o'.imm] 0 W
  refine ⟨_, run_storeVar_mid W k 0 23 #[.int .i64 o'.kind, .int .i64 o'.rd, .int .i64 o'.a, .int .i64 o'.b, .int .i64 o'.imm] (fun j hj => ⟨?_, ?_⟩) (by rw [op_info]; rfl) (by simp [Value.oneCell']), ?_, s1, ?_, fun j n hj hn => (s2 j hj).trans hn⟩
  · rw [Nat.zero_add, Lib.cell_of_heap h, Array.getElem?_eq_getElem (show j < 5 from hj)]; rfl
  · rw [Nat.zero_add]; exact Lib.frozen_of_heap h j
  · exact setCells_row k 23 [.int .i64 o'.kind, .int .i64 o'.rd, .int .i64 o'.a, .int .i64 o'.b, .int .i64 o'.imm] [] [.int .i64 o.kind, .int .i64 o.rd, .int .i64 o.a, .int .i64 o.b, .int .i64 o.imm] W rfl h
  · exact below_setCells (Nat.le_refl k) _ _ W W (Below.refl _ _)
theorem op_new (W : World) : ∃ W1, W.alloc (.cells #[.int .i64 0, .int .i64 0, .int .i64 0, .int .i64 0, .int .i64 0] 23) = W1 ∧ W1.heap.size = W.heap.size + 1 ∧ OB W1 W.heap.size OpD.zero ∧ Below W.heap.size W W1 ∧ ∀ j n, MB W j n → MB W1 j n :=
  ⟨_, rfl, by simp, heap_alloc_new W _, (Below.refl _ W).alloc (Nat.le_refl _) _, fun j n h => h.alloc _⟩
end
end Go.Proofs.YtajhehmkdlebbaaDoor
namespace Go.Proofs.YtajhehmkdlebbaaDoor
open Go.ChangeShapes Go.WideShapes Go.ChangeAt Go.RowKit Go.Deep
set_option maxRecDepth 100000
attribute [-go_sem] loadVar storeVar
theorem trap_any (m : Mc) (w : World) (hl : m.x.length = 32) :
    Calls Tryd.prog 46 #[.agg m.cells.toArray] w fun e w' => e = .returned (.agg m.trap.cells.toArray) ∧ Below w.heap.size w w' := by
  obtain ⟨W1, W2, h1, h2, s1, s2, x1, x2, b2⟩ := mach_start m w
  have c1 := (x1.tail hl).2.2.2.2.1
  have f1 := x1.frz 36
  obtain ⟨W3, h3, x3, s3, b3, o3⟩ := x1.step (m' := m.trap) (Mc.setState hl 2)
  obtain ⟨W4, h4, x5, s4, b4, _⟩ := (o3 _ _ (by omega) x2).lay rfl m.trap hl
  have l3 := x3.loadVar hl
  have l5 := x5.loadVar (m := m.trap) hl
  have hfin := Lib.hid ((b2.trans b3).trans (b4.mono (Nat.le_succ _)))
  clear b2 b3 b4 x1 x2 x3 x5 o3
  go_enter Tryd.func46, Tryd.ntmps46
  go_wp2
  refine bodyPost_ret (v := .agg m.trap.cells.toArray) ?_ rfl ⟨rfl, hfin.out⟩
  simp [results, Tryd.results46, go_sem, l5]
def fewB (m : Mc) : Bool := decide (m.mem.length ≤ 70) && decide (m.reg 0 = 0)
theorem few_any (m : Mc) (w : World) (hl : m.x.length = 32) :
    Calls Tryd.prog 20 #[.agg m.cells.toArray] w fun e w' => e = .returned (.bool (fewB m)) ∧ Below w.heap.size w w' := by
  obtain ⟨W1, h1⟩ : ∃ W1, w.alloc (.cells m.cells.toArray 34) = W1 := ⟨_, rfl⟩
  have x1 : MB W1 w.heap.size m := h1 ▸ mb_new w m
  have hfin := Lib.hid (h1 ▸ (Below.refl _ w).alloc (Nat.le_refl _) _ : Below w.heap.size w W1)
  have c0 := x1.reg hl (i := 0) (by omega)
  have c1 := (x1.tail hl).2.1
  have e0 : m.reg 0 = m.x.getD 0 0 := rfl
  unfold fewB
  rw [e0]
  obtain ⟨v, hv⟩ : ∃ v, v = m.x.getD 0 0 := ⟨_, rfl⟩
  rw [← hv] at c0 ⊢
  clear x1 e0 hv
  by_cases h70 : m.mem.length ≤ 70
  · have k1 : decide ((m.mem.length : Int) ≤ 70) = true := decide_eq_true (by omega)
    by_cases h0 : v = 0
    · have k2 : (v == 0) = true := beq_iff_eq.2 h0
      have hr : (decide (m.mem.length ≤ 70) && decide (v = 0)) = true := by simp [h70, h0]
      rw [hr]
      clear h0 h70 hr
      go_enter Tryd.func20, Tryd.ntmps20
      go_wp2
      go_ret
      exact ⟨rfl, hfin.out⟩
    · have k2 : (v == 0) = false := beq_eq_false_iff_ne.2 h0
      have hr : (decide (m.mem.length ≤ 70) && decide (v = 0)) = false := by simp [h0]
      rw [hr]
      clear h0 h70 hr
      go_enter Tryd.func20, Tryd.ntmps20
      go_wp2
      go_ret
      exact ⟨rfl, hfin.out⟩
  · have k1 : decide ((m.mem.length : Int) ≤ 70) = false := decide_eq_false (by omega)
    have hr : (decide (m.mem.length ≤ 70) && decide (v = 0)) = false := by simp [h70]
    rw [hr]
    clear h70 hr
    go_enter Tryd.func20, Tryd.ntmps20
    go_wp2
    go_ret
    exact ⟨rfl, hfin.out⟩
/-- a register is set -/
theorem set_pos {W : World} {b q : Nat} {m : Mc} (rd : Nat) (v : Int) (hx : MB W b m) (hl : m.x.length = 32) (hc : W.cell? ⟨q, 1, none⟩ = some (.int .i64 rd)) (h0 : 0 < rd) (h1 : rd < 32) :
    Calls Tryd.prog 42 #[.int .u64 v, .pointer (some ⟨q, 0, none⟩), .pointer (some ⟨b, 0, none⟩)] W fun e W' => e = .returned (.tuple #[]) ∧ W' = W.setCell ⟨b, rd, none⟩ (.int .u64 v) := by
  have c1 := hx.reg hl h1
  have f1 := hx.frz rd
  have i0 : (0 : Int) < (rd : Int) := by omega
  have i1 : (rd : Int) < 32 := by omega
  have i2 : (0 : Int) ≤ (rd : Int) := by omega
  clear hx
  go_enter Tryd.func42, Tryd.ntmps42
  go_wp2
  exact bodyPost_end (results_none rfl _ _ _) rfl ⟨rfl, rfl⟩
theorem set_zero {W : World} {b q : Nat} (v : Int) (hc : W.cell? ⟨q, 1, none⟩ = some (.int .i64 0)) :
    Calls Tryd.prog 42 #[.int .u64 v, .pointer (some ⟨q, 0, none⟩), .pointer (some ⟨b, 0, none⟩)] W fun e W' => e = .returned (.tuple #[]) ∧ W' = W := by
  go_enter Tryd.func42, Tryd.ntmps42
  go_wp2
  exact bodyPost_end (results_none rfl _ _ _) rfl ⟨rfl, rfl⟩
set_option maxHeartbeats 1000000 in
theorem calls_any (m : Mc) (w : World) (hm : m.Ok) (ho : m.out.size ≤ 1000000000000000) :
    Calls Tryd.prog 43 #[.agg m.cells.toArray] w fun e w' => e = .returned (.agg m.calls.cells.toArray) ∧ Below w.heap.size w w' := by
  have hl := hm.len
  obtain ⟨W1, W2, h1, h2, s1, s2, x1, x2, b2⟩ := mach_start m w
  have c17 := x1.reg hl (i := 17) (by omega)
  have c10 := x1.reg hl (i := 10) (by omega)
  have f10 := x1.frz 10
  obtain ⟨cp, _, ci, co, cs, cc, _⟩ := x1.tail hl
  have f32 := x1.frz 32
  have f34 := x1.frz 34
  have f35 := x1.frz 35
  have f36 := x1.frz 36
  have f37 := x1.frz 37
  have hi := hm.inp_
  have e17 : m.reg 17 = m.x.getD 17 0 := rfl
  have e10 : m.reg 10 = m.x.getD 10 0 := rfl
  unfold Mc.calls
  rw [e17, e10]
  obtain ⟨v17, h17⟩ : ∃ v, v = m.x.getD 17 0 := ⟨_, rfl⟩
  obtain ⟨v10, h10⟩ : ∃ v, v = m.x.getD 10 0 := ⟨_, rfl⟩
  rw [← h17] at c17 ⊢
  rw [← h10] at c10 ⊢
  clear e17 e10
  have hv10 : U64 v10 := by rw [h10]; exact hm.reg 10
  clear h17 h10
  have g10 : ∀ v, U64 v → (m.put 10 v).x.length = 32 := fun v _ => by rw [Mc.put_len]; exact hl
  by_cases k63 : v17 = 63
  · rw [if_pos k63]
    subst k63
    by_cases k0 : m.inp.size = 0
    · rw [if_pos k0]
      have hin : m.inp = ⟨#[]⟩ := by
        have := m.inp.size
        apply ByteArray.ext
        exact Array.eq_empty_of_size_eq_zero k0
      obtain ⟨W3, h3, x3, s3, b3, o3⟩ := x1.step (m' := m.put 10 256) (Mc.setReg hl (i := 10) (by omega) 256)
      obtain ⟨n4, hn4⟩ : ∃ n4, n4 = ({ m.put 10 256 with pc := m.next } : Mc) := ⟨_, rfl⟩
      rw [← hn4]
      have d3 := x3.tail (g10 256 ⟨by decide, by decide⟩)
      obtain ⟨W4, h4, x4, s4, b4, o4⟩ := x3.step (m' := n4) (hn4 ▸ Mc.setPc (g10 256 ⟨by decide, by decide⟩) m.next)
      have hl4 : n4.x.length = 32 := by rw [hn4]; exact g10 256 ⟨by decide, by decide⟩
      obtain ⟨W5, h5, x5, s5, b5, _⟩ := (o4 _ _ (by omega) (o3 _ _ (by omega) x2)).lay rfl n4 hl4
      have l4 := x4.loadVar hl4
      have l5 := x5.loadVar hl4
      have f3 := x3.frz 32
      obtain ⟨p3, _, i3, _⟩ := d3
      have i3' : W3.cell? ⟨w.heap.size, 34, none⟩ = some (.string ⟨#[]⟩) := by rw [i3, ← hin]; rfl
      have p3' : W3.cell? ⟨w.heap.size, 32, none⟩ = some (.int .u64 m.pc) := p3
      have hfin := Lib.hid (((b2.trans b3).trans b4).trans (b5.mono (Nat.le_succ _)))
      unfold Mc.next at h4
      clear b2 b3 b4 b5 x1 x2 x3 x4 x5 o3 o4 hm p3 i3 hn4 ci hin
      go_enter Tryd.func43, Tryd.ntmps43
      go_wp2
      refine bodyPost_ret (v := .agg n4.cells.toArray) ?_ rfl ⟨rfl, hfin.out⟩
      simp [results, Tryd.results43, go_sem, l5]
    · rw [if_neg k0]
      have hne : (m.inp.toList == []) = false := by
        rw [ByteArray.toList_eq]
        refine beq_eq_false_iff_ne.2 fun hc => k0 ?_
        rw [ba_size, hc]; rfl
      obtain ⟨s6, hs6⟩ : ∃ s6, m.inp.extract 1 m.inp.size = s6 := ⟨_, rfl⟩
      rw [hs6]
      have h0 : 0 < m.inp.size := by omega
      have hb0 := byteI_at h0
      obtain ⟨v, hv⟩ : ∃ v, v = byteI m.inp 0 := ⟨_, rfl⟩
      rw [← hv] at hb0 ⊢
      have hvb : U64 v := hv ▸ u64_byte m.inp 0
      obtain ⟨m3, hm3⟩ : ∃ m3, m3 = m.put 10 256 := ⟨_, rfl⟩
      obtain ⟨m4, hm4⟩ : ∃ m4, m4 = m.put 10 v := ⟨_, rfl⟩
      obtain ⟨m5, hm5⟩ : ∃ m5, m5 = ({ m.put 10 v with inp := s6 } : Mc) := ⟨_, rfl⟩
      obtain ⟨m6, hm6⟩ : ∃ m6, m6 = ({ m.put 10 v with inp := s6, pc := m.next } : Mc) := ⟨_, rfl⟩
      rw [← hm6]
      have g3 : m3.x.length = 32 := by rw [hm3]; exact g10 256 ⟨by decide, by decide⟩
      have g4 : m4.x.length = 32 := by rw [hm4]; exact g10 v hvb
      have g5 : m5.x.length = 32 := by rw [hm5]; exact g10 v hvb
      have g6 : m6.x.length = 32 := by rw [hm6]; exact g10 v hvb
      have e34 : m3.put 10 v = m4 := by rw [hm3, hm4]; unfold Mc.put; simp
      obtain ⟨W3, h3, x3, s3, b3, o3⟩ := x1.step (m' := m3) (hm3 ▸ Mc.setReg hl (i := 10) (by omega) 256)
      obtain ⟨W4, h4, x4, s4, b4, o4⟩ := x3.step (m' := m4) (e34 ▸ Mc.setReg g3 (i := 10) (by omega) v)
      obtain ⟨W5, h5, x5, s5, b5, o5⟩ := x4.step (m' := m5) ((Mc.setInp g4 s6).trans (by rw [hm5, hm4]))
      obtain ⟨W6, h6, x6, s6', b6, o6⟩ := x5.step (m' := m6) ((Mc.setPc g5 m.next).trans (by rw [hm6, hm5]))
      obtain ⟨W7, h7, x7, s7, b7, _⟩ := (o6 _ _ (by omega) (o5 _ _ (by omega) (o4 _ _ (by omega) (o3 _ _ (by omega) x2)))).lay rfl m6 g6
      have l6 := x6.loadVar g6
      have l7 := x7.loadVar g6
      have i3 : W3.cell? ⟨w.heap.size, 34, none⟩ = some (.string m.inp) := by rw [(x3.tail g3).2.2.1, hm3]; rfl
      have i4 : W4.cell? ⟨w.heap.size, 34, none⟩ = some (.string m.inp) := by rw [(x4.tail g4).2.2.1, hm4]; rfl
      have j3 := x3.reg g3 (i := 10) (by omega)
      have p5 : W5.cell? ⟨w.heap.size, 32, none⟩ = some (.int .u64 m.pc) := by rw [(x5.tail g5).1, hm5]; rfl
      have f3 := x3.frz 10
      have f4 := x4.frz 34
      have f5 := x5.frz 32
      have hfin := Lib.hid (((((b2.trans b3).trans b4).trans b5).trans b6).trans (b7.mono (Nat.le_succ _)))
      have hwv : IntKind.u64.wrap v = v := by rw [IntKind.wrap_u64]; have := hvb.1; have := hvb.2; omega
      unfold Mc.next at h6
      clear b2 b3 b4 b5 b6 b7 x1 x2 x3 x4 x5 x6 x7 o3 o4 o5 o6 hm hm3 hm4 hm5 hm6 e34 hv g10 hvb k0
      go_enter Tryd.func43, Tryd.ntmps43
      go_wp2
      refine bodyPost_ret (v := .agg m6.cells.toArray) ?_ rfl ⟨rfl, hfin.out⟩
      simp [results, Tryd.results43, go_sem, l7]
  · rw [if_neg k63]
    by_cases k64 : v17 = 64
    · rw [if_pos k64]
      subst k64
      obtain ⟨c6, hc6⟩ : ∃ c6 : ByteArray, c6 = ⟨#[UInt8.ofNat (v10 % 256).toNat]⟩ := ⟨_, rfl⟩
      have z6 : c6.size = 1 := by rw [hc6]; rfl
      have z7 : (m.out.size : Int) + 1 ≤ 9223372036854775807 := by omega
      obtain ⟨s6, hs6⟩ : ∃ s6, m.out ++ c6 = s6 := ⟨_, rfl⟩
      rw [← hc6, hs6]
      obtain ⟨WA, hA⟩ : ∃ WA, W2.alloc (.cells #[.int .u8 (v10 % 256)] 5) = WA := ⟨_, rfl⟩
      have hconv : (convert 86 9 (.slice (some ⟨w.heap.size + 1 + 1, 0, none⟩) 1 1)).run Tryd.prog WA = .ok (.string c6) WA := by
        have := run_convert_bytes_back (P := Tryd.prog) WA 86 9 5 ⟨w.heap.size + 1 + 1, 0, none⟩ 1 [UInt8.ofNat (v10 % 256).toNat] Tryd.underlying86 Tryd.underlying5 Tryd.underlying9 (fun j hj => by
          have hj0 : j = 0 := by simpa using hj
          subst hj0
          rw [← hA, ← s2, Addr.add_zero', cell_of_row _ _ _ _ _ _ (heap_alloc_new W2 _)]
          show some (Value.int .u8 (v10 % 256)) = some (Value.int .u8 ((UInt8.ofNat (v10 % 256).toNat).toNat : Int))
          rw [byte_val])
        rw [hc6]
        exact this
      have xA : MB WA w.heap.size m := hA ▸ x1.alloc _
      have xA2 : MB WA (w.heap.size + 1) Mc.zero := hA ▸ x2.alloc _
      have bA : Below w.heap.size w WA := hA ▸ b2.alloc (by omega) _
      obtain ⟨qp, _, _, qo, _⟩ := xA.tail hl
      have q35 := xA.frz 35
      obtain ⟨W3, h3, x3, s3, b3, o3⟩ := xA.step (m' := ({ m with out := s6 } : Mc)) (Mc.setOut hl s6)
      obtain ⟨n4, hn4⟩ : ∃ n4, n4 = ({ m with out := s6, pc := m.next } : Mc) := ⟨_, rfl⟩
      rw [← hn4]
      have hl4 : n4.x.length = 32 := by rw [hn4]; exact hl
      obtain ⟨W4, h4, x4, s4, b4, o4⟩ := x3.step (m' := n4) (hn4 ▸ Mc.setPc (m := ({ m with out := s6 } : Mc)) hl m.next)
      obtain ⟨W5, h5, x5, s5, b5, _⟩ := (o4 _ _ (by omega) (o3 _ _ (by omega) xA2)).lay rfl n4 hl4
      have l4 := x4.loadVar hl4
      have l5 := x5.loadVar hl4
      have f3 := x3.frz 32
      have p3 := (x3.tail (m := ({ m with out := s6 } : Mc)) hl).1
      have p3' : W3.cell? ⟨w.heap.size, 32, none⟩ = some (.int .u64 m.pc) := p3
      have hfin := Lib.hid (((bA.trans b3).trans b4).trans (b5.mono (Nat.le_succ _)))
      unfold Mc.next at h4
      clear b2 bA b3 b4 b5 x1 x2 xA xA2 x3 x4 x5 o3 o4 hm p3 hn4 hc6
      go_enter Tryd.func43, Tryd.ntmps43
      go_wp2
      refine bodyPost_ret (v := .agg n4.cells.toArray) ?_ rfl ⟨rfl, hfin.out⟩
      simp [results, Tryd.results43, go_sem, l5]
    · rw [if_neg k64]
      by_cases k93 : v17 = 93
      · rw [if_pos k93]
        subst k93
        obtain ⟨W3, h3, x3, s3, b3, o3⟩ := x1.step (m' := ({ m with state := 1 } : Mc)) (Mc.setState hl 1)
        obtain ⟨n4, hn4⟩ : ∃ n4, n4 = ({ m with state := 1, code := v10 } : Mc) := ⟨_, rfl⟩
        rw [← hn4]
        have hl4 : n4.x.length = 32 := by rw [hn4]; exact hl
        obtain ⟨W4, h4, x4, s4, b4, o4⟩ := x3.step (m' := n4) (hn4 ▸ Mc.setCode (m := ({ m with state := 1 } : Mc)) hl v10)
        obtain ⟨W5, h5, x5, s5, b5, _⟩ := (o4 _ _ (by omega) (o3 _ _ (by omega) x2)).lay rfl n4 hl4
        have l4 := x4.loadVar hl4
        have l5 := x5.loadVar hl4
        have f3 := x3.frz 37
        have p3 := (x3.tail (m := ({ m with state := 1 } : Mc)) hl).2.2.2.2.2.1
        have p3' : W3.cell? ⟨w.heap.size, 37, none⟩ = some (.int .u64 m.code) := p3
        have hfin := Lib.hid (((b2.trans b3).trans b4).trans (b5.mono (Nat.le_succ _)))
        clear b2 b3 b4 b5 x1 x2 x3 x4 x5 o3 o4 hm p3 hn4
        go_enter Tryd.func43, Tryd.ntmps43
        go_wp2
        refine bodyPost_ret (v := .agg n4.cells.toArray) ?_ rfl ⟨rfl, hfin.out⟩
        simp [results, Tryd.results43, go_sem, l5]
      · rw [if_neg k93]
        have q1 : (v17 == 63) = false := neq_kind k63
        have q2 : (v17 == 64) = false := neq_kind k64
        have q3 : (v17 == 93) = false := neq_kind k93
        obtain ⟨W3, h3, x3, s3, b3, o3⟩ := x1.step (m' := m.trap) (Mc.setState hl 2)
        obtain ⟨W5, h5, x5, s5, b5, _⟩ := (o3 _ _ (by omega) x2).lay rfl m.trap hl
        have l4 := x3.loadVar (m := m.trap) hl
        have l5 := x5.loadVar (m := m.trap) hl
        have hfin := Lib.hid ((b2.trans b3).trans (b5.mono (Nat.le_succ _)))
        clear b2 b3 b5 x1 x2 x3 x5 o3 hm k63 k64 k93
        go_enter Tryd.func43, Tryd.ntmps43
        go_wp2
        refine bodyPost_ret (v := .agg m.trap.cells.toArray) ?_ rfl ⟨rfl, hfin.out⟩
        simp [results, Tryd.results43, go_sem, l5]
end Go.Proofs.YtajhehmkdlebbaaDoor
namespace Go.Proofs.YtajhehmkdlebbaaDoor
open Go.ChangeShapes Go.WideShapes Go.ChangeAt Go.RowKit Go.Deep
set_option maxRecDepth 100000
attribute [-go_sem] loadVar storeVar
def OpD.v (o : OpD) : Value := .agg #[.int .i64 o.kind, .int .i64 o.rd, .int .i64 o.a, .int .i64 o.b, .int .i64 o.imm]
theorem takeV_eq (v : Int) : takeV v = ((takeO v).getD OpD.zero).v := by
  unfold takeV takeO
  cases takeK v <;> rfl
theorem takeE_eq (v : Int) : takeE v = if (takeO v).isSome then 0 else 5 := by
  unfold takeE takeO
  cases takeK v <;> rfl
noncomputable def Mc.fetchO (m : Mc) : OpD := m.fetch.getD OpD.zero
theorem u32_wrap_bd (v : Int) : 0 ≤ IntKind.u32.wrap v ∧ IntKind.u32.wrap v < 4294967296 := by rw [IntKind.wrap_u32]; omega
set_option maxHeartbeats 1000000 in
theorem fetch_any (m : Mc) {w : World} (hm : m.Ok) (hT : Tab w) (hM : Mem w w.heap.size m.a m.cap m.mem) :
    Calls Tryd.prog 41 #[.agg m.cells.toArray] w fun e w' => e = .returned (.tuple #[m.fetchO.v, .bool m.fetch.isSome]) ∧ Below w.heap.size w w' := by
  have hl := hm.len
  obtain ⟨W1, h1⟩ : ∃ W1, w.alloc (.cells m.cells.toArray 34) = W1 := ⟨_, rfl⟩
  have s1 : W1.heap.size = w.heap.size + 1 := by subst h1; simp
  have x1 : MB W1 w.heap.size m := by subst h1; exact mb_new w m
  have b1 : Below w.heap.size w W1 := by subst h1; exact (Below.refl _ w).alloc (Nat.le_refl _) _
  obtain ⟨W2, h2, s2, r2, b2, o2⟩ := op_new W1
  rw [s1] at r2 s2 b2
  have x2 := o2 _ _ x1
  have b2 := b1.trans (b2.mono (Nat.le_succ _))
  have hM2 := Lib.hid (Sl.In.below hM b2)
  have hT2 := hT.below b2 hT.size
  have hT0 := hT.size
  obtain ⟨cp, cm, _⟩ := x2.tail hl
  have hpc := hm.pc_
  unfold U64 at hpc
  obtain ⟨hp0, hp1⟩ := hpc
  have HT2 := Lib.hid hT2
  have HWF := Lib.hid hm.wf
  have hsm := hm.small
  have HB2 := Lib.hid b2
  unfold Mc.fetchO
  obtain ⟨F, hF⟩ : ∃ F, m.fetch = F := ⟨_, rfl⟩
  rw [hF]
  unfold Mc.fetch at hF
  clear hT hM hT2 b1 b2 x1 x2 o2 hm
  by_cases h4 : m.pc % 4 = 0
  · rw [if_pos h4] at hF
    have q4 : (m.pc % 4 == 0) = true := beq_iff_eq.2 h4
    obtain ⟨E, hE⟩ : ∃ E, loadE m.mem m.pc 4 1 = E := ⟨_, rfl⟩
    obtain ⟨V, hV⟩ : ∃ V, loadV m.mem m.pc 4 1 = V := ⟨_, rfl⟩
    rw [hE, hV] at hF
    have HE := Lib.hid hE
    have HV := Lib.hid hV
    have HR2 := Lib.hid r2
    have HF := Lib.hid hF
    clear hE hV r2 hF
    go_enter Tryd.func41, Tryd.ntmps41
    go_wp2_with fail
    refine (load_any m.pc 4 1 hM2.out (by omega) HWF.out hsm).mono ?_
    rintro e w3 ⟨rfl, hb3⟩
    rw [HE.out, HV.out]
    have hz3 := hb3.size
    rw [s2] at hz3
    have hR3 := HR2.out.below hb3 (by omega)
    have HB3 := Lib.hid (HB2.out.trans (hb3.mono (by omega)))
    have HT3 := Lib.hid (HT2.out.below hb3 (by omega))
    by_cases hE0 : E = 0
    · have hF := HF.out
      rw [if_pos hE0] at hF
      have qe : (E == 0) = true := beq_iff_eq.2 hE0
      have HR3 := Lib.hid hR3
      clear hR3 hb3
      go_wp2_with fail
      refine (take_any _ HT3.out (u32_wrap_bd V)).mono ?_
      rintro e w4 ⟨rfl, hb4⟩
      rw [takeV_eq, takeE_eq]
      have hz4 := hb4.size
      have hR4 := HR3.out.below hb4 (by omega)
      have HB4 := Lib.hid (HB3.out.trans (hb4.mono (by omega)))
      obtain ⟨oo, hoo⟩ : ∃ oo, takeO (IntKind.u32.wrap V) = oo := ⟨_, rfl⟩
      rw [hoo] at hF ⊢
      subst hF
      clear HF
      obtain ⟨W5, h5, s5, r5, b5, _⟩ := op_new w4
      have hR5 := hR4.below b5 (by omega)
      obtain ⟨o, ho⟩ : ∃ o, oo.getD OpD.zero = o := ⟨_, rfl⟩
      obtain ⟨W6, h6, r6, s6, b6, _⟩ := r5.lay o
      have hR6 := hR5.below b6 (by omega)
      have l6 := r6.load
      obtain ⟨W7, h7, r7, s7, b7, _⟩ := hR6.lay o
      have l7 := r7.load
      have hfin := Lib.hid ((((HB4.out.trans (b5.mono (by omega))).trans (b6.mono (by omega)))).trans (b7.mono (by omega)))
      unfold OpD.v
      rw [ho]
      cases oo with
      | none =>
        clear hb4 b5 b6 b7 hR4 hR5 hR6 r5 r6 r7
        go_wp2
        refine bodyPost_ret (v := .tuple #[.agg #[.int .i64 o.kind, .int .i64 o.rd, .int .i64 o.a, .int .i64 o.b, .int .i64 o.imm], .bool false]) ?_ rfl ⟨by rw [ho]; rfl, hfin.out⟩
        simp [results, Tryd.results41, go_sem, l7]
      | some o' =>
        clear hb4 b5 b6 b7 hR4 hR5 hR6 r5 r6 r7
        go_wp2
        refine bodyPost_ret (v := .tuple #[.agg #[.int .i64 o.kind, .int .i64 o.rd, .int .i64 o.a, .int .i64 o.b, .int .i64 o.imm], .bool true]) ?_ rfl ⟨by rw [ho]; rfl, hfin.out⟩
        simp [results, Tryd.results41, go_sem, l7]
    · have hF := HF.out
      rw [if_neg hE0] at hF
      subst hF
      have qe : (E == 0) = false := beq_eq_false_iff_ne.2 hE0
      obtain ⟨W4, h4', r4, s4, b4, _⟩ := hR3.lay OpD.zero
      have l4 := r4.load
      have hfin := Lib.hid (HB3.out.trans (b4.mono (by omega)))
      unfold OpD.zero at h4' l4
      clear hR3 r4 b4
      go_wp2
      refine bodyPost_ret (v := .tuple #[.agg #[.int .i64 0, .int .i64 0, .int .i64 0, .int .i64 0, .int .i64 0], .bool false]) ?_ rfl ⟨rfl, hfin.out⟩
      simp [results, Tryd.results41, go_sem, l4]
  · rw [if_neg h4] at hF
    subst hF
    have q4 : (m.pc % 4 == 0) = false := beq_eq_false_iff_ne.2 h4
    obtain ⟨W4, h4', r4, s4, b4, _⟩ := r2.lay OpD.zero
    have l4 := r4.load
    have hfin := Lib.hid (HB2.out.trans (b4.mono (by omega)))
    unfold OpD.zero at h4' l4
    clear r2 r4 b4
    go_enter Tryd.func41, Tryd.ntmps41
    go_wp2
    refine bodyPost_ret (v := .tuple #[.agg #[.int .i64 0, .int .i64 0, .int .i64 0, .int .i64 0, .int .i64 0], .bool false]) ?_ rfl ⟨rfl, hfin.out⟩
    simp [results, Tryd.results41, go_sem, l4]
end Go.Proofs.YtajhehmkdlebbaaDoor
