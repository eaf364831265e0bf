/- Machines in boxes (for a seat without enc: cut out of RvPl, RvBox, RvSame). -/
import Derived.Test.YtajhehmkdlebbaaDoorQPgSame
import Derived.Test.YtajhehmkdlebbaaDoorQPgLaw
import Derived.Deep.MidRow
import Derived.Lib.Builder
namespace Go.Proofs.YtajhehmkdlebbaaDoor
open Go.ChangeShapes Go.WideShapes Go.ChangeAt Go.RowKit Go.Deep
set_option maxRecDepth 100000
/-- a number of 64 bits -/
def U64 (n : Int) : Prop := 0 ≤ n ∧ n ≤ 18446744073709551615
theorem U64.wrap (n : Int) : U64 (IntKind.u64.wrap n) := by unfold U64; rw [IntKind.wrap_u64]; omega
/-- the machine, its memory's place with it -/
structure Mc where
  x : List Int
  pc : Int
  a : Option Addr
  cap : Nat
  mem : List Pg
  inp : ByteArray
  out : ByteArray
  state : Int
  code : Int
  steps : Int
def Mc.tail (m : Mc) : List Value := [.int .u64 m.pc, .slice m.a m.mem.length m.cap, .string m.inp, .string m.out, .int .i64 m.state, .int .u64 m.code, .int .u64 m.steps]
def Mc.cells (m : Mc) : List Value := m.x.map (Value.int .u64) ++ m.tail
def Mc.v (m : Mc) : Value := .agg m.cells.toArray
structure Mc.Ok (m : Mc) : Prop where
  len : m.x.length = 32
  xs : ∀ v ∈ m.x, U64 v
  pc_ : U64 m.pc
  inp_ : m.inp.size ≤ 140737488351232
  st : -9223372036854775808 ≤ m.state ∧ m.state ≤ 9223372036854775807
  code_ : U64 m.code
  steps_ : U64 m.steps
  wf : ∀ p ∈ m.mem, p.ok
  small : m.mem.length ≤ 140737488351232
/-- .. elsewhere -/
def Mc.home (m : Mc) (A : Option Addr) (c : Nat) : Mc := { m with a := A, cap := c }
theorem Mc.Ok.home {m : Mc} {A : Option Addr} {c : Nat} (h : m.Ok) : (m.home A c).Ok := ⟨h.len, h.xs, h.pc_, h.inp_, h.st, h.code_, h.steps_, h.wf, h.small⟩
section
variable {W w : World} {k : Nat} {m : Mc}
theorem Mc.cells_len (h : m.x.length = 32) : m.cells.length = 39 := by simp [Mc.cells, Mc.tail, h]
theorem Mc.cells_reg (h : m.x.length = 32) {i : Nat} (hi : i < 32) : m.cells[i]? = some (.int .u64 (m.x.getD i 0)) := by
  unfold Mc.cells
  rw [List.getElem?_append_left (by simp; omega), List.getElem?_map, List.getElem?_eq_getElem (by omega), List.getD_eq_getElem?_getD, List.getElem?_eq_getElem (by omega)]
  rfl
theorem Mc.cells_tail (h : m.x.length = 32) (j : Nat) : m.cells[32 + j]? = m.tail[j]? := by
  unfold Mc.cells
  rw [List.getElem?_append_right (by simp; omega)]
  congr 1
  simp; omega
theorem Mc.cells_one : ∀ u ∈ m.cells, u.oneCell' = true := by
  intro u hu
  unfold Mc.cells Mc.tail at hu
  rw [List.mem_append, List.mem_map] at hu
  rcases hu with ⟨_, _, rfl⟩ | hu
  · rfl
  · simp only [List.mem_cons, List.not_mem_nil, or_false] at hu
    rcases hu with rfl | rfl | rfl | rfl | rfl | rfl | rfl <;> rfl
theorem Mc.cells_set (i : Nat) (v : Int) (hl : m.x.length = 32) (hi : i < 32) : m.cells.set i (.int .u64 v) = ({ m with x := m.x.set i v } : Mc).cells := by
  unfold Mc.cells
  rw [List.set_append_left _ _ (by simp; omega), List.map_set]
  rfl
theorem Mc.cells_setT (j : Nat) (v : Value) (hl : m.x.length = 32) : m.cells.set (32 + j) v = m.x.map (Value.int .u64) ++ m.tail.set j v := by
  unfold Mc.cells
  rw [List.set_append_right _ _ (by simp; omega)]
  simp [hl]
/-! ### loads and stores: of machines by the laws below, of all else as the walk has them -/
@[go_sem] theorem lv0 (a : Addr) : Go.loadVar 24 a = (do if ← isAgg 24 then pure (.agg (← loadCells a (← sizeOf 24))) else load a) := rfl
@[go_sem] theorem sv0 (a : Addr) (v : Value) : Go.storeVar 24 a v = (do
  if v.cells.size ≠ (← sizeOf 24) then stuck "storeVar: the value has not the size of the variable"
  storeCells a v.cells.toList) := rfl
@[go_sem] theorem lv1 (a : Addr) : Go.loadVar 3 a = (do if ← isAgg 3 then pure (.agg (← loadCells a (← sizeOf 3))) else load a) := rfl
@[go_sem] theorem sv1 (a : Addr) (v : Value) : Go.storeVar 3 a v = (do
  if v.cells.size ≠ (← sizeOf 3) then stuck "storeVar: the value has not the size of the variable"
  storeCells a v.cells.toList) := rfl
@[go_sem] theorem lv2 (a : Addr) : Go.loadVar 2 a = (do if ← isAgg 2 then pure (.agg (← loadCells a (← sizeOf 2))) else load a) := rfl
@[go_sem] theorem sv2 (a : Addr) (v : Value) : Go.storeVar 2 a v = (do
  if v.cells.size ≠ (← sizeOf 2) then stuck "storeVar: the value has not the size of the variable"
  storeCells a v.cells.toList) := rfl
@[go_sem] theorem lv3 (a : Addr) : Go.loadVar 9 a = (do if ← isAgg 9 then pure (.agg (← loadCells a (← sizeOf 9))) else load a) := rfl
@[go_sem] theorem sv3 (a : Addr) (v : Value) : Go.storeVar 9 a v = (do
  if v.cells.size ≠ (← sizeOf 9) then stuck "storeVar: the value has not the size of the variable"
  storeCells a v.cells.toList) := rfl
@[go_sem] theorem lv4 (a : Addr) : Go.loadVar 32 a = (do if ← isAgg 32 then pure (.agg (← loadCells a (← sizeOf 32))) else load a) := rfl
@[go_sem] theorem sv4 (a : Addr) (v : Value) : Go.storeVar 32 a v = (do
  if v.cells.size ≠ (← sizeOf 32) then stuck "storeVar: the value has not the size of the variable"
  storeCells a v.cells.toList) := rfl
@[go_sem] theorem lv6 (a : Addr) : Go.loadVar 4 a = (do if ← isAgg 4 then pure (.agg (← loadCells a (← sizeOf 4))) else load a) := rfl
@[go_sem] theorem sv6 (a : Addr) (v : Value) : Go.storeVar 4 a v = (do
  if v.cells.size ≠ (← sizeOf 4) then stuck "storeVar: the value has not the size of the variable"
  storeCells a v.cells.toList) := rfl
/-- a machine in a block -/
def MB (W : World) (k : Nat) (m : Mc) : Prop := W.heap[k]? = some (.cells m.cells.toArray 34 (0, 0))
theorem MB.lt (h : MB W k m) : k < W.heap.size := (Array.getElem?_eq_some_iff.1 h).1
theorem MB.cell (h : MB W k m) (i : Nat) : W.cell? ⟨k, i, none⟩ = m.cells[i]? := by rw [Lib.cell_of_heap h]; simp
theorem MB.frz (h : MB W k m) (i : Nat) : W.frozen? ⟨k, i, none⟩ = false := Lib.frozen_of_heap h i
theorem MB.reg (h : MB W k m) (hl : m.x.length = 32) {i : Nat} (hi : i < 32) : W.cell? ⟨k, i, none⟩ = some (.int .u64 (m.x.getD i 0)) := by rw [h.cell, Mc.cells_reg hl hi]
theorem MB.tail (h : MB W k m) (hl : m.x.length = 32) : W.cell? ⟨k, 32, none⟩ = some (.int .u64 m.pc) ∧ W.cell? ⟨k, 33, none⟩ = some (.slice m.a m.mem.length m.cap) ∧ W.cell? ⟨k, 34, none⟩ = some (.string m.inp) ∧ W.cell? ⟨k, 35, none⟩ = some (.string m.out) ∧ W.cell? ⟨k, 36, none⟩ = some (.int .i64 m.state) ∧ W.cell? ⟨k, 37, none⟩ = some (.int .u64 m.code) ∧ W.cell? ⟨k, 38, none⟩ = some (.int .u64 m.steps) := by
  refine ⟨?_, ?_, ?_, ?_, ?_, ?_, ?_⟩
  · rw [h.cell, Mc.cells_tail hl 0]; rfl
  · rw [h.cell, Mc.cells_tail hl 1]; rfl
  · rw [h.cell, Mc.cells_tail hl 2]; rfl
  · rw [h.cell, Mc.cells_tail hl 3]; rfl
  · rw [h.cell, Mc.cells_tail hl 4]; rfl
  · rw [h.cell, Mc.cells_tail hl 5]; rfl
  · rw [h.cell, Mc.cells_tail hl 6]; rfl
theorem mach_info : (Tryd.prog.info? 34).map (·.size) = some 39 := by kernel_rfl
theorem MB.load (h : MB W k m) (hl : m.x.length = 32) : (Instr.loadAt 34 (.pointer (some ⟨k, 0, none⟩))).run Tryd.prog W = .ok (.agg m.cells.toArray) W :=
  run_loadAt_mid W k 0 34 m.cells _ (fun j v hv => by rw [Nat.zero_add, h.cell, hv]) Tryd.underlying34 rfl (by rw [mach_info, Mc.cells_len hl])
theorem MB.loadVar (h : MB W k m) (hl : m.x.length = 32) : (Go.loadVar 34 ⟨k, 0, none⟩).run Tryd.prog W = .ok (.agg m.cells.toArray) W :=
  run_loadVar_mid W k 0 34 m.cells _ (fun j v hv => by rw [Nat.zero_add, h.cell, hv]) Tryd.underlying34 rfl (by rw [mach_info, Mc.cells_len hl])
/-- a machine of noughts -/
def Mc.zero : Mc := ⟨List.replicate 32 0, 0, none, 0, [], ⟨#[]⟩, ⟨#[]⟩, 0, 0, 0⟩
def zeroA : Array Value := #[.int .u64 0, .int .u64 0, .int .u64 0, .int .u64 0, .int .u64 0, .int .u64 0, .int .u64 0, .int .u64 0, .int .u64 0, .int .u64 0, .int .u64 0, .int .u64 0, .int .u64 0, .int .u64 0, .int .u64 0, .int .u64 0, .int .u64 0, .int .u64 0, .int .u64 0, .int .u64 0, .int .u64 0, .int .u64 0, .int .u64 0, .int .u64 0, .int .u64 0, .int .u64 0, .int .u64 0, .int .u64 0, .int .u64 0, .int .u64 0, .int .u64 0, .int .u64 0, .int .u64 0, .slice none 0 0, .string ⟨#[]⟩, .string ⟨#[]⟩, .int .i64 0, .int .u64 0, .int .u64 0]
theorem zero_cells : Mc.zero.cells.toArray = zeroA := rfl
theorem mb_new (W : World) (m : Mc) : MB (W.alloc (.cells m.cells.toArray 34)) W.heap.size m := heap_alloc_new W _
theorem MB.alloc (h : MB W k m) (o : Obj) : MB (W.alloc o) k m := (Lib.alloc_old W o _ h.lt).trans h
theorem MB.below {W' : World} {B : Nat} (h : MB W k m) (hb : Below B W W') (hB : k < B) : MB W' k m := (hb.block _ hB).trans h
theorem MB.drew (h : MB W k m) (n : Nat) : MB (W.drewN n) k m := h
theorem MB.other (h : MB W k m) {p : Addr} (hp : k ≠ p.block) (v : Value) : MB (W.setCell p v) k m := by
  unfold MB
  rw [Below.heap_setCell _ _ _ _ hp]; exact h
theorem MB.setAt (h : MB W k m) (i : Nat) (v : Value) {m' : Mc} (he : m.cells.set i v = m'.cells) : MB (W.setCell ⟨k, i, none⟩ v) k m' := by
  unfold MB at h ⊢
  simp only [World.setCell, Array.getElem?_modify, if_true, h, Option.map_some]
  rw [← he]
  simp
theorem setCells_heap (b : Nat) : ∀ (vs : List Value) (o : Nat) (W : World), (W.setCells b o vs).heap.size = W.heap.size ∧ ∀ j, j ≠ b → (W.setCells b o vs).heap[j]? = W.heap[j]?
  | [], _, _ => ⟨rfl, fun _ _ => rfl⟩
  | v :: r, o, W => by
    obtain ⟨h1, h2⟩ := setCells_heap b r (o + 1) (W.setCell ⟨b, o, none⟩ v)
    refine ⟨?_, fun j hj => ?_⟩
    · rw [World.setCells, h1, World.size_setCell]
    · rw [World.setCells, h2 j hj, Below.heap_setCell _ _ _ _ hj]
theorem setCells_row (b : Nat) (t : TypeId) : ∀ (vs : List Value) (A C : List Value) (W : World), C.length = vs.length → W.heap[b]? = some (.cells (A ++ C).toArray t (0, 0)) → (W.setCells b A.length vs).heap[b]? = some (.cells (A ++ vs).toArray t (0, 0))
  | [], A, C, W, hl, h => by
    obtain rfl := List.eq_nil_of_length_eq_zero hl
    exact h
  | v :: r, A, [], W, hl, h => by simp at hl
  | v :: r, A, c :: C, W, hl, h => by
    rw [World.setCells]
    have := setCells_row b t r (A ++ [v]) C (W.setCell ⟨b, A.length, none⟩ v) (by simpa using hl) (by
      simp only [World.setCell, Array.getElem?_modify, if_true, h, Option.map_some]
      simp)
    simpa using this
theorem below_setCells {B b : Nat} (hb : B ≤ b) : ∀ (vs : List Value) (o : Nat) (W0 W : World), Below B W0 W → Below B W0 (W.setCells b o vs)
  | [], _, _, _, h => h
  | v :: r, o, W0, W, h => by rw [World.setCells]; exact below_setCells hb r (o + 1) W0 _ (h.setCell hb v)
/-- a whole machine is laid into a block -/
theorem MB.lay (h : MB W k m) (hl : m.x.length = 32) (m' : Mc) (hl' : m'.x.length = 32) : ∃ W', (Go.storeVar 34 ⟨k, 0, none⟩ (.agg m'.cells.toArray)).run Tryd.prog W = .ok () W' ∧ MB W' k m' ∧ W'.heap.size = W.heap.size ∧ Below k W W' ∧ ∀ j n, j ≠ k → MB W j n → MB W' j n := by
  have hc := Mc.cells_len hl
  have hc' := Mc.cells_len hl'
  have hz : m'.cells.toArray.size = 39 := by simp [hc']
  obtain ⟨s1, s2⟩ := setCells_heap k m'.cells 0 W
  refine ⟨_, run_storeVar_mid W k 0 34 m'.cells.toArray (fun j hj => ⟨?_, ?_⟩) (by rw [mach_info, hz]) (all_oneCell_toArray Mc.cells_one), ?_, s1, ?_, fun j n hj hn => (s2 j hj).trans hn⟩
  · rw [Nat.zero_add, h.cell, List.getElem?_eq_getElem (by omega)]; rfl
  · rw [Nat.zero_add]; exact h.frz j
  · exact setCells_row k 34 m'.cells [] m.cells W (by omega) h
  · exact below_setCells (Nat.le_refl k) _ _ W W (Below.refl _ _)
/-- how each function on a machine begins: its box, its result's box -/
theorem mach_start (m : Mc) (w : World) : ∃ W1 W2, w.alloc (.cells m.cells.toArray 34) = W1 ∧ W1.alloc (.cells #[.int .u64 0, .int .u64 0, .int .u64 0, .int .u64 0, .int .u64 0, .int .u64 0, .int .u64 0, .int .u64 0, .int .u64 0, .int .u64 0, .int .u64 0, .int .u64 0, .int .u64 0, .int .u64 0, .int .u64 0, .int .u64 0, .int .u64 0, .int .u64 0, .int .u64 0, .int .u64 0, .int .u64 0, .int .u64 0, .int .u64 0, .int .u64 0, .int .u64 0, .int .u64 0, .int .u64 0, .int .u64 0, .int .u64 0, .int .u64 0, .int .u64 0, .int .u64 0, .int .u64 0, .slice none 0 0, .string ⟨#[]⟩, .string ⟨#[]⟩, .int .i64 0, .int .u64 0, .int .u64 0] 34) = W2 ∧ W1.heap.size = w.heap.size + 1 ∧ W2.heap.size = w.heap.size + 1 + 1 ∧ MB W2 w.heap.size m ∧ MB W2 (w.heap.size + 1) Mc.zero ∧ Below w.heap.size w W2 := by
  refine ⟨_, _, rfl, rfl, by simp, by simp, (mb_new w m).alloc _, ?_, ((Below.refl _ w).alloc (Nat.le_refl _) _).alloc (by simp) _⟩
  have := mb_new (w.alloc (.cells m.cells.toArray 34)) Mc.zero
  rw [World.size_alloc] at this
  exact this
/-- one more machine's box -/
theorem mach_more (W : World) : ∃ W1, W.alloc (.cells #[.int .u64 0, .int .u64 0, .int .u64 0, .int .u64 0, .int .u64 0, .int .u64 0, .int .u64 0, .int .u64 0, .int .u64 0, .int .u64 0, .int .u64 0, .int .u64 0, .int .u64 0, .int .u64 0, .int .u64 0, .int .u64 0, .int .u64 0, .int .u64 0, .int .u64 0, .int .u64 0, .int .u64 0, .int .u64 0, .int .u64 0, .int .u64 0, .int .u64 0, .int .u64 0, .int .u64 0, .int .u64 0, .int .u64 0, .int .u64 0, .int .u64 0, .int .u64 0, .int .u64 0, .slice none 0 0, .string ⟨#[]⟩, .string ⟨#[]⟩, .int .i64 0, .int .u64 0, .int .u64 0] 34) = W1 ∧ W1.heap.size = W.heap.size + 1 ∧ MB W1 W.heap.size Mc.zero ∧ Below W.heap.size W W1 ∧ ∀ j n, MB W j n → MB W1 j n :=
  ⟨_, rfl, by simp, mb_new W Mc.zero, (Below.refl _ W).alloc (Nat.le_refl _) _, fun j n h => h.alloc _⟩
theorem Mc.setPc (hl : m.x.length = 32) (p : Int) : m.cells.set 32 (.int .u64 p) = ({ m with pc := p } : Mc).cells := Mc.cells_setT 0 _ hl
theorem Mc.setInp (hl : m.x.length = 32) (s : ByteArray) : m.cells.set 34 (.string s) = ({ m with inp := s } : Mc).cells := Mc.cells_setT 2 _ hl
theorem Mc.setOut (hl : m.x.length = 32) (s : ByteArray) : m.cells.set 35 (.string s) = ({ m with out := s } : Mc).cells := Mc.cells_setT 3 _ hl
theorem Mc.setState (hl : m.x.length = 32) (n : Int) : m.cells.set 36 (.int .i64 n) = ({ m with state := n } : Mc).cells := Mc.cells_setT 4 _ hl
theorem Mc.setCode (hl : m.x.length = 32) (n : Int) : m.cells.set 37 (.int .u64 n) = ({ m with code := n } : Mc).cells := Mc.cells_setT 5 _ hl
theorem Mc.setSteps (hl : m.x.length = 32) (n : Int) : m.cells.set 38 (.int .u64 n) = ({ m with steps := n } : Mc).cells := Mc.cells_setT 6 _ hl
theorem Mc.setMem (hl : m.x.length = 32) (a : Option Addr) (c : Nat) (L : List Pg) : m.cells.set 33 (.slice a L.length c) = ({ m with a := a, cap := c, mem := L } : Mc).cells := Mc.cells_setT 1 _ hl
/-- a cell is set: a new world with a name -/
theorem MB.step (h : MB W k m) {i : Nat} {v : Value} {m' : Mc} (he : m.cells.set i v = m'.cells) : ∃ W', W.setCell ⟨k, i, none⟩ v = W' ∧ MB W' k m' ∧ W'.heap.size = W.heap.size ∧ Below k W W' ∧ ∀ j n, j ≠ k → MB W j n → MB W' j n :=
  ⟨_, rfl, h.setAt i v he, by simp, (Below.refl k W).setCell (p := ⟨k, i, none⟩) (Nat.le_refl k) _, fun j n hj hn => hn.other hj v⟩
end
attribute [-go_sem] loadVar storeVar
section
variable {W : World} {k : Nat} {m : Mc}
theorem regs_info : (Tryd.prog.info? 31).map (·.size) = some 32 := by kernel_rfl
theorem MB.regs (h : MB W k m) (hl : m.x.length = 32) : (Go.loadVar 31 ⟨k, 0, none⟩).run Tryd.prog W = .ok (.agg (m.x.map (Value.int .u64)).toArray) W :=
  run_loadVar_mid W k 0 31 (m.x.map (Value.int .u64)) _ (fun j v hv => by
    have hj : j < 32 := by have := (List.getElem?_eq_some_iff.1 hv).1; simpa [hl] using this
    rw [Nat.zero_add, h.cell]
    unfold Mc.cells
    rw [List.getElem?_append_left (by simpa [hl] using hj), hv]) Tryd.underlying31 rfl (by rw [regs_info]; simp [hl])
theorem eql_regs (w : World) (x : List Int) (hx : x.length = 32) :
    (Op.equalIn 10000 31 (.agg (x.map (Value.int .u64)).toArray) (.agg (x.map (Value.int .u64)).toArray)).run Tryd.prog w = .ok true w := by
  have ht := Tryd.underlying31
  have he := Tryd.underlying24
  have hsz : ∀ w, (sizeOf 24).run Tryd.prog w = .ok 1 w := fun w => by simp
  rw [show (10000 : Nat) = 9998 + 2 from rfl, Op.equalIn]
  simp only [Sem.run_bind, run_underlying ht, Result.andThen_ok, hsz, Std.Legacy.Range.forIn_eq_forIn_range', Std.Legacy.Range.size, Nat.sub_zero, Nat.add_sub_cancel, Nat.div_one]
  have hl : ∀ i ∈ List.range' 0 32 1, i < 32 := fun i hi => by simpa using (List.mem_range'_1.1 hi).2
  generalize List.range' 0 32 1 = l at hl ⊢
  induction l with
  | nil => simp
  | cons i l ih =>
    have hi : i < 32 := hl i (by simp)
    have px : (part 24 (x.map (Value.int .u64)).toArray (i * 1)).run Tryd.prog w = .ok (.int .u64 (x.getD i 0)) w := by
      simp [part, isAgg, run_underlying he, List.getD, List.getElem?_eq_getElem (show i < x.length by omega)]
    have pe : (Op.equalIn (9998 + 1) 24 (.int .u64 (x.getD i 0)) (.int .u64 (x.getD i 0))).run Tryd.prog w = .ok true w := by
      rw [run_equalIn_int w 9998 24 .u64 .u64 _ _ he]
      simp
    simp only [List.forIn_cons, Sem.run_bind, px, pe, Result.andThen_ok]
    simp only [Bool.not_true, Bool.false_eq_true, if_false, Sem.run_pure, Result.andThen_ok]
    exact ih fun j hj => hl j (by simp [hj])
end
set_option maxHeartbeats 1000000 in
theorem msame_any (m : Mc) (A : Option Addr) (c : Nat) {w : World} (hm : m.Ok) (hM : Mem w w.heap.size m.a m.cap m.mem) (hM' : Mem w w.heap.size A c m.mem) :
    Calls Tryd.prog 21 #[.agg m.cells.toArray, .agg (m.home A c).cells.toArray] w fun e w' => e = .returned (.bool true) ∧ Below w.heap.size w w' := by
  have hl := hm.len
  obtain ⟨n, hn⟩ : ∃ n, n = m.home A c := ⟨_, rfl⟩
  rw [← hn]
  have hln : n.x.length = 32 := by rw [hn]; exact hl
  obtain ⟨W1, h1⟩ : ∃ W1, w.alloc (.cells m.cells.toArray 34) = W1 := ⟨_, rfl⟩
  obtain ⟨W2, h2⟩ : ∃ W2, W1.alloc (.cells n.cells.toArray 34) = W2 := ⟨_, rfl⟩
  have s1 : W1.heap.size = w.heap.size + 1 := by subst h1; simp
  have s2 : W2.heap.size = w.heap.size + 1 + 1 := by subst h2; simp [s1]
  have x1 : MB W2 w.heap.size m := by subst h2 h1; exact (mb_new w m).alloc _
  have x2 : MB W2 (w.heap.size + 1) n := by have := mb_new W1 n; rw [s1, h2] at this; exact this
  have b2 : Below w.heap.size w W2 := by subst h2 h1; exact ((Below.refl _ w).alloc (Nat.le_refl _) _).alloc (by simp) _
  have HM := Lib.hid (Sl.In.below hM b2)
  have HM' := Lib.hid (Sl.In.below hM' b2)
  have q1 := (x1.tail hl).2.1
  have q2 : W2.cell? ⟨w.heap.size + 1, 33, none⟩ = some (.slice A m.mem.length c) := by rw [(x2.tail hln).2.1, hn]; rfl
  have HX := Lib.hid x1
  have HXN := Lib.hid x2
  have HB := Lib.hid b2
  have HN := Lib.hid hn
  have hsm := hm.small
  have hmem : sameB m.mem m.mem = true := decide_eq_true rfl
  clear x1 x2 b2 hM hM' hn hm
  go_enter Tryd.func21, Tryd.ntmps21
  go_wp2_with fail
  refine (rsame_any HM.out HM'.out (by omega) (by omega) hsm).mono ?_
  rintro e w3 ⟨rfl, hb3⟩
  rw [hmem]
  have y1 := HX.out.below hb3 (by omega)
  have y2 := HXN.out.below hb3 (by omega)
  have r1 := y1.regs hl
  have r2 := y2.regs hln
  obtain ⟨c0, c1, c2, c3, c4, c5, c6⟩ := y1.tail hl
  obtain ⟨d0, d1, d2, d3, d4, d5, d6⟩ := y2.tail hln
  have ex := HN.out
  rw [ex] at r2 d0 d2 d3 d4 d5 d6
  have r2' : (Go.loadVar 31 ⟨w.heap.size + 1, 0, none⟩).run Tryd.prog w3 = .ok (.agg (m.x.map (Value.int .u64)).toArray) w3 := r2
  have d0' : w3.cell? ⟨w.heap.size + 1, 32, none⟩ = some (.int .u64 m.pc) := d0
  have d2' : w3.cell? ⟨w.heap.size + 1, 34, none⟩ = some (.string m.inp) := d2
  have d3' : w3.cell? ⟨w.heap.size + 1, 35, none⟩ = some (.string m.out) := d3
  have d4' : w3.cell? ⟨w.heap.size + 1, 36, none⟩ = some (.int .i64 m.state) := d4
  have d5' : w3.cell? ⟨w.heap.size + 1, 37, none⟩ = some (.int .u64 m.code) := d5
  have d6' : w3.cell? ⟨w.heap.size + 1, 38, none⟩ = some (.int .u64 m.steps) := d6
  have hfin := Lib.hid (HB.out.trans (hb3.mono (by omega)))
  have heq := eql_regs w3 m.x hl
  have hgd : Tryd.prog.eqGuardType Tryd.prog.depth 31 = false := by kernel_rfl
  obtain ⟨X, hX⟩ : ∃ X, (m.x.map (Value.int .u64)).toArray = X := ⟨_, rfl⟩
  rw [hX] at r1 r2' heq
  clear y1 y2 hb3 r2 d0 d2 d3 d4 d5 d6 ex hX
  go_wp2
  go_ret
  exact ⟨rfl, hfin.out⟩
section
variable {W w : World} {b b' : Nat} {m z : Mc}
/-- the result is laid down -/
theorem MB.lay_only {k : Nat} (h : MB W k z) (hz : z.x.length = 32) (hl : m.x.length = 32) {W' : World} (hr : (Go.storeVar 34 ⟨k, 0, none⟩ (.agg m.cells.toArray)).run Tryd.prog W = .ok () W') : ∀ j, j ≠ k → W'.heap[j]? = W.heap[j]? := by
  have hc := Mc.cells_len hz
  have hc' := Mc.cells_len hl
  have hs : m.cells.toArray.size = 39 := by simp [hc']
  have h2 := run_storeVar_mid (P := Tryd.prog) W k 0 34 m.cells.toArray (fun j hj => by
    have hj' : j < z.cells.length := by omega
    exact ⟨by rw [Nat.zero_add, h.cell, List.getElem?_eq_getElem hj']; rfl, by rw [Nat.zero_add]; exact h.frz j⟩) (by rw [mach_info, hs]) (all_oneCell_toArray Mc.cells_one)
  rw [hr] at h2
  injection h2 with _ h3
  subst h3
  exact (setCells_heap k m.cells 0 W).2
/-- no pages lie where a machine does -/
theorem cells_no {q : Nat} {x y : Int} (hl : m.x.length = 32) (h1 : m.cells[q]? = some (.int .u64 x)) (h2 : m.cells[q + 1]? = some (.int .i64 y)) : False := by
  by_cases hq : q + 1 < 32
  · rw [Mc.cells_reg hl hq] at h2; injection h2 with h2; injection h2 with h2; cases h2
  · obtain ⟨j, hj⟩ : ∃ j, q + 1 = 32 + j := ⟨q + 1 - 32, by omega⟩
    rw [hj, Mc.cells_tail hl] at h2
    unfold Mc.tail at h2
    match j with
    | 0 => injection h2 with h2; injection h2 with h2; cases h2
    | 1 => injection h2 with h2; injection h2
    | 2 => injection h2 with h2; injection h2
    | 3 => injection h2 with h2; injection h2
    | 4 =>
      obtain rfl : q = 32 + 3 := by omega
      rw [Mc.cells_tail hl] at h1
      injection h1 with h1; injection h1
    | 5 => injection h2 with h2; injection h2 with h2; cases h2
    | 6 => injection h2 with h2; injection h2 with h2; cases h2
    | j + 7 => simp at h2
theorem mem_keep2 {B c : Nat} {A : Option Addr} {N : List Pg} {W' : World} (h : Mem W B A c N) (hx : MB W b m) (hl : m.x.length = 32) (hz : MB W b' z) (hlz : z.x.length = 32) (ho : ∀ j, j ≠ b → j ≠ b' → W'.heap[j]? = W.heap[j]?) (hB : B ≤ W'.heap.size) : Mem W' W'.heap.size A c N := by
  refine ⟨h.1, fun k x hk => ?_⟩
  obtain ⟨bb, off, h1, h2, h3⟩ := h.2 k x hk
  refine ⟨bb, off, h1, by omega, fun j u hu => ?_⟩
  have c0 := h3 0 _ rfl
  have c1 := h3 1 _ rfl
  have n1 : bb ≠ b := fun e => by
    subst e
    rw [hx.cell] at c0 c1
    exact cells_no hl c0 c1
  have n2 : bb ≠ b' := fun e => by
    subst e
    rw [hz.cell] at c0 c1
    exact cells_no hlz c0 c1
  rw [← h3 j u hu]
  unfold World.cell?
  rw [ho bb n1 n2]
end
end Go.Proofs.YtajhehmkdlebbaaDoor
