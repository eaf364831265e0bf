/- The machine as Lean data: what an instruction reckons, what a step comes to. Plain laws of a step. Plain law: what may not be written is not; how many registers differ. -/
import Derived.Test.YtajhehmkdlebbaaDoorQPgLaw
import Derived.Test.YtajhehmkdlebbaaDoorPlain
import Derived.Test.YtajhehmkdlebbaaDoorTab
namespace Go.Proofs.YtajhehmkdlebbaaDoor
open Go.ChangeShapes Go.WideShapes Go.ChangeAt Go.RowKit Go.Deep
/-- a number of 64 bits -/
def U64 (n : Int) : Prop := 0 ≤ n ∧ n ≤ 18446744073709551615
theorem U64.wrap (n : Int) : U64 (IntKind.u64.wrap n) := by unfold U64; rw [IntKind.wrap_u64]; omega
theorem U64.bits (op : BinOp) (x y : Int) : U64 (bits op .u64 x y) := u64_bd (wf_bits op .u64 x y)
theorem U64.div {a : Int} (h : U64 a) (b : Int) (hb : 0 ≤ b) : U64 (a / b) := by
  obtain ⟨h1, h2⟩ := h
  exact ⟨Int.ediv_nonneg h1 hb, by have := Int.ediv_le_self b h1; omega⟩
theorem U64.mod {a b : Int} (hb : U64 b) (h0 : b ≠ 0) : U64 (a % b) := by
  have := Int.emod_nonneg a h0
  have := Int.emod_lt_of_pos a (show 0 < b by have := hb.1; omega)
  exact ⟨by assumption, by have := hb.2; omega⟩
/-- P3.1: of two numbers, by a kind of the form R -/
def reckonF (k a b : Int) : Int :=
  if k = 1 then IntKind.u64.wrap (a + b) else if k = 2 then IntKind.u64.wrap (a - b) else if k = 3 then IntKind.u64.wrap (a * 2 ^ (b % 64).toNat)
  else if k = 4 then (if a < b then 1 else 0) else if k = 5 then bits .xor .u64 a b else if k = 6 then a / 2 ^ (b % 64).toNat
  else if k = 7 then bits .or .u64 a b else if k = 8 then bits .and .u64 a b else if k = 9 then IntKind.u64.wrap (a * b)
  else if b = 0 then (if k = 10 then 18446744073709551615 else a) else if k = 10 then a / b else a % b
def asF (k : Int) : Int := if k = 12 then 1 else if k = 13 then 4 else if k = 14 then 5 else if k = 15 then 7 else if k = 16 then 8 else if k = 17 then 3 else 6
def doesF (k imm a b pc : Int) : Int :=
  if 1 ≤ k ∧ k ≤ 11 then reckonF k a b else if 12 ≤ k ∧ k ≤ 18 then reckonF (asF k) a (IntKind.u64.wrap imm)
  else if k = 27 then IntKind.u64.wrap imm else if k = 28 then IntKind.u64.wrap (pc + IntKind.u64.wrap imm) else if k = 29 ∨ k = 30 then IntKind.u64.wrap (pc + 4) else 0
def goesF (k a b : Int) : Bool :=
  if k = 23 then decide (a = b) else if k = 24 then decide (a ≠ b) else if k = 25 then decide (a < b) else if k = 26 then decide (b ≤ a) else false
theorem reckonF_bd {k a b : Int} (ha : U64 a) (hb : U64 b) : U64 (reckonF k a b) := by
  unfold reckonF
  split; · exact U64.wrap _
  split; · exact U64.wrap _
  split; · exact U64.wrap _
  split; · split <;> exact ⟨by decide, by decide⟩
  split; · exact U64.bits _ _ _
  split; · exact ha.div _ (Int.le_of_lt (Int.pow_pos (by decide)))
  split; · exact U64.bits _ _ _
  split; · exact U64.bits _ _ _
  split; · exact U64.wrap _
  split; · split; exact ⟨by decide, by decide⟩; exact ha
  rename_i h0
  split; · exact ha.div _ hb.1
  exact hb.mod h0
theorem doesF_bd {k imm a b pc : Int} (ha : U64 a) (hb : U64 b) : U64 (doesF k imm a b pc) := by
  unfold doesF
  split; · exact reckonF_bd ha hb
  split; · exact reckonF_bd ha (U64.wrap _)
  split; · exact U64.wrap _
  split; · exact U64.wrap _
  split; · exact U64.wrap _
  exact ⟨by decide, by decide⟩
/-- the machine, its memory's place with it -/
structure Mc where
  x : List Int
  pc : Int
  a : Option Addr
  cap : Nat
  mem : List Pg
  inp : ByteArray
  out : ByteArray
  state : Int
  code : Int
  steps : Int
def Mc.tail (m : Mc) : List Value := [.int .u64 m.pc, .slice m.a m.mem.length m.cap, .string m.inp, .string m.out, .int .i64 m.state, .int .u64 m.code, .int .u64 m.steps]
def Mc.cells (m : Mc) : List Value := m.x.map (Value.int .u64) ++ m.tail
def Mc.v (m : Mc) : Value := .agg m.cells.toArray
structure Mc.Ok (m : Mc) : Prop where
  len : m.x.length = 32
  xs : ∀ v ∈ m.x, U64 v
  pc_ : U64 m.pc
  inp_ : m.inp.size ≤ 140737488351232
  st : -9223372036854775808 ≤ m.state ∧ m.state ≤ 9223372036854775807
  code_ : U64 m.code
  steps_ : U64 m.steps
  wf : ∀ p ∈ m.mem, p.ok
  small : m.mem.length ≤ 140737488351232
/-- register i -/
def Mc.reg (m : Mc) (i : Int) : Int := m.x.getD i.toNat 0
theorem Mc.Ok.reg {m : Mc} (h : m.Ok) (i : Int) : U64 (m.reg i) := by
  unfold Mc.reg
  rw [List.getD_eq_getElem?_getD]
  cases hx : m.x[i.toNat]? with
  | none => exact ⟨by decide, by decide⟩
  | some v => exact h.xs v (List.mem_of_getElem? hx)
/-- with register i set -/
def Mc.put (m : Mc) (i v : Int) : Mc := { m with x := m.x.set i.toNat v }
/-- what traps -/
def Mc.trap (m : Mc) : Mc := { m with state := 2 }
def Mc.next (m : Mc) : Int := IntKind.u64.wrap (m.pc + 4)
/-- the instruction of a word -/
def takeO (v : Int) : Option OpD := match takeK v with
  | none => none
  | some k => some ⟨(k : Int), pRd (formI k) v, pA (formI k) v, pB (formI k) v, pI (formI k) v⟩
noncomputable def Mc.fetch (m : Mc) : Option OpD :=
  if m.pc % 4 = 0 then if loadE m.mem m.pc 4 1 = 0 then takeO (IntKind.u32.wrap (loadV m.mem m.pc 4 1)) else none else none
/-- a call of the machine -/
def Mc.calls (m : Mc) : Mc :=
  if m.reg 17 = 63 then
    if m.inp.size = 0 then { m.put 10 256 with pc := m.next } else { m.put 10 (byteI m.inp 0) with inp := m.inp.extract 1 m.inp.size, pc := m.next }
  else if m.reg 17 = 64 then { m with out := m.out ++ ⟨#[UInt8.ofNat (m.reg 10 % 256).toNat]⟩, pc := m.next }
  else if m.reg 17 = 93 then { m with state := 1, code := m.reg 10 }
  else m.trap
def Mc.at_ (m : Mc) (o : OpD) : Int := IntKind.u64.wrap (m.reg o.a + IntKind.u64.wrap o.imm)
def manyR (k : Int) : Int := if k = 20 then 1 else 8
def manyW (k : Int) : Int := if k = 22 then 1 else 8
theorem manyR_or (k : Int) : manyR k = 1 ∨ manyR k = 8 := by unfold manyR; split <;> simp
theorem manyW_or (k : Int) : manyW k = 1 ∨ manyW k = 8 := by unfold manyW; split <;> simp
/-- where a jump goes -/
def Mc.goto (m : Mc) (o : OpD) : Int := if o.kind = 29 then IntKind.u64.wrap (m.pc + IntKind.u64.wrap o.imm) else if o.kind = 30 then m.at_ o / 2 * 2 else m.next
def Mc.branch (m : Mc) (o : OpD) : Int := if goesF o.kind (m.reg o.a) (m.reg o.b) = true then IntKind.u64.wrap (m.pc + IntKind.u64.wrap o.imm) else m.next
/-- what an instruction does -/
noncomputable def Mc.exec (m : Mc) (o : OpD) : Mc :=
  if o.kind = 31 then m.calls
  else if o.kind = 19 ∨ o.kind = 20 then
    if loadE m.mem (m.at_ o) (manyR o.kind) 4 = 0 then { (m.put o.rd (loadV m.mem (m.at_ o) (manyR o.kind) 4)).put 0 0 with pc := m.next } else m.trap
  else if o.kind = 21 ∨ o.kind = 22 then
    if loadE m.mem (m.at_ o) (manyW o.kind) 2 = 0 then { m.put 0 0 with mem := storeX m.mem (m.at_ o) (manyW o.kind) (m.reg o.b), pc := m.next } else m.trap
  else if 23 ≤ o.kind ∧ o.kind ≤ 26 then { m.put 0 0 with pc := m.branch o }
  else { (m.put o.rd (doesF o.kind o.imm (m.reg o.a) (m.reg o.b) m.pc)).put 0 0 with pc := m.goto o }
noncomputable def Mc.step (m : Mc) : Mc :=
  if m.state ≠ 0 then m
  else match Mc.fetch { m with steps := IntKind.u64.wrap (m.steps + 1) } with
    | none => Mc.trap { m with steps := IntKind.u64.wrap (m.steps + 1) }
    | some o => Mc.exec { m with steps := IntKind.u64.wrap (m.steps + 1) } o
noncomputable def Mc.run (m : Mc) : Nat → Mc
  | 0 => m
  | n + 1 => (m.run n).step
end Go.Proofs.YtajhehmkdlebbaaDoor
namespace Go.Proofs.YtajhehmkdlebbaaDoor
open Go.ChangeShapes Go.WideShapes Go.ChangeAt Go.RowKit Go.Deep
section
variable {m : Mc} {o : OpD} {i v : Int}
theorem Mc.Ok.put (h : m.Ok) (hv : U64 v) (i : Int) : (m.put i v).Ok := by
  refine ⟨by simp [Mc.put, h.len], fun u hu => ?_, h.pc_, h.inp_, h.st, h.code_, h.steps_, h.wf, h.small⟩
  rcases List.mem_or_eq_of_mem_set hu with hu | rfl
  · exact h.xs u hu
  · exact hv
theorem Mc.Ok.pc (h : m.Ok) {p : Int} (hp : U64 p) : ({ m with pc := p } : Mc).Ok := ⟨h.len, h.xs, hp, h.inp_, h.st, h.code_, h.steps_, h.wf, h.small⟩
theorem Mc.Ok.tick (h : m.Ok) : ({ m with steps := IntKind.u64.wrap (m.steps + 1) } : Mc).Ok := ⟨h.len, h.xs, h.pc_, h.inp_, h.st, h.code_, U64.wrap _, h.wf, h.small⟩
theorem Mc.Ok.trap (h : m.Ok) : m.trap.Ok := ⟨h.len, h.xs, h.pc_, h.inp_, by show (-9223372036854775808 : Int) ≤ 2 ∧ (2 : Int) ≤ 9223372036854775807; decide, h.code_, h.steps_, h.wf, h.small⟩
theorem Mc.next_bd (m : Mc) : U64 m.next := U64.wrap _
theorem u64_zero : U64 0 := ⟨by decide, by decide⟩
theorem u64_byte (s : ByteArray) (q : Nat) : U64 (byteI s q) := by
  have := byteI_bd s q
  exact ⟨this.1, by omega⟩
theorem Mc.Ok.calls (h : m.Ok) : m.calls.Ok := by
  unfold Mc.calls
  split
  · split
    · exact (h.put (v := 256) ⟨by decide, by decide⟩ 10).pc m.next_bd
    · have h1 := (h.put (u64_byte m.inp 0) 10).pc m.next_bd
      exact ⟨h1.len, h1.xs, h1.pc_, by show (m.inp.extract 1 m.inp.size).size ≤ _; rw [ByteArray.size_extract]; have := h.inp_; omega, h1.st, h1.code_, h1.steps_, h1.wf, h1.small⟩
  · split
    · exact ⟨h.len, h.xs, m.next_bd, h.inp_, h.st, h.code_, h.steps_, h.wf, h.small⟩
    · split
      · exact ⟨h.len, h.xs, h.pc_, h.inp_, by show (-9223372036854775808 : Int) ≤ 1 ∧ (1 : Int) ≤ 9223372036854775807; decide, h.reg 10, h.steps_, h.wf, h.small⟩
      · exact h.trap
theorem loadV_u64 (l : List Pg) (at_ n perm : Int) (hn : n = 1 ∨ n = 8) : U64 (loadV l at_ n perm) := by
  unfold loadV
  split
  · cases hl : loadN l at_ perm n.toNat with
    | none => exact u64_zero
    | some u =>
      have := loadN_bd hl
      rcases hn with rfl | rfl
      · exact ⟨this.1, by have h2 := this.2; rw [show (1 : Int).toNat = 1 from rfl] at h2; rw [Option.getD_some]; omega⟩
      · exact ⟨this.1, by have h2 := this.2; rw [show (8 : Int).toNat = 8 from rfl] at h2; rw [Option.getD_some]; omega⟩
  · exact u64_zero
theorem Mc.Ok.exec (h : m.Ok) (o : OpD) : (m.exec o).Ok := by
  unfold Mc.exec
  split; · exact h.calls
  split
  · split
    · exact ((h.put (loadV_u64 _ _ _ _ (manyR_or _)) o.rd).put u64_zero 0).pc m.next_bd
    · exact h.trap
  split
  · split
    · have h1 := (h.put u64_zero 0).pc m.next_bd
      exact ⟨h1.len, h1.xs, h1.pc_, h1.inp_, h1.st, h1.code_, h1.steps_, storeX_okP h.wf, by show (storeX _ _ _ _).length ≤ _; rw [storeX_len]; exact h.small⟩
    · exact h.trap
  split
  · refine (h.put u64_zero 0).pc ?_
    unfold Mc.branch
    split
    · exact U64.wrap _
    · exact m.next_bd
  · refine ((h.put (doesF_bd (h.reg _) (h.reg _)) o.rd).put u64_zero 0).pc ?_
    unfold Mc.goto
    split
    · exact U64.wrap _
    split
    · unfold Mc.at_
      obtain ⟨h1, h2⟩ := U64.wrap (m.reg o.a + IntKind.u64.wrap o.imm)
      constructor <;> omega
    · exact m.next_bd
theorem Mc.Ok.step (h : m.Ok) : m.step.Ok := by
  unfold Mc.step
  split
  · exact h
  split
  · exact h.tick.trap
  · exact h.tick.exec _
theorem Mc.Ok.run (h : m.Ok) : ∀ n, (m.run n).Ok
  | 0 => h
  | n + 1 => (Mc.Ok.run h n).step
/-! ### register 0 -/
theorem set_same {l : List Int} {k : Nat} {v : Int} (h : l.getD k 0 = v) (hk : k < l.length) : l.set k v = l := by
  rw [List.getD_eq_getElem?_getD, List.getElem?_eq_getElem hk, Option.getD_some] at h
  rw [← h, List.set_getElem_self]
theorem Mc.put_same (hl : m.x.length = 32) (h0 : m.reg 0 = 0) : m.put 0 0 = m := by
  have : m.x.set 0 0 = m.x := set_same h0 (by omega)
  unfold Mc.put
  rw [show (0 : Int).toNat = 0 from rfl, this]
theorem Mc.put_reg (hl : m.x.length = 32) (i : Int) (hi : 0 ≤ i ∧ i < 32) (v : Int) : (m.put i v).reg i = v := by
  unfold Mc.reg Mc.put
  rw [List.getD_eq_getElem?_getD, List.getElem?_set_self (by omega)]; rfl
theorem Mc.put_reg_ne (i j v : Int) (h : i.toNat ≠ j.toNat) : (m.put i v).reg j = m.reg j := by
  unfold Mc.reg Mc.put
  rw [List.getD_eq_getElem?_getD, List.getD_eq_getElem?_getD, List.getElem?_set_ne h]
theorem Mc.put_len (i v : Int) : (m.put i v).x.length = m.x.length := by simp [Mc.put]
theorem Mc.calls_zero (h0 : m.reg 0 = 0) : m.calls.reg 0 = 0 := by
  have h10 : ∀ v, (m.put 10 v).reg 0 = 0 := fun v => (Mc.put_reg_ne 10 0 v (by decide)).trans h0
  unfold Mc.calls
  split
  · split
    · exact h10 256
    · exact h10 _
  · split
    · exact h0
    · split <;> exact h0
theorem Mc.exec_zero (hl : m.x.length = 32) (h0 : m.reg 0 = 0) (o : OpD) : (m.exec o).reg 0 = 0 := by
  unfold Mc.exec
  split; · exact Mc.calls_zero h0
  split
  · split
    · exact Mc.put_reg (by rw [Mc.put_len]; exact hl) 0 (by omega) 0
    · exact h0
  split
  · split
    · exact Mc.put_reg hl 0 (by omega) 0
    · exact h0
  split
  · exact Mc.put_reg hl 0 (by omega) 0
  · exact Mc.put_reg (by rw [Mc.put_len]; exact hl) 0 (by omega) 0
theorem Mc.step_zero (hl : m.x.length = 32) (h0 : m.reg 0 = 0) : m.step.reg 0 = 0 := by
  unfold Mc.step
  split; · exact h0
  split
  · exact h0
  · exact Mc.exec_zero (m := { m with steps := IntKind.u64.wrap (m.steps + 1) }) hl h0 _
theorem Mc.run_zero (h : m.Ok) (h0 : m.reg 0 = 0) : ∀ n, (m.run n).reg 0 = 0
  | 0 => h0
  | n + 1 => Mc.step_zero (h.run n).len (Mc.run_zero h h0 n)
/-! ### memory stays as many pages -/
theorem Mc.calls_mem : m.calls.mem = m.mem := by
  unfold Mc.calls
  split
  · split <;> rfl
  · split
    · rfl
    · split <;> rfl
theorem Mc.exec_mem (o : OpD) : (m.exec o).mem = m.mem ∨ ∃ at_ n v, loadE m.mem at_ n 2 = 0 ∧ (n = 1 ∨ n = 8) ∧ 0 ≤ at_ ∧ (m.exec o).mem = storeX m.mem at_ n v := by
  unfold Mc.exec
  split; · exact .inl Mc.calls_mem
  split
  · split <;> exact .inl rfl
  split
  · split
    · rename_i he
      exact .inr ⟨_, _, m.reg o.b, he, manyW_or _, (U64.wrap _).1, rfl⟩
    · exact .inl rfl
  split <;> exact .inl rfl
theorem Mc.step_mem : m.step.mem = m.mem ∨ ∃ at_ n v, loadE m.mem at_ n 2 = 0 ∧ (n = 1 ∨ n = 8) ∧ 0 ≤ at_ ∧ m.step.mem = storeX m.mem at_ n v := by
  unfold Mc.step
  split; · exact .inl rfl
  split
  · exact .inl rfl
  · exact Mc.exec_mem (m := { m with steps := IntKind.u64.wrap (m.steps + 1) }) _
theorem Mc.step_len : m.step.mem.length = m.mem.length := by
  rcases m.step_mem with h | ⟨a, n, v, _, _, _, h⟩
  · rw [h]
  · rw [h, storeX_len]
/-! ### what is read and written -/
theorem Mc.exec_io (o : OpD) : ((m.exec o).inp = m.inp ∨ (0 < m.inp.size ∧ (m.exec o).inp = m.inp.extract 1 m.inp.size)) ∧ ((m.exec o).out = m.out ∨ ∃ b, (m.exec o).out = m.out ++ ⟨#[b]⟩) ∧ (m.exec o).steps = m.steps := by
  unfold Mc.exec
  split
  · unfold Mc.calls
    split
    · split
      · exact ⟨.inl rfl, .inl rfl, rfl⟩
      · exact ⟨.inr ⟨by omega, rfl⟩, .inl rfl, rfl⟩
    · split
      · exact ⟨.inl rfl, .inr ⟨_, rfl⟩, rfl⟩
      · split <;> exact ⟨.inl rfl, .inl rfl, rfl⟩
  split
  · split <;> exact ⟨.inl rfl, .inl rfl, rfl⟩
  split
  · split <;> exact ⟨.inl rfl, .inl rfl, rfl⟩
  split <;> exact ⟨.inl rfl, .inl rfl, rfl⟩
theorem Mc.step_io (hs : m.state = 0) : (m.step.inp = m.inp ∨ (0 < m.inp.size ∧ m.step.inp = m.inp.extract 1 m.inp.size)) ∧ (m.step.out = m.out ∨ ∃ b, m.step.out = m.out ++ ⟨#[b]⟩) ∧ m.step.steps = IntKind.u64.wrap (m.steps + 1) := by
  unfold Mc.step
  rw [if_neg (by simp [hs])]
  split
  · exact ⟨.inl rfl, .inl rfl, rfl⟩
  · exact Mc.exec_io (m := { m with steps := IntKind.u64.wrap (m.steps + 1) }) _
theorem Mc.step_done (hs : m.state ≠ 0) : m.step = m := by unfold Mc.step; rw [if_pos hs]
/-- where a step traps nothing else changes -/
theorem Mc.exec_trap (hs : m.state = 0) (o : OpD) (h : (m.exec o).state = 2) : m.exec o = m.trap := by
  unfold Mc.exec at h ⊢
  split
  · rename_i hk
    rw [if_pos hk] at h
    unfold Mc.calls at h ⊢
    split
    · rename_i h1
      rw [if_pos h1] at h
      split at h <;> (exact absurd (hs.symm.trans h) (by decide))
    · rename_i h1
      rw [if_neg h1] at h
      split
      · rename_i h2; rw [if_pos h2] at h; exact absurd (hs.symm.trans h) (by decide)
      · rename_i h2; rw [if_neg h2] at h
        split
        · rename_i h3; rw [if_pos h3] at h; exact absurd (show (1 : Int) = 2 from h) (by decide)
        · rfl
  · rename_i hk
    rw [if_neg hk] at h
    split
    · rename_i h1; rw [if_pos h1] at h
      split
      · rename_i h2; rw [if_pos h2] at h; exact absurd (hs.symm.trans h) (by decide)
      · rfl
    · rename_i h1; rw [if_neg h1] at h
      split
      · rename_i h1'; rw [if_pos h1'] at h
        split
        · rename_i h2; rw [if_pos h2] at h; exact absurd (hs.symm.trans h) (by decide)
        · rfl
      · rename_i h1'; rw [if_neg h1'] at h
        split at h <;> exact absurd (hs.symm.trans h) (by decide)
theorem Mc.step_trap (hs : m.state = 0) (h : m.step.state = 2) : m.step = { m with steps := IntKind.u64.wrap (m.steps + 1), state := 2 } := by
  unfold Mc.step at h ⊢
  rw [if_neg (by simp [hs])] at h ⊢
  split
  · rfl
  · rename_i o ho
    rw [ho] at h
    exact Mc.exec_trap (m := { m with steps := IntKind.u64.wrap (m.steps + 1) }) hs o h
/-! ### one register at most -/
theorem Mc.exec_one (hl : m.x.length = 32) (h0 : m.reg 0 = 0) (o : OpD) : ∃ r : Nat, ∀ i : Nat, i ≠ r → (m.exec o).x.getD i 0 = m.x.getD i 0 := by
  have put1 : ∀ (j : Int) (v : Int) (i : Nat), i ≠ j.toNat → (m.put j v).x.getD i 0 = m.x.getD i 0 := fun j v i hi => by
    unfold Mc.put
    rw [List.getD_eq_getElem?_getD, List.getD_eq_getElem?_getD, List.getElem?_set_ne (Ne.symm hi)]
  have put2 : ∀ (j : Int) (v : Int) (i : Nat), i ≠ j.toNat → ((m.put j v).put 0 0).x.getD i 0 = m.x.getD i 0 := fun j v i hi => by
    by_cases hi0 : i = 0
    · subst hi0
      have := Mc.put_reg (m := m.put j v) (by rw [Mc.put_len]; exact hl) 0 (by omega) 0
      exact this.trans h0.symm
    · rw [← put1 j v i hi]
      show (((m.put j v).x.set 0 0)).getD i 0 = _
      rw [List.getD_eq_getElem?_getD, List.getD_eq_getElem?_getD, List.getElem?_set_ne (Ne.symm hi0)]
  have e0 := Mc.put_same hl h0
  unfold Mc.exec
  split
  · unfold Mc.calls
    split
    · split
      · exact ⟨10, fun i hi => put1 10 _ i hi⟩
      · exact ⟨10, fun i hi => put1 10 _ i hi⟩
    · split
      · exact ⟨0, fun i _ => rfl⟩
      · split <;> exact ⟨0, fun i _ => rfl⟩
  split
  · split
    · exact ⟨o.rd.toNat, fun i hi => put2 _ _ i hi⟩
    · exact ⟨0, fun i _ => rfl⟩
  split
  · split
    · exact ⟨0, fun i _ => by rw [e0]⟩
    · exact ⟨0, fun i _ => rfl⟩
  split
  · exact ⟨0, fun i _ => by rw [e0]⟩
  · exact ⟨o.rd.toNat, fun i hi => put2 _ _ i hi⟩
theorem Mc.step_one (hl : m.x.length = 32) (h0 : m.reg 0 = 0) : ∃ r : Nat, ∀ i : Nat, i ≠ r → m.step.x.getD i 0 = m.x.getD i 0 := by
  unfold Mc.step
  split; · exact ⟨0, fun i _ => rfl⟩
  split
  · exact ⟨0, fun i _ => rfl⟩
  · exact Mc.exec_one (m := { m with steps := IntKind.u64.wrap (m.steps + 1) }) hl h0 _
/-! ### runs -/
theorem Mc.run_add (m : Mc) (a : Nat) : ∀ b, (m.run a).run b = m.run (a + b)
  | 0 => rfl
  | b + 1 => by rw [Nat.add_succ]; show ((m.run a).run b).step = (m.run (a + b)).step; rw [Mc.run_add m a b]
/-! ### what a taken instruction is like -/
theorem takeO_bd {v : Int} {o : OpD} (h : takeO v = some o) : (1 ≤ o.kind ∧ o.kind ≤ 31) ∧ (0 ≤ o.rd ∧ o.rd ≤ 31) ∧ (0 ≤ o.a ∧ o.a ≤ 31) ∧ (0 ≤ o.b ∧ o.b ≤ 31) := by
  unfold takeO at h
  cases hk : takeK v with
  | none => rw [hk] at h; cases h
  | some k =>
    rw [hk] at h
    obtain ⟨h1, h2, ⟨_, _, h3, h4, h5, h6, h7, h8, _⟩, _⟩ := takeK_out hk
    obtain rfl := Option.some.inj h
    exact ⟨⟨by show (1 : Int) ≤ (k : Int); omega, by show (k : Int) ≤ 31; omega⟩, ⟨h3, h4⟩, ⟨h5, h6⟩, ⟨h7, h8⟩⟩
end
end Go.Proofs.YtajhehmkdlebbaaDoor
namespace Go.Proofs.YtajhehmkdlebbaaDoor
open Go.ChangeShapes Go.WideShapes Go.ChangeAt Go.RowKit Go.Deep
theorem loadN_byteS {M : List Pg} {at_ perm : Int} {n k : Nat} (h : (loadN M at_ perm n).isSome = true) (hk : k < n) : (byteAt M at_ perm k).isSome = true := by
  cases hb : byteAt M at_ perm k with
  | some b => rfl
  | none =>
    have h1 : loadN M at_ perm (k + 1) = none := by simp [loadN, hb]
    rw [loadN_none h1 hk] at h
    cases h
theorem wrP_same {M : List Pg} {at_ : Int} {n i : Nat} (hr : rightB M = true) (hwf : ∀ p ∈ M, p.ok) (_hat : 0 ≤ at_) (hl : (loadN M at_ 2 n).isSome = true) (t : ByteArray) (hi : i < M.length) (hg : grantB M[i] 2 = false) : wrP at_ t n M[i] = M[i] := by
  have hR := rightB_out hr
  have hmod := right_mod hR hi
  have hsz := right_size hR hi
  obtain ⟨⟨o1, o2⟩, _, _⟩ := hwf M[i] (List.getElem_mem hi)
  have hd : wrB (M[i]).at_ (M[i]).data at_ t n = (M[i]).data := by
    refine ba_ext fun j => ?_
    rw [wrB_at]
    cases hj : (M[i]).data.data.toList[j]? with
    | none => rfl
    | some b =>
      have hjl := (List.getElem?_eq_some_iff.1 hj).1
      rw [← ba_size, hsz] at hjl
      simp only [Option.map_some]
      rw [if_neg]
      rintro ⟨h1, h2⟩
      have hb := loadN_byteS hl (k := ((M[i]).at_ + j - at_).toNat) (by omega)
      have hT : (M[i]).at_ + j = (at_ + (((M[i]).at_ + j - at_).toNat : Nat)) % 18446744073709551616 := by omega
      cases hx : idxF M ((M[i]).at_ + j) with
      | none =>
        rw [byteAt_far hT hx] at hb
        cases hb
      | some i' =>
        have hi' := idxF_lt hx
        have hh := idxF_has hx hi'
        have e : i' = i := by
          by_cases he : i' = i
          · exact he
          · have := right_apart hR hi' hi he
            omega
        subst e
        rw [byteAt_some hT h1 hx hi', hg] at hb
        cases hb
  unfold wrP
  rw [hd]
theorem grant_bit {p : Pg} (h0 : 0 ≤ p.perm) (h7 : p.perm ≤ 7) (hb : p.perm / 2 % 2 = 0) : grantB p 2 = false := by
  unfold grantB
  have : p.perm = 0 ∨ p.perm = 1 ∨ p.perm = 4 ∨ p.perm = 5 := by omega
  rcases this with h | h | h | h <;> rw [h] <;> decide
/-- a page behind a storing -/
theorem store_page {M : List Pg} {at_ n v : Int} (hat : 0 ≤ at_) (hwf : ∀ p ∈ M, p.ok) (h : loadE M at_ n 2 = 0) {i : Nat} (hi : i < M.length) :
    ∃ q, (storeX M at_ n v)[i]? = some q ∧ q.at_ = (M[i]).at_ ∧ q.perm = (M[i]).perm ∧ (0 ≤ (M[i]).perm → (M[i]).perm / 2 % 2 = 0 → q.data = (M[i]).data) := by
  rw [store_ok h]
  obtain ⟨⟨_, hr⟩, hl⟩ := loadE_zero h
  refine ⟨wrP at_ (bytesV v n.toNat) n.toNat M[i], by rw [wrL_get?, List.getElem?_eq_getElem hi]; rfl, rfl, rfl, fun h0 hb => ?_⟩
  have h7 := ((rightB_out hr).2 i hi _ (List.getElem?_eq_getElem hi)).2.2.1
  rw [wrP_same hr hwf hat hl _ hi (grant_bit h0 h7 hb)]
theorem Mc.step_page {m : Mc} (hwf : ∀ p ∈ m.mem, p.ok) {i : Nat} (hi : i < m.mem.length) :
    ∃ q, m.step.mem[i]? = some q ∧ q.at_ = (m.mem[i]).at_ ∧ q.perm = (m.mem[i]).perm ∧ (0 ≤ (m.mem[i]).perm → (m.mem[i]).perm / 2 % 2 = 0 → q.data = (m.mem[i]).data) := by
  rcases m.step_mem with h | ⟨a, n, v, h1, _, h3, h⟩
  · rw [h]
    exact ⟨m.mem[i], List.getElem?_eq_getElem hi, rfl, rfl, fun _ _ => rfl⟩
  · rw [h]
    exact store_page h3 hwf h1 hi
/-- how many of the first k differ -/
def cntD (a b : List Int) : Nat → Int
  | 0 => 0
  | k + 1 => cntD a b k + if b.getD k 0 = a.getD k 0 then 0 else 1
theorem cntD_bd (a b : List Int) : ∀ k, 0 ≤ cntD a b k ∧ cntD a b k ≤ k
  | 0 => by unfold cntD; exact ⟨by decide, by decide⟩
  | k + 1 => by
    have := cntD_bd a b k
    unfold cntD
    split <;> omega
theorem cntD_one {a b : List Int} {r : Nat} (h : ∀ i, i ≠ r → b.getD i 0 = a.getD i 0) : ∀ k, cntD a b k ≤ 1 ∧ (k ≤ r → cntD a b k = 0)
  | 0 => by unfold cntD; exact ⟨by decide, fun _ => rfl⟩
  | k + 1 => by
    have ih := cntD_one h k
    unfold cntD
    by_cases hk : k = r
    · have := ih.2 (by omega)
      split <;> exact ⟨by omega, fun h' => by omega⟩
    · rw [if_pos (h k hk)]
      exact ⟨by omega, fun h' => by have := ih.2 (by omega); omega⟩
end Go.Proofs.YtajhehmkdlebbaaDoor
