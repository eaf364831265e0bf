/- place.table: where names are, the first one of each; slices.Backward over symbols. -/
import Derived.Test.YtajhehmkdlebbaaDoorPlBase
import Derived.Test.YtajhehmkdlebbaaDoorMore
import Derived.Maps.Own
import Derived.Maps.OwnIn
import Derived.Maps.OwnSet
import Derived.Maps.Views
import Derived.RangeFuncNested
import Derived.RangeFuncBound
import Derived.RangeFuncCalls
import Derived.RangeFuncLeaves
import Derived.Shelf.Abstract
import Derived.Shelf.RegionOpen
import Derived.OwnWalkIn
import Derived.TacticsInMore
import Derived.LoopNIn
import Derived.LoopIn
namespace Go.Proofs.YtajhehmkdlebbaaDoor.Pl
open Go.ChangeShapes Go.WideShapes Go.ChangeAt Go.RowKit Go.Deep Go.Maps Go.WideMaps
set_option maxRecDepth 100000
theorem k_laidOut : laidOutB Tryd.prog = true := by kernel_rfl
theorem k_row : (99 : TypeId) < Tryd.prog.types.size := of_decide_eq_true (by kernel_rfl)
theorem k_wide : (match Tryd.prog.underlying 99 with | some (.array _ _) | some (.struct _) => true | _ => false) = true := by rw [Tryd.underlying99]
theorem k_law : Keyed Tryd.prog 99 := Keyed.of_law (deep_law_laid k_laidOut (m := 2) (by omega) k_row (by kernel_rfl) k_wide)
def keyS (n : ByteArray) (f : Bool) : Lit := .string (keyBytes [.string n.data.toList, .bool f])
theorem keyOf_key {n : ByteArray} (hn : n.size ≤ 140737488351232) (f : Bool) : keyOf Tryd.prog 99 (.agg #[.string n, .bool f]) = some (keyS n f) := by
  have hk : Tryd.prog.keyType 99 = true := by kernel_rfl
  have hs : Tryd.prog.cellsOf 99 = 2 := by kernel_rfl
  have hu : Tryd.prog.cellsOf 9 = 1 := by kernel_rfl
  have hb : Tryd.prog.cellsOf 4 = 1 := by kernel_rfl
  obtain ⟨m, hm⟩ := Nat.exists_eq_succ_of_ne_zero (Nat.ne_of_gt (Nat.lt_of_le_of_lt (Nat.zero_le _) k_row))
  unfold keyOf
  rw [Tryd.underlying99]
  simp only [hk, Value.formed, Tryd.underlying99, hs, hm]
  simp [Program.keyLits, Tryd.underlying99, Tryd.underlying9, Tryd.underlying4, hs, hu, hb, Value.cells, keyS, show n.size ≤ maxLen by unfold maxLen; omega]
theorem keyS_inj {n n' : ByteArray} {f f' : Bool} (hn : n.size ≤ 140737488351232) (hn' : n'.size ≤ 140737488351232) (h : keyS n f = keyS n' f') : n = n' ∧ f = f' := by
  have h1 := keyOf_key hn f
  have h2 := keyOf_key hn' f'
  rw [h] at h1
  have := k_law.inj h1 h2
  simpa using this
/-- the first symbol of a name -/
def firstS (l : List SymD) (n : ByteArray) (f : Bool) : Option SymD := l.find? fun s => decide (s.name = n) && decide (s.fn = f)
theorem firstS_hit (s : SymD) (l : List SymD) : firstS (s :: l) s.name s.fn = some s := by simp [firstS]
theorem firstS_miss {s : SymD} {n : ByteArray} {f : Bool} (l : List SymD) (h : ¬ (s.name = n ∧ s.fn = f)) : firstS (s :: l) n f = firstS l n f := by
  unfold firstS
  rw [List.find?_cons_of_neg]
  simpa using h
abbrev zU : DataW Unit := .lit (.int .u64 0)
def atS : Option SymD → DataW Unit
  | some s => .lit (.int .u64 s.at_)
  | none => zU
def TabS (D : DataW Unit) (l : List SymD) : Prop := IsMap D ∧ ∀ n f, n.size ≤ 140737488351232 → Maps.has D (keyS n f) = (firstS l n f).isSome ∧ D.atKey (keyS n f) zU = atS (firstS l n f)
theorem tabS_nil : TabS (.map []) [] := ⟨isMap_empty, fun _ _ _ => ⟨rfl, rfl⟩⟩
theorem tabS_step {D : DataW Unit} {l : List SymD} (h : TabS D l) {s : SymD} (hs : s.name.size ≤ 140737488351232) : TabS (D.put (keyS s.name s.fn) (.lit (.int .u64 s.at_))) (s :: l) := by
  have hkl : WideAt.IsKeyLit (keyS s.name s.fn) := k_law.key (keyOf_key hs s.fn)
  refine ⟨h.1.put _ _, fun n f hn => ?_⟩
  by_cases e : s.name = n ∧ s.fn = f
  · obtain ⟨rfl, rfl⟩ := e
    rw [firstS_hit]
    exact ⟨has_put_same h.1 hkl _, atKey_put_same h.1 hkl _ _⟩
  · have hne : keyS n f ≠ keyS s.name s.fn := fun h' => e (by have := keyS_inj hn hs h'; exact ⟨this.1.symm, this.2.symm⟩)
    rw [firstS_miss l e, has_put_other hne, atKey_put_other hne]
    exact h.2 n f hn
/-- the map in block b tells where names are -/
def TabAt (w : World) (b n : Nat) (l : List SymD) : Prop := ∃ D : DataW Unit, w.ownsMap Tryd.prog 99 (plainElem Tryd.prog 24) b n D ∧ TabS D l
theorem TabAt.kept {w w' : World} {b n : Nat} {l : List SymD} {row : Option Nat} (h : TabAt w b n l) (hg : w.grownBy w' row) (hne : some b ≠ row) : TabAt w' b n l := by
  obtain ⟨D, h1, h2⟩ := h
  exact ⟨D, h1.kept hg hne, h2⟩
theorem TabAt.below {w w' : World} {b n : Nat} {l : List SymD} (h : TabAt w b n l) (hb : Below w.heap.size w w') : TabAt w' b n l := h.kept (grown0 hb) (by simp)
theorem TabAt.lt {w : World} {b n : Nat} {l : List SymD} (h : TabAt w b n l) : b < w.heap.size := by
  obtain ⟨D, h1, _⟩ := h
  exact h1.lt
/-- what the table says -/
def atI : Option SymD → Int
  | some s => s.at_
  | none => 0
theorem tab_look {w : World} {b m : Nat} {l : List SymD} {n : ByteArray} (hn : n.size ≤ 140737488351232) (f : Bool) (h : TabAt w b m l) :
    (Instr.lookup 96 (.map (some b)) (.agg #[.string n, .bool f]) true).run Tryd.prog w = .ok (.tuple #[.int .u64 (atI (firstS l n f)), .bool (firstS l n f).isSome]) w := by
  obtain ⟨D, hown, hD⟩ := h
  have hz : (zeroValue 24).run Tryd.prog w = .ok (.int .u64 0) w := by kernel_rfl
  obtain ⟨v, ps, hrun, hv⟩ := hown.look_ok k_law Tryd.underlying96 hz (plainElem_int Tryd.underlying24 (by decide)) (keyOf_key hn f)
  obtain ⟨c, rfl, hc, _⟩ := plainElem_int_inv Tryd.underlying24 hv
  rw [hrun, (hD.2 n f hn).1]
  have h2 := (hD.2 n f hn).2
  have h3 : D.atKey (keyS n f) zU = .lit (.int .u64 c) := congrArg Prod.fst hc
  rw [h3] at h2
  have : c = atI (firstS l n f) := by
    cases hl : firstS l n f with
    | none => rw [hl] at h2; simp only [atS, zU, DataW.lit.injEq, Lit.int.injEq, true_and] at h2; exact h2
    | some i => rw [hl] at h2; simp only [atS, DataW.lit.injEq, Lit.int.injEq, true_and] at h2; exact h2
  rw [this]
end Go.Proofs.YtajhehmkdlebbaaDoor.Pl
