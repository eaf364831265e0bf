/- place.Fix: instructions with what hangs on places. -/
import Derived.Test.YtajhehmkdlebbaaDoorPlFix
namespace Go.Proofs.YtajhehmkdlebbaaDoor.Pl
open Go.ChangeShapes Go.WideShapes Go.ChangeAt Go.RowKit Go.Deep
set_option maxRecDepth 100000
theorem OpD.len (o : OpD) : o.cells.length = 5 := rfl
theorem OpD.one (o : OpD) : ∀ u ∈ o.cells, u.oneCell' = true := by
  intro u hu
  simp only [OpD.cells, List.mem_cons, List.not_mem_nil, or_false] at hu
  rcases hu with rfl | rfl | rfl | rfl | rfl <;> rfl
theorem opInfo : (Tryd.prog.info? 23).map (fun i => (i.zero, i.size, i.bytes)) = some (some (.agg #[.int .i64 0, .int .i64 0, .int .i64 0, .int .i64 0, .int .i64 0]), 5, 40) := by kernel_rfl
/-- instructions in a row of the call's own -/
def OwnO (w : World) (base : Nat) (v : Value) (L : List OpD) : Prop := w.ownsRow base 23 5 v L.length (L.flatMap OpD.cells)
theorem cloneO_any {A : Option Addr} {cap : Nat} {L : List OpD} {w : World} {B : Nat} (hL : (⟨A, cap, L⟩ : Sl OpD).In w B 5 OpD.cells) (hlen : L.length ≤ 3518437208784) :
    Calls Tryd.prog 77 #[.slice A L.length cap] w fun e w' => ∃ v, e = .returned v ∧ OwnO w' w.heap.size v L ∧ Below w.heap.size w w' := by
  have q37 : ∀ (w : World) (a : Option Addr) (n c : Nat), (binOp .eql 71 (.slice a n c) (.slice none 0 0)).run Tryd.prog w = .ok (.bool a.isNone) w := fun w a n c => run_eql_slice_nil w _ _ a n c Tryd.underlying71
  cases A with
  | none =>
    obtain rfl : L = [] := by
      cases L with
      | nil => rfl
      | cons y l => obtain ⟨b, off, hb, _⟩ := hL.2 0 y rfl; cases hb
    go_enter Tryd.func77, Tryd.ntmps77
    go_wp2
    go_ret
    exact ⟨_, rfl, World.ownsRow_nil _ _ _ _, Below.refl _ _⟩
  | some ad =>
    obtain ⟨i0, hi, hz0, hz1, hz2⟩ := info_parts opInfo
    have HL := Lib.hid (Sl.In.flat OpD.len (by omega) hL)
    have h1 : ∀ u ∈ L.flatMap OpD.cells, u.oneCell' = true := fun u hu => by
      obtain ⟨y, _, hy⟩ := List.mem_flatMap.1 hu
      exact OpD.one y u hy
    have H1 := Lib.hid h1
    clear hL h1
    go_enter Tryd.func77, Tryd.ntmps77
    go_wp2_with
      (at_builtin
       refine wpList_append_own_wide _ rfl (.tmp 5) (.tmp 6) 71 rfl w.heap.size 23 i0 _ 5 40 Tryd.underlying71 hi hz0 hz1 hz2 rfl (by omega) _ 0 _ rfl (World.ownsRow_made w #[] 0 (Nat.le_refl _) (Nat.zero_le _) (by simp)) ad L.length cap _ rfl (flat_len OpD.len L) ?_ H1.out ?_ ?_ ?_ ?_
       rotate_right
       intro v1 w1 hown hg _)
    go_ret
    refine ⟨v1, rfl, ?_, ((Below.refl _ _).alloc (Nat.le_refl _) _).grown hg (by simp) (fun k hk => ?_)⟩
    · unfold OwnO; simpa using hown
    · exact Nat.le_of_eq (Option.some.inj hk)
    case refine_1 =>
      intro j u hu
      have := HL.out j u hu
      exact ((((Below.refl w.heap.size w).alloc (Nat.le_refl _) _).cell (p := ad.add j) (cell_block_lt this).1)).trans this
    case refine_2 => unfold maxLen; omega
    case refine_3 => omega
    case refine_4 => simp
/-! ### Fix -/
def ownI (at_ rat : Int) : Int := IntKind.u64.wrap (at_ + IntKind.u64.wrap (4 * IntKind.u64.wrap rat))
def newN (at_ : Int) (S : List SymD) (r : RelD) : Int := setN r.kind (atI (firstS S r.name (r.kind == 1))) (ownI at_ r.at_)
/-- why a place can't be laid in -/
def relE (ops : List OpD) (at_ : Int) (S : List SymD) (r : RelD) : Int :=
  if hangsB ops r = true then (if (firstS S r.name (r.kind == 1)).isSome = true then (if setB r.kind (newN at_ S r) = true then 0 else 7) else 8) else 1
def fixE (ops : List OpD) (at_ : Int) (S : List SymD) : List RelD → Int
  | [] => 0
  | r :: l => if relE ops at_ S r = 0 then fixE ops at_ S l else relE ops at_ S r
def setImm (n : Int) (o : OpD) : OpD := { o with imm := n }
def fixO (ops : List OpD) (at_ : Int) (S : List SymD) (l : List RelD) : List OpD := l.foldl (fun o r => o.modify r.at_.toNat (setImm (newN at_ S r))) ops
theorem fixO_len (at_ : Int) (S : List SymD) : ∀ (l : List RelD) (ops : List OpD), (fixO ops at_ S l).length = ops.length
  | [], _ => rfl
  | r :: l, ops => by
    show (fixO (ops.modify _ _) at_ S l).length = _
    rw [fixO_len at_ S l, List.length_modify]
theorem fixO_take (ops : List OpD) (at_ : Int) (S : List SymD) {l : List RelD} {k : Nat} (hk : k < l.length) : fixO ops at_ S (l.take (k + 1)) = (fixO ops at_ S (l.take k)).modify (l[k]).at_.toNat (setImm (newN at_ S l[k])) := by
  unfold fixO
  rw [List.take_succ_eq_append_getElem hk, List.foldl_append]
  rfl
theorem fixE_bad (ops : List OpD) (at_ : Int) (S : List SymD) : ∀ {l : List RelD} {k : Nat} (hk : k < l.length), (∀ j (hj : j < l.length), j < k → relE ops at_ S l[j] = 0) → relE ops at_ S l[k] ≠ 0 → fixE ops at_ S l = relE ops at_ S l[k]
  | r :: l, 0, _, _, h => by unfold fixE; exact if_neg h
  | r :: l, k + 1, hk, h0, h => by
    unfold fixE
    rw [if_pos (show relE ops at_ S r = 0 from h0 0 (by simp) (by omega))]
    exact fixE_bad ops at_ S (l := l) (k := k) (by simpa using hk) (fun j hj hjk => h0 (j + 1) (by simpa using hj) (by omega)) h
theorem fixE_good (ops : List OpD) (at_ : Int) (S : List SymD) : ∀ {l : List RelD}, (∀ j (hj : j < l.length), relE ops at_ S l[j] = 0) → fixE ops at_ S l = 0
  | [], _ => rfl
  | r :: l, h => by
    unfold fixE
    rw [if_pos (show relE ops at_ S r = 0 from h 0 (by simp))]
    exact fixE_good ops at_ S (l := l) fun j hj => h (j + 1) (by simpa using hj)
theorem flat_imm (n : Int) : ∀ {l : List OpD} {i : Nat} (_ : i < l.length), (l.flatMap OpD.cells).set (i * 5 + 4) (.int .i64 n) = (l.modify i (setImm n)).flatMap OpD.cells
  | p :: l, 0, _ => by simp [OpD.cells, setImm]
  | p :: l, i + 1, hi => by
    have ih := flat_imm n (l := l) (i := i) (by simpa using hi)
    simp only [List.flatMap_cons, List.modify_succ_cons]
    rw [← ih, List.set_append]
    rw [if_neg (by rw [OpD.len]; omega), OpD.len, show (i + 1) * 5 + 4 - 5 = i * 5 + 4 by omega]
theorem own_form {w : World} {base : Nat} {e : TypeId} {size n : Nat} {v : Value} {xs : List Value} (h : w.ownsRow base e size v n xs) : ∃ A c, v = .slice A n c ∧ (0 < n → ∃ g, A = some ⟨g, 0, none⟩) := by
  obtain ⟨_, ⟨rfl, rfl⟩ | ⟨g, cap, cur, rfl, _⟩⟩ := h
  · exact ⟨none, 0, rfl, fun h => absurd h (Nat.lt_irrefl 0)⟩
  · exact ⟨_, _, rfl, fun _ => ⟨g, rfl⟩⟩
end Go.Proofs.YtajhehmkdlebbaaDoor.Pl
