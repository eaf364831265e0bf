/- slices.Clone at memory: a copy of the call's own. -/
import Derived.Test.YtajhehmkdlebbaaDoorPgWr
import Derived.Lib.LazyBuf
namespace Go.Proofs.YtajhehmkdlebbaaDoor
open Go.ChangeShapes Go.WideShapes Go.ChangeAt Go.RowKit Go.Deep Go.Maps Go.WideMaps
set_option maxRecDepth 100000
/-- memory as a slice value: where its pages lie -/
def MemV (w : World) (v : Value) (L : List Pg) : Prop := ∃ A cap, v = .slice A L.length cap ∧ Mem w w.heap.size A cap L ∧ (A = none → cap = 0)
theorem pgCells_len (p : Pg) : p.cells.length = 3 := rfl
/-- .. a row of the call's own -/
def OwnV (w : World) (base : Nat) (v : Value) (L : List Pg) : Prop := w.ownsRow base 41 3 v L.length (L.flatMap Pg.cells)
theorem own_nil_cap {w : World} {base : Nat} {e : TypeId} {size n : Nat} {v : Value} {xs : List Value} (h : w.ownsRow base e size v n xs) : ∀ {A cap}, v = .slice A n cap → A = none → cap = 0 := by
  rintro A cap rfl rfl
  obtain ⟨_, ⟨e, rfl⟩ | ⟨g, c, cur, e, _⟩⟩ := h
  · cases e; rfl
  · cases e
theorem OwnV.mem {w : World} {base : Nat} {v : Value} {L : List Pg} (h : OwnV w base v L) : MemV w v L := by
  obtain ⟨S, cap, rfl, hin⟩ := Sl.of_own pgCells_len h rfl
  exact ⟨S, cap, rfl, hin, own_nil_cap h rfl⟩
theorem clone_any {A : Option Addr} {cap : Nat} {L : List Pg} {w : World} {B : Nat} (hL : Mem w B A cap L) (h0 : A = none → cap = 0) (hlen : L.length ≤ 64) :
    Calls Tryd.prog 97 #[.slice A L.length cap] w fun e w' => ∃ v, e = .returned v ∧ OwnV w' w.heap.size v L ∧ Below w.heap.size w w' := by
  have q37 : ∀ (w : World) (a : Option Addr) (n c : Nat), (binOp .eql 32 (.slice a n c) (.slice none 0 0)).run Tryd.prog w = .ok (.bool a.isNone) w := fun w a n c => run_eql_slice_nil w _ _ a n c Tryd.underlying32
  cases A with
  | none =>
    obtain rfl : L = [] := by
      cases L with
      | nil => rfl
      | cons y l => obtain ⟨b, off, hb, _⟩ := hL.2 0 y rfl; cases hb
    obtain rfl := h0 rfl
    go_enter Tryd.func97, Tryd.ntmps97
    go_wp2
    go_ret
    exact ⟨_, rfl, World.ownsRow_nil _ _ _ _, Below.refl _ _⟩
  | some ad =>
    obtain ⟨i0, hi, hz0, hz1, hz2⟩ := info_parts Tryd.info41
    have HL := Lib.hid (Sl.In.flat pgCells_len (by omega) hL)
    have h1 : ∀ u ∈ L.flatMap Pg.cells, u.oneCell' = true := fun u hu => by
      obtain ⟨y, _, hy⟩ := List.mem_flatMap.1 hu
      exact Pg.one y u hy
    have H1 := Lib.hid h1
    clear hL h1
    go_enter Tryd.func97, Tryd.ntmps97
    go_wp2_with
      (at_builtin
       refine wpList_append_own_wide _ rfl (.tmp 5) (.tmp 6) 32 rfl w.heap.size 41 i0 _ 3 32 Tryd.underlying32 hi hz0 hz1 hz2 rfl (by omega) _ 0 _ rfl (World.ownsRow_made w #[] 0 (Nat.le_refl _) (Nat.zero_le _) (by simp)) ad L.length cap _ rfl (flat_len pgCells_len L) ?_ H1.out ?_ ?_ ?_ ?_
       rotate_right
       intro v1 w1 hown hg _)
    go_ret
    refine ⟨v1, rfl, ?_, ((Below.refl _ _).alloc (Nat.le_refl _) _).grown hg (by simp) (fun k hk => ?_)⟩
    · unfold OwnV; simpa using hown
    · exact Nat.le_of_eq (Option.some.inj hk)
    case refine_1 =>
      intro j u hu
      have := HL.out j u hu
      exact ((((Below.refl w.heap.size w).alloc (Nat.le_refl _) _).cell (p := ad.add j) (cell_block_lt this).1)).trans this
    case refine_2 => unfold maxLen; omega
    case refine_3 => omega
    case refine_4 => simp
end Go.Proofs.YtajhehmkdlebbaaDoor
