/- page.table: where each page stands; page.of. -/
import Derived.Test.YtajhehmkdlebbaaDoorPgLoad
import Derived.Maps.Own
import Derived.Maps.OwnSet
import Derived.Maps.Views
namespace Go.Proofs.YtajhehmkdlebbaaDoor
open Go.ChangeShapes Go.WideShapes Go.ChangeAt Go.RowKit Go.Deep Go.Maps Go.WideMaps
set_option maxRecDepth 100000
theorem p_laidOut : laidOutB Tryd.prog = true := by kernel_rfl
theorem p_row : (164 : TypeId) < Tryd.prog.types.size := of_decide_eq_true (by kernel_rfl)
theorem p_wide : (match Tryd.prog.underlying 164 with | some (.array _ _) | some (.struct _) => true | _ => false) = true := by rw [Tryd.underlying164]
theorem p_law : Keyed Tryd.prog 164 := Keyed.of_law (deep_law_laid p_laidOut (m := 2) (by omega) p_row (by kernel_rfl) p_wide)
def keyL (a : Int) : Lit := .string (keyBytes [.int .u64 a])
theorem keyOf_page {a : Int} (h : 0 ≤ a ∧ a ≤ 18446744073709551615) : keyOf Tryd.prog 164 (.agg #[.int .u64 a]) = some (keyL a) := by
  have hw : (Lit.int .u64 a).wf = true := by go_wf
  have hk : Tryd.prog.keyType 164 = true := by kernel_rfl
  have hs : Tryd.prog.cellsOf 164 = 1 := by kernel_rfl
  have hu : Tryd.prog.cellsOf 24 = 1 := by kernel_rfl
  obtain ⟨n, hn⟩ := Nat.exists_eq_succ_of_ne_zero (Nat.ne_of_gt (Nat.lt_of_le_of_lt (Nat.zero_le _) p_row))
  unfold keyOf
  rw [Tryd.underlying164]
  simp only [hk, Value.formed, Tryd.underlying164, hs, hn]
  simp [Program.keyLits, Tryd.underlying164, Tryd.underlying24, hs, hu, hw, Value.cells, keyL]
theorem keyL_inj {a b : Int} (ha : 0 ≤ a ∧ a ≤ 18446744073709551615) (hb : 0 ≤ b ∧ b ≤ 18446744073709551615) (h : keyL a = keyL b) : a = b := by
  have h1 := keyOf_page ha
  have h2 := keyOf_page hb
  rw [h] at h1
  have := p_law.inj h1 h2
  simpa using this
/-- the last of the first k pages that begins at a place -/
def lastIx (l : List Pg) (a : Int) : Nat → Option Nat
  | 0 => none
  | k + 1 => if (l[k]?).map Pg.at_ = some a then some k else lastIx l a k
abbrev zD : DataW Unit := .lit (.int .i64 0)
def ixD : Option Nat → DataW Unit
  | some i => .lit (.int .i64 i)
  | none => zD
def TabD (D : DataW Unit) (l : List Pg) (k : Nat) : Prop := IsMap D ∧ ∀ a : Int, 0 ≤ a ∧ a ≤ 18446744073709551615 → Maps.has D (keyL a) = (lastIx l a k).isSome ∧ D.atKey (keyL a) zD = ixD (lastIx l a k)
theorem tabD_zero (l : List Pg) : TabD (.map []) l 0 := ⟨isMap_empty, fun _ _ => ⟨rfl, rfl⟩⟩
theorem tabD_step {D : DataW Unit} {l : List Pg} {k : Nat} (h : TabD D l k) (hk : k < l.length) (ha : 0 ≤ (l[k]).at_ ∧ (l[k]).at_ ≤ 18446744073709551615) : TabD (D.put (keyL (l[k]).at_) (.lit (.int .i64 k))) l (k + 1) := by
  have hg : (l[k]?).map Pg.at_ = some (l[k]).at_ := by rw [List.getElem?_eq_getElem hk]; rfl
  have hkl : WideAt.IsKeyLit (keyL (l[k]).at_) := p_law.key (keyOf_page ha)
  refine ⟨h.1.put _ _, fun a hab => ?_⟩
  by_cases e : a = (l[k]).at_
  · subst e
    have hl : lastIx l (l[k]).at_ (k + 1) = some k := by unfold lastIx; rw [if_pos hg]
    rw [hl]
    exact ⟨has_put_same h.1 hkl _, atKey_put_same h.1 hkl _ _⟩
  · have hl : lastIx l a (k + 1) = lastIx l a k := by
      show (if _ then _ else _) = _
      rw [if_neg (by rw [hg]; simpa using fun h => e h.symm)]
    have hne : keyL a ≠ keyL (l[k]).at_ := fun h' => e (keyL_inj hab ha h')
    rw [hl, has_put_other hne, atKey_put_other hne]
    exact h.2 a hab
/-- the map in block b tells where each page stands -/
def TabAt (w : World) (b : Nat) (l : List Pg) (k : Nat) : Prop := ∃ D : DataW Unit, w.ownsMap Tryd.prog 164 (plainElem Tryd.prog 3) b k D ∧ TabD D l k
theorem TabAt.kept {w w' : World} {b k : Nat} {l : List Pg} {row : Option Nat} (h : TabAt w b l k) (hg : w.grownBy w' row) (hne : some b ≠ row) : TabAt w' b l k := by
  obtain ⟨D, h1, h2⟩ := h
  exact ⟨D, h1.kept hg hne, h2⟩
theorem TabAt.below {w w' : World} {b k : Nat} {l : List Pg} (h : TabAt w b l k) (hb : Below w.heap.size w w') : TabAt w' b l k := h.kept (grown0 hb) (by simp)
theorem TabAt.lt {w : World} {b k : Nat} {l : List Pg} (h : TabAt w b l k) : b < w.heap.size := by
  obtain ⟨D, h1, _⟩ := h
  exact h1.lt
set_option maxHeartbeats 1000000 in
theorem table_any {A : Option Addr} {cap : Nat} {L : List Pg} {w : World} {B : Nat} (hL : Mem w B A cap L) (hB : B ≤ w.heap.size) (hwf : ∀ p ∈ L, p.ok) (hlen : L.length ≤ 140737488351232) :
    Calls Tryd.prog 94 #[.slice A L.length cap] w fun e w' => e = .returned (.map (some w.heap.size)) ∧ TabAt w' w.heap.size L L.length ∧ Below w.heap.size w w' := by
  have HWF := Lib.hid hwf
  have hmm := @run_makeMap Tryd.prog
  clear hwf
  go_enter Tryd.func94, Tryd.ntmps94
  go_wp2
  go_loopw [9] (fun i wr => ∃ k : Nat, k ≤ L.length ∧ i = .int .i64 k ∧ TabAt wr w.heap.size L k ∧ Below w.heap.size w wr) (fun i _ => L.length - (intOf i).toNat)
  case atStart => exact ⟨0, Nat.zero_le _, rfl, ⟨_, World.ownsMap_made _ _ _ _, tabD_zero L⟩, (Below.refl _ _).alloc (Nat.le_refl _) _⟩
  case round =>
    obtain ⟨k, hk, rfl, hT, hbw⟩ := hrel
    by_cases hlt : k < L.length
    · obtain ⟨b, off, rfl, hb, c0, c1, c2⟩ := Mem.pg (Sl.In.below hL (hbw.mono hB)) hlt
      obtain ⟨ha, hp, hd⟩ := HWF.out _ (List.getElem_mem hlt)
      obtain ⟨D, hown, hD⟩ := hT
      have hso := hbw.size
      have hstep := tabD_step hD hlt ha
      have HS := Lib.hid hstep
      have hown1 := hown.alloc (.cells #[.int .u64 (L[k]).at_, .int .i64 (L[k]).perm, .string (L[k]).data] 41)
      have HO := Lib.hid hown1
      clear hstep hown hown1 hD
      go_wp2_with (at_mapUpdate; refine wpList_mapUpdate_own (H := Unit) _ rfl _ _ _ 159 rfl 164 3 p_law Tryd.underlying159 _ w.heap.size k _ rfl HO.out (by unfold maxLen; omega) _ _ _ rfl rfl (keyOf_page ha) _ [] (plainElem_int Tryd.underlying3 (by go_wf)) ?_; intro w1 hown2 hgrow)
      exact ⟨⟨k + 1, hlt, by go_num, ⟨_, hown2, HS.out⟩, (hbw.alloc hso _).grown hgrow (by simp; omega) (fun j e => by cases e; exact Nat.le_refl _)⟩, by simp [intOf]; omega⟩
    · obtain rfl : k = L.length := by omega
      go_wp2
      go_ret
      exact ⟨rfl, hT, hbw⟩
end Go.Proofs.YtajhehmkdlebbaaDoor
