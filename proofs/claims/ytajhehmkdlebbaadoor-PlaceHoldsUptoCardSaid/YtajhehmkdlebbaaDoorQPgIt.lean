/- page.of, page.places: the iterator over places. -/
import Derived.Test.YtajhehmkdlebbaaDoorQPgLd
import Derived.RangeFuncNested
import Derived.RangeFuncBound
import Derived.RangeFuncCalls
import Derived.RangeFuncLeaves
import Derived.Shelf.Abstract
import Derived.Shelf.RegionOpen
import Derived.OwnWalkIn
import Derived.TacticsInMore
import Derived.LoopNIn
import Derived.LoopIn
namespace Go.Proofs.YtajhehmkdlebbaaDoor
open Go.ChangeShapes Go.WideShapes Go.ChangeAt Go.RowKit Go.Deep Go.Maps Go.WideMaps
set_option maxRecDepth 100000
theorem of_any (a : Int) (w : World) (_ha : 0 ≤ a ∧ a ≤ 18446744073709551615) :
    Calls Tryd.prog 96 #[.int .u64 a] w fun e w' => e = .returned (.agg #[.int .u64 (a - a % 256)]) ∧ w' = w.alloc (.cells #[.int .u64 (a - a % 256)] 164) := by
  have e1 : IntKind.u64.wrap (a - a % 256) = a - a % 256 := by rw [IntKind.wrap_u64]; omega
  go_enter Tryd.func96, Tryd.ntmps96
  go_wp2
  refine bodyPost_ret (v := .agg #[.int .u64 (a - a % 256)]) ?_ rfl ⟨rfl, rfl⟩
  simp [results, Tryd.results96, go_sem]
/-- what the iterator over places has captured: n, at and the table, in blocks of their own -/
def ItAt (w : World) (lo hT : Nat) (L : List Pg) (at_ n : Int) : Prop :=
  lo + 2 < hT ∧ hT < w.heap.size ∧ w.cell? ⟨lo, 0, none⟩ = some (.int .u64 at_) ∧ w.cell? ⟨lo + 1, 0, none⟩ = some (.int .i64 n) ∧ w.cell? ⟨hT, 0, none⟩ = some (.map (some (lo + 2))) ∧ TabAt w (lo + 2) L L.length
/-- the blocks from lo on, below hi, stay -/
def KpB (lo hi : Nat) (W W' : World) : Prop := W.heap.size ≤ W'.heap.size ∧ ∀ k, lo ≤ k → k < hi → W'.heap[k]? = W.heap[k]?
theorem KpB.refl (lo hi : Nat) (W : World) : KpB lo hi W W := ⟨Nat.le_refl _, fun _ _ _ => rfl⟩
theorem KpB.trans {lo hi : Nat} {A B C : World} (h : KpB lo hi A B) (k : KpB lo hi B C) : KpB lo hi A C := ⟨Nat.le_trans h.1 k.1, fun j h1 h2 => (k.2 j h1 h2).trans (h.2 j h1 h2)⟩
theorem KpB.of_below {lo hi B : Nat} {W W' : World} (h : Below B W W') (hB : hi ≤ B) : KpB lo hi W W' := ⟨h.size, fun k _ h2 => h.block k (by omega)⟩
theorem TabAt.block {w w' : World} {b k : Nat} {l : List Pg} (h : TabAt w b l k) (hb : w'.heap[b]? = w.heap[b]?) : TabAt w' b l k := by
  obtain ⟨D, ⟨es, clock, h1, F, h2, h3⟩, hD⟩ := h
  exact ⟨D, ⟨es, clock, hb.trans h1, F, h2, h3⟩, hD⟩
theorem ItAt.kept {w w' : World} {lo hT : Nat} {L : List Pg} {at_ n : Int} (h : ItAt w lo hT L at_ n) (hk : KpB lo (hT + 1) w w') : ItAt w' lo hT L at_ n := by
  obtain ⟨h1, h2, h3, h4, h5, h6⟩ := h
  refine ⟨h1, Nat.lt_of_lt_of_le h2 hk.1, ?_, ?_, ?_, h6.block (hk.2 _ (by omega) (by omega))⟩
  · rw [World.cell?_of_block (w := w) (hk.2 lo (by omega) (by omega))]; exact h3
  · rw [World.cell?_of_block (w := w) (hk.2 (lo + 1) (by omega) (by omega))]; exact h4
  · rw [World.cell?_of_block (w := w) (hk.2 hT (by omega) (by omega))]; exact h5
set_option maxHeartbeats 1000000 in
theorem places_any {A : Option Addr} {cap : Nat} {L : List Pg} {w : World} {B : Nat} (at_ n : Int) (hL : Mem w B A cap L) (hB : B ≤ w.heap.size) (hwf : ∀ p ∈ L, p.ok) (hlen : L.length ≤ 140737488351232) :
    Calls Tryd.prog 74 #[.slice A L.length cap, .int .u64 at_, .int .i64 n] w fun e w' => ∃ hT, e = .returned (.func (.func 95) #[] #[.pointer (some ⟨w.heap.size + 1, 0, none⟩), .pointer (some ⟨w.heap.size, 0, none⟩), .pointer (some ⟨hT, 0, none⟩)]) ∧ ItAt w' w.heap.size hT L at_ n ∧ Below w.heap.size w w' := by
  have HWF := Lib.hid hwf
  have k0 : Below w.heap.size w ((w.alloc (.cells #[.int .u64 at_] 24)).alloc (.cells #[.int .i64 n] 3)) := ((Below.refl _ _).alloc (Nat.le_refl _) _).alloc (by simp) _
  have b0 : ((w.alloc (.cells #[.int .u64 at_] 24)).alloc (.cells #[.int .i64 n] 3)).cell? ⟨w.heap.size, 0, none⟩ = some (.int .u64 at_) := cell_alloc2 _ _ _ _ _
  have b1 : ((w.alloc (.cells #[.int .u64 at_] 24)).alloc (.cells #[.int .i64 n] 3)).cell? ⟨w.heap.size + 1, 0, none⟩ = some (.int .i64 n) := by
    have := cell_of_row _ _ 0 _ _ _ (heap_alloc_new (w.alloc (.cells #[.int .u64 at_] 24)) (.cells #[.int .i64 n] 3))
    rw [World.size_alloc] at this
    exact this
  have K0 := Lib.hid k0
  have B0 := Lib.hid b0
  have B1 := Lib.hid b1
  clear hwf k0 b0 b1
  go_enter Tryd.func74, Tryd.ntmps74
  go_wp2_with fail
  refine (table_any (Sl.In.below hL (K0.out.mono hB)) (Nat.le_trans hB K0.out.size) HWF.out hlen).mono ?_
  rintro e w1 ⟨rfl, hT, hb1⟩
  have c0 := Lib.hid ((hb1.cell (p := ⟨w.heap.size, 0, none⟩) (by simp; omega)).trans B0.out)
  have c1 := Lib.hid ((hb1.cell (p := ⟨w.heap.size + 1, 0, none⟩) (by simp)).trans B1.out)
  have hT' := Lib.hid hT
  have K1 := Lib.hid (K0.out.trans (hb1.mono K0.out.size))
  have hz := hT.lt
  clear hT
  have hsz : ((w.alloc (.cells #[.int .u64 at_] 24)).alloc (.cells #[.int .i64 n] 3)).heap.size = w.heap.size + 2 := by simp
  rw [hsz] at hz
  have HSZ := Lib.hid hsz
  clear hsz
  go_wp2
  go_ret
  have ka : Below w1.heap.size w1 (w1.alloc (.cells #[.map (some (w.heap.size + 2))] 159)) := (Below.refl _ _).alloc (Nat.le_refl _) _
  refine ⟨w1.heap.size, rfl, ⟨hz, by simp, ?_, ?_, ?_, ?_⟩, ?_⟩
  · exact (ka.cell (p := ⟨w.heap.size, 0, none⟩) (by show w.heap.size < w1.heap.size; omega)).trans c0.out
  · exact (ka.cell (p := ⟨w.heap.size + 1, 0, none⟩) (by show w.heap.size + 1 < w1.heap.size; omega)).trans c1.out
  · rw [cell_of_row _ _ _ _ _ _ (heap_alloc_new w1 _)]; rfl
  · have := hT'.out
    rw [HSZ.out] at this
    exact this.below ka
  · exact K1.out.trans (ka.mono K1.out.size)
/-- what the table says of a place -/
def ixI (l : List Pg) (a : Int) : Int := match lastIx l a l.length with
  | some i => i
  | none => 0
theorem tab_look {w : World} {b : Nat} {L : List Pg} {a : Int} (h : TabAt w b L L.length) (ha : 0 ≤ a ∧ a ≤ 18446744073709551615) :
    (Instr.lookup 159 (.map (some b)) (.agg #[.int .u64 a]) true).run Tryd.prog w = .ok (.tuple #[.int .i64 (ixI L a), .bool (lastIx L a L.length).isSome]) w := by
  obtain ⟨D, hown, hD⟩ := h
  have hz : (zeroValue 3).run Tryd.prog w = .ok (.int .i64 0) w := by kernel_rfl
  obtain ⟨v, ps, hrun, hv⟩ := hown.look_ok p_law Tryd.underlying159 hz (plainElem_int Tryd.underlying3 (by decide)) (keyOf_page ha)
  obtain ⟨c, rfl, hc, _⟩ := plainElem_int_inv Tryd.underlying3 hv
  rw [hrun, (hD.2 a ha).1]
  have h2 := (hD.2 a ha).2
  have h3 : D.atKey (keyL a) zD = .lit (.int .i64 c) := congrArg Prod.fst hc
  rw [h3] at h2
  have : c = ixI L a := by
    unfold ixI
    cases hl : lastIx L a L.length with
    | none => rw [hl] at h2; simp only [ixD, zD, DataW.lit.injEq, Lit.int.injEq, true_and] at h2; exact h2
    | some i => rw [hl] at h2; simp only [ixD, DataW.lit.injEq, Lit.int.injEq, true_and] at h2; exact h2
  rw [this]
/-- place number k, and its page; below 0: there is none -/
def toI (at_ : Int) (k : Nat) : Int := (at_ + k) % 18446744073709551616
def pgI (l : List Pg) (at_ : Int) (k : Nat) : Int := if toI at_ k < at_ then -1 else if (lastIx l (toI at_ k - toI at_ k % 256) l.length).isSome then ixI l (toI at_ k - toI at_ k % 256) else -1
theorem range_len (k : Nat) : (List.range k).length = k := List.length_range
attribute [local go_sem] Oper.semAt_some
set_option maxHeartbeats 2000000 in
theorem it_in {α : Type} (f : Nat → α) (encs : α → Array Value) (n : Nat) (hn : 1 ≤ n) (l lo hT N : Nat) (L : List Pg) (at_ : Int) (hE : ∀ k, k < N → encs (f k) = #[.int .u64 (toI at_ k), .int .i64 (pgI L at_ k)]) (hN : N ≤ 140737488351232) (J Jx : List α → World → Prop)
    (hY : ∀ pre x W, J pre W → pre.length < N → YieldAt Fence.wide (n - 1) Tryd.prog l (encs x) W fun e W' =>
      (e = .returned (.bool true) ∧ J (pre ++ [x]) W' ∧ KpB lo (hT + 1) W W') ∨ (e = .returned (.bool false) ∧ Jx (pre ++ [x]) W'))
    {B0 : Nat} (hJ : AbidesFrom B0 J) (W : World) (hIt : ItAt W lo hT L at_ N) (h0 : J [] W) :
    CallsIn Fence.wide n Tryd.prog 95 #[.func (.yield l) #[] #[], .pointer (some ⟨lo + 1, 0, none⟩), .pointer (some ⟨lo, 0, none⟩), .pointer (some ⟨hT, 0, none⟩)] W fun e W' => (∃ v, e = .returned v) ∧
      ((∃ ys, ys = (List.range N).map f ∧ J ys W') ∨ (∃ pre, (∃ k, k ≤ N ∧ pre = (List.range k).map f) ∧ Jx pre W')) := by
  obtain ⟨h1, h2, b0, b1, b2, hTab⟩ := hIt
  have hmx : Tryd.prog.follows .mixedOrders = true := by kernel_rfl
  refine callsIn_of_wp Tryd.func95 rfl trivial ?_ rfl
  simp only [Tryd.ntmps95, List.size_toArray, List.length_cons, List.length_nil, Nat.reduceAdd, Nat.reduceSub, Array.replicate_succ, Array.replicate_zero, List.push_toArray, List.append_toArray, List.nil_append, List.cons_append]
  gi_wp2
  gi_loopw [10] (fun i wr => ∃ k : Nat, k ≤ N ∧ i = .int .i64 k ∧ J ((List.range k).map f) wr ∧ KpB lo (hT + 1) W wr) (fun i _ => N - (intOf i).toNat)
  case atStart => exact ⟨0, Nat.zero_le _, rfl, h0, KpB.refl _ _ _⟩
  case round =>
    obtain ⟨k, hk, rfl, hJs, hnx⟩ := hrel
    have hI2 : ItAt wr lo hT L at_ N := ItAt.kept ⟨h1, h2, b0, b1, b2, hTab⟩ hnx
    obtain ⟨g1, g2, d0, d1, d2, hT2⟩ := hI2
    by_cases hlt : k < N
    · obtain ⟨T, hT0⟩ : ∃ T, T = IntKind.u64.wrap (at_ + (k : Int)) := ⟨_, rfl⟩
      have hT3 : T = toI at_ k := by rw [hT0, IntKind.wrap_u64]; rfl
      have hTb : 0 ≤ T ∧ T ≤ 18446744073709551615 := by rw [hT3]; unfold toI; omega
      have hTr : IntKind.u64.wrap (at_ + (k : Int)) = T := hT0.symm
      have hl1 := tab_look (w := (wr.alloc (.cells #[.int .u64 (T - T % 256)] 164)).drew) (a := T - T % 256) (hT2.below ((Below.refl _ _).alloc (Nat.le_refl _) _).drew) (by omega)
      have HT3 := Lib.hid hT3
      clear hT0 hT3
      have hlo : lo < wr.heap.size := by omega
      have hb3 : Below wr.heap.size wr (wr.alloc (.cells #[.int .u64 (T - T % 256)] 164)).drew := ((Below.refl _ _).alloc (Nat.le_refl _) _).drew
      have hJ1 := Lib.hid (hJ _ _ _ none hJs (grown0 hb3) (fun r e => by cases e))
      have HB3 := Lib.hid hb3
      clear hb3
      cases hc1 : (lastIx L (T - T % 256) L.length).isSome
      · by_cases hc2 : T < at_
        · have hx : pgI L at_ k = -1 := by unfold pgI; rw [← HT3.out, if_pos hc2]
          have HX := Lib.hid hx
          obtain ⟨fn, tmps, assign, body, hy, hR⟩ := hY _ (f k) _ hJ1.out (by rw [List.length_map, range_len]; exact hlt)
          rw [hE k hlt] at hy
          rw [HX.out, ← HT3.out] at hy
          rw [hc1] at hl1
          clear hx hc1
          gi_wp2
          gi_region_with_o ((try refine ⟨trivial, ?_⟩); gi_at_call 96; refine (callsIn_wide.2 (of_any T _ hTb)).mono ?_; rintro e w' ⟨rfl, rfl⟩)
          all_goals gi_wp2
          all_goals
            refine hR.mono ?_
            rintro e W3 (⟨rfl, hJ3, hk3⟩ | ⟨rfl, hJx3⟩)
            · gi_wp2
              go_roundw
              case rel => exact ⟨k + 1, hlt, by go_num, by rw [List.range_succ, List.map_append]; exact hJ3, hnx.trans ((KpB.of_below HB3.out g2).trans hk3)⟩
              case measure => simp [intOf]; omega
            · gi_wp2
              refine bodyPost_ret (results_none rfl _ _ _) rfl ?_
              exact ⟨⟨_, rfl⟩, .inr ⟨_, ⟨k + 1, hlt, by rw [List.range_succ, List.map_append]; rfl⟩, hJx3⟩⟩
        · have hx : pgI L at_ k = -1 := by unfold pgI; rw [← HT3.out, if_neg hc2, hc1]; simp []
          have HX := Lib.hid hx
          obtain ⟨fn, tmps, assign, body, hy, hR⟩ := hY _ (f k) _ hJ1.out (by rw [List.length_map, range_len]; exact hlt)
          rw [hE k hlt] at hy
          rw [HX.out, ← HT3.out] at hy
          rw [hc1] at hl1
          clear hx hc1
          gi_wp2
          gi_region_with_o ((try refine ⟨trivial, ?_⟩); gi_at_call 96; refine (callsIn_wide.2 (of_any T _ hTb)).mono ?_; rintro e w' ⟨rfl, rfl⟩)
          all_goals gi_wp2
          all_goals
            refine hR.mono ?_
            rintro e W3 (⟨rfl, hJ3, hk3⟩ | ⟨rfl, hJx3⟩)
            · gi_wp2
              go_roundw
              case rel => exact ⟨k + 1, hlt, by go_num, by rw [List.range_succ, List.map_append]; exact hJ3, hnx.trans ((KpB.of_below HB3.out g2).trans hk3)⟩
              case measure => simp [intOf]; omega
            · gi_wp2
              refine bodyPost_ret (results_none rfl _ _ _) rfl ?_
              exact ⟨⟨_, rfl⟩, .inr ⟨_, ⟨k + 1, hlt, by rw [List.range_succ, List.map_append]; rfl⟩, hJx3⟩⟩
      · by_cases hc2 : T < at_
        · have hx : pgI L at_ k = -1 := by unfold pgI; rw [← HT3.out, if_pos hc2]
          have HX := Lib.hid hx
          obtain ⟨fn, tmps, assign, body, hy, hR⟩ := hY _ (f k) _ hJ1.out (by rw [List.length_map, range_len]; exact hlt)
          rw [hE k hlt] at hy
          rw [HX.out, ← HT3.out] at hy
          rw [hc1] at hl1
          clear hx hc1
          gi_wp2
          gi_region_with_o ((try refine ⟨trivial, ?_⟩); gi_at_call 96; refine (callsIn_wide.2 (of_any T _ hTb)).mono ?_; rintro e w' ⟨rfl, rfl⟩)
          all_goals gi_wp2
          all_goals
            refine hR.mono ?_
            rintro e W3 (⟨rfl, hJ3, hk3⟩ | ⟨rfl, hJx3⟩)
            · gi_wp2
              go_roundw
              case rel => exact ⟨k + 1, hlt, by go_num, by rw [List.range_succ, List.map_append]; exact hJ3, hnx.trans ((KpB.of_below HB3.out g2).trans hk3)⟩
              case measure => simp [intOf]; omega
            · gi_wp2
              refine bodyPost_ret (results_none rfl _ _ _) rfl ?_
              exact ⟨⟨_, rfl⟩, .inr ⟨_, ⟨k + 1, hlt, by rw [List.range_succ, List.map_append]; rfl⟩, hJx3⟩⟩
        · have hx : pgI L at_ k = ixI L (T - T % 256) := by unfold pgI; rw [← HT3.out, if_neg hc2, hc1]; simp []
          have HX := Lib.hid hx
          obtain ⟨fn, tmps, assign, body, hy, hR⟩ := hY _ (f k) _ hJ1.out (by rw [List.length_map, range_len]; exact hlt)
          rw [hE k hlt] at hy
          rw [HX.out, ← HT3.out] at hy
          rw [hc1] at hl1
          clear hx hc1
          gi_wp2
          gi_region_with_o ((try refine ⟨trivial, ?_⟩); gi_at_call 96; refine (callsIn_wide.2 (of_any T _ hTb)).mono ?_; rintro e w' ⟨rfl, rfl⟩)
          all_goals gi_wp2
          all_goals
            refine hR.mono ?_
            rintro e W3 (⟨rfl, hJ3, hk3⟩ | ⟨rfl, hJx3⟩)
            · gi_wp2
              go_roundw
              case rel => exact ⟨k + 1, hlt, by go_num, by rw [List.range_succ, List.map_append]; exact hJ3, hnx.trans ((KpB.of_below HB3.out g2).trans hk3)⟩
              case measure => simp [intOf]; omega
            · gi_wp2
              refine bodyPost_ret (results_none rfl _ _ _) rfl ?_
              exact ⟨⟨_, rfl⟩, .inr ⟨_, ⟨k + 1, hlt, by rw [List.range_succ, List.map_append]; rfl⟩, hJx3⟩⟩
    · obtain rfl : k = N := by omega
      gi_wp2
      go_end0
      exact ⟨⟨_, rfl⟩, .inl ⟨_, rfl, hJs⟩⟩
/-- what page.places hands back, as a range over it takes it; place number k as 'f k' -/
theorem it_stopsF {α : Type} (f : Nat → α) (encs : α → Array Value) (n : Nat) (hn : 1 ≤ n) {lo hT N : Nat} {L : List Pg} {at_ : Int} (hE : ∀ k, k < N → encs (f k) = #[.int .u64 (toI at_ k), .int .i64 (pgI L at_ k)]) (hN : N ≤ 140737488351232) {w : World} (hIt : ItAt w lo hT L at_ N) :
    SeqStopsK Fence.wide n Tryd.prog 95 #[.pointer (some ⟨lo + 1, 0, none⟩), .pointer (some ⟨lo, 0, none⟩), .pointer (some ⟨hT, 0, none⟩)] encs (KpB lo (hT + 1)) (fun ys => ys = (List.range N).map f)
      (fun pre => ∃ k, k ≤ N ∧ pre = (List.range k).map f) N w := fun l J Jx W hW hJ _ hY h0 =>
  it_in f encs n hn l lo hT N L at_ hE hN J Jx hY hJ W (hIt.kept (KpB.of_below hW hIt.2.1)) h0
theorem it_stops (n : Nat) (hn : 1 ≤ n) {lo hT N : Nat} {L : List Pg} {at_ : Int} (hN : N ≤ 140737488351232) {w : World} (hIt : ItAt w lo hT L at_ N) :
    SeqStopsK Fence.wide n Tryd.prog 95 #[.pointer (some ⟨lo + 1, 0, none⟩), .pointer (some ⟨lo, 0, none⟩), .pointer (some ⟨hT, 0, none⟩)] (fun x : Nat => #[Value.int .u64 (toI at_ x), Value.int .i64 (pgI L at_ x)]) (KpB lo (hT + 1)) (fun ys => ys = List.range N)
      (fun pre => ∃ k, k ≤ N ∧ pre = List.range k) N w := by
  have := it_stopsF (fun x => x) (fun x : Nat => #[Value.int .u64 (toI at_ x), Value.int .i64 (pgI L at_ x)]) n hn (fun _ _ => rfl) hN hIt
  simpa using this
theorem kpB_put {lo hi : Nat} {W : World} {l : Nat} {o' : Obj} (h : hi ≤ l) : KpB lo hi W (W.putObj l o') :=
  ⟨by simp, fun k _ h2 => World.putObj_heap_other (by omega)⟩
end Go.Proofs.YtajhehmkdlebbaaDoor
