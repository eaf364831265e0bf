/- slices.Backward over symbols; place.table: the walk. -/
import Derived.Test.YtajhehmkdlebbaaDoorPlTab
namespace Go.Proofs.YtajhehmkdlebbaaDoor.Pl
open Go.ChangeShapes Go.WideShapes Go.ChangeAt Go.RowKit Go.Deep Go.Maps Go.WideMaps
set_option maxRecDepth 100000
/-- block b stays, and all below B -/
def KpS (B b : Nat) (W W' : World) : Prop := W.heap.size ≤ W'.heap.size ∧ ∀ k, k < B ∨ k = b → W'.heap[k]? = W.heap[k]?
theorem KpS.refl (B b : Nat) (W : World) : KpS B b W W := ⟨Nat.le_refl _, fun _ _ => rfl⟩
theorem KpS.trans {B b : Nat} {X Y Z : World} (h : KpS B b X Y) (k : KpS B b Y Z) : KpS B b X Z := ⟨Nat.le_trans h.1 k.1, fun j hj => (k.2 j hj).trans (h.2 j hj)⟩
theorem KpS.of_below {B b D : Nat} {W W' : World} (h : Below D W W') (hB : B ≤ D) (hb : b < D) : KpS B b W W' := ⟨h.size, fun k hk => h.block k (by omega)⟩
theorem KpS.put {B b : Nat} {W : World} {l : Nat} {o' : Obj} (h : B ≤ l) (hb : b < l) : KpS B b W (W.putObj l o') :=
  ⟨by simp, fun k hk => World.putObj_heap_other (by omega)⟩
theorem KpS.grown {B b : Nat} {W W' : World} {row : Option Nat} (hg : W.grownBy W' row) (h : ∀ r, row = some r → B ≤ r ∧ r ≠ b) (hB : B ≤ W.heap.size) (hb : b < W.heap.size) : KpS B b W W' :=
  ⟨hg.size, fun k hk => hg.block k (by omega) (fun e => by have := h k e.symm; omega)⟩
theorem Sl.In.blocks {α : Type} {w w' : World} {B size : Nat} {cells : α → List Value} {s : Sl α} (h : s.In w B size cells) (hb : ∀ k, k < B → w'.heap[k]? = w.heap[k]?) : s.In w' B size cells := by
  refine ⟨h.1, fun k x hk => ?_⟩
  obtain ⟨b, off, h1, h2, h3⟩ := h.2 k x hk
  exact ⟨b, off, h1, h2, fun j u hu => by rw [World.cell?_of_block (w := w) (hb b h2)]; exact h3 j u hu⟩
def eS (L : List SymD) (k : Nat) : SymD := L.getD (L.length - 1 - k) ⟨ByteArray.empty, 0, false⟩
def encB (L : List SymD) (k : Nat) : Array Value := #[.int .i64 ((L.length - 1 - k : Nat) : Int), .agg #[.string (eS L k).name, .int .u64 (eS L k).at_, .bool (eS L k).fn]]
theorem bw_any (S : Option Addr) (n c : Nat) (w : World) :
    Calls Tryd.prog 76 #[.slice S n c] w fun e w' => e = .returned (.func (.func 98) #[] #[.pointer (some ⟨w.heap.size, 0, none⟩)]) ∧ w' = w.alloc (.cells #[.slice S n c] 56) := by
  go_enter Tryd.func76, Tryd.ntmps76
  go_wp2
  go_ret
  exact ⟨rfl, rfl⟩
attribute [local go_sem] Oper.semAt_some
set_option maxHeartbeats 2000000 in
theorem bw_in (n : Nat) (hn : 1 ≤ n) (l blk B : Nat) (S : Option Addr) (cap : Nat) (L : List SymD) (hlen : L.length ≤ 140737488351232) (J Jx : List Nat → World → Prop)
    (hY : ∀ pre x W, J pre W → pre.length < L.length → YieldAt Fence.wide (n - 1) Tryd.prog l (encB L x) W fun e W' =>
      (e = .returned (.bool true) ∧ J (pre ++ [x]) W' ∧ KpS B blk W W') ∨ (e = .returned (.bool false) ∧ Jx (pre ++ [x]) W'))
    (W : World) (hb : W.cell? ⟨blk, 0, none⟩ = some (.slice S L.length cap)) (hL : (⟨S, cap, L⟩ : Sl SymD).In W B 3 SymD.cells) (h0 : J [] W) :
    CallsIn Fence.wide n Tryd.prog 98 #[.func (.yield l) #[] #[], .pointer (some ⟨blk, 0, none⟩)] W fun e W' => (∃ v, e = .returned v) ∧
      ((∃ ys, ys = List.range L.length ∧ J ys W') ∨ (∃ pre, (∃ k, k ≤ L.length ∧ pre = List.range k) ∧ Jx pre W')) := by
  have hmx : Tryd.prog.follows .mixedOrders = true := by kernel_rfl
  refine callsIn_of_wp Tryd.func98 rfl trivial ?_ rfl
  simp only [Tryd.ntmps98, List.size_toArray, List.length_cons, List.length_nil, Nat.reduceAdd, Nat.reduceSub, Array.replicate_succ, Array.replicate_zero, List.push_toArray, List.append_toArray, List.nil_append, List.cons_append]
  gi_wp2
  gi_loopw [3] (fun i wr => ∃ r : Nat, r ≤ L.length ∧ i = .int .i64 ((r : Int) - 1) ∧ J (List.range (L.length - r)) wr ∧ KpS B blk W wr) (fun i _ => (intOf i + 1).toNat)
  case atStart => exact ⟨L.length, Nat.le_refl _, rfl, by rw [Nat.sub_self]; exact h0, KpS.refl _ _ _⟩
  case round =>
    obtain ⟨r, hr, rfl, hJs, hnx⟩ := hrel
    have hbw : wr.cell? ⟨blk, 0, none⟩ = some (.slice S L.length cap) := by rw [World.cell?_of_block (w := W) (hnx.2 blk (.inr rfl))]; exact hb
    cases r with
    | zero =>
      rw [Nat.sub_zero] at hJs
      have e0 : decide ((0 : Int) ≤ ((0 : Nat) : Int) - 1) = false := rfl
      gi_wp2
      go_end0
      exact ⟨⟨_, rfl⟩, .inl ⟨_, rfl, hJs⟩⟩
    | succ r =>
      have hlt : r < L.length := hr
      have hq : L.length - 1 - (L.length - (r + 1)) = r := by omega
      have he : eS L (L.length - (r + 1)) = L[r] := by unfold eS; rw [hq, List.getD_eq_getElem?_getD, List.getElem?_eq_getElem hlt]; rfl
      obtain ⟨fn, tmps, assign, body, hy, hR⟩ := hY _ (L.length - (r + 1)) _ hJs (by rw [List.length_range]; omega)
      have hcat : List.range (L.length - (r + 1)) ++ [L.length - (r + 1)] = List.range (L.length - r) := by
        rw [← List.range_succ]; congr 1; omega
      rw [hcat] at hR
      unfold encB at hy
      rw [hq, he] at hy
      obtain ⟨b, off, rfl, hbb, hc⟩ := (Sl.In.blocks hL (fun k hk => hnx.2 k (.inl hk))).2 r L[r] (List.getElem?_eq_getElem hlt)
      have c0 : wr.cell? ⟨b, off + r * 3, none⟩ = some (.string (L[r]).name) := hc 0 _ rfl
      have c1 : wr.cell? ⟨b, off + r * 3 + 1, none⟩ = some (.int .u64 (L[r]).at_) := hc 1 _ rfl
      have c2 : wr.cell? ⟨b, off + r * 3 + 2, none⟩ = some (.bool (L[r]).fn) := hc 2 _ rfl
      have ei : ((r + 1 : Nat) : Int) - 1 = (r : Int) := by omega
      rw [ei]
      have i1 : (0 : Int) ≤ (r : Int) := by omega
      have i2 : (r : Int) < (L.length : Int) := by omega
      have HNX := Lib.hid hnx
      have HQ := Lib.hid hq
      clear hc he hcat ei hnx hq
      gi_wp2
      refine hR.mono ?_
      rintro e W3 (⟨rfl, hJ3, hk3⟩ | ⟨rfl, hJx3⟩)
      · gi_wp2
        go_roundw
        case rel => exact ⟨r, by omega, rfl, hJ3, HNX.out.trans hk3⟩
        case measure => simp [intOf]
      · gi_wp2
        refine bodyPost_ret (results_none rfl _ _ _) rfl ?_
        exact ⟨⟨_, rfl⟩, .inr ⟨_, ⟨L.length - r, by omega, rfl⟩, hJx3⟩⟩
/-- what slices.Backward hands back, as a range over it takes it -/
theorem bw_stops (n : Nat) (hn : 1 ≤ n) {blk B : Nat} {S : Option Addr} {cap : Nat} {L : List SymD} (hlen : L.length ≤ 140737488351232) {w : World} (hb : w.cell? ⟨blk, 0, none⟩ = some (.slice S L.length cap)) (hblk : blk < w.heap.size) (hB : B ≤ w.heap.size) (hL : (⟨S, cap, L⟩ : Sl SymD).In w B 3 SymD.cells) :
    SeqStopsK Fence.wide n Tryd.prog 98 #[.pointer (some ⟨blk, 0, none⟩)] (encB L) (KpS B blk) (fun ys => ys = List.range L.length) (fun pre => ∃ k, k ≤ L.length ∧ pre = List.range k) L.length w :=
  fun l J Jx W hW _ _ hY h0 => bw_in n hn l blk B S cap L hlen J Jx hY W ((hW.cell (p := ⟨blk, 0, none⟩) hblk).trans hb) (hL.below (hW.mono hB)) h0
/-- the symbols that have come, the last one first -/
def revS (L : List SymD) (pre : List Nat) : List SymD := (pre.map (eS L)).reverse
theorem revS_snoc (L : List SymD) (pre : List Nat) (x : Nat) : revS L (pre ++ [x]) = eS L x :: revS L pre := by simp [revS]
theorem revS_all (L : List SymD) : revS L (List.range L.length) = L := by
  unfold revS
  refine List.ext_getElem (by simp) fun i h1 h2 => ?_
  rw [List.getElem_reverse, List.getElem_map, List.getElem_range]
  unfold eS
  rw [List.getD_eq_getElem?_getD, List.getElem?_eq_getElem (by first | (simp at *; done) | (simp at *; omega)), Option.getD_some]
  congr 1
  simp at *
  omega
theorem eS_ok {L : List SymD} (h : ∀ s ∈ L, s.ok) (k : Nat) : (eS L k).ok := by
  unfold eS
  rw [List.getD_eq_getElem?_getD]
  cases hx : L[L.length - 1 - k]? with
  | none => exact ⟨by decide, by decide⟩
  | some v => exact h v (List.mem_of_getElem? hx)
/-- a struct of three cells in a block of its own -/
theorem box3_own {β : Type} {B Bx : Nat} {A : Array Value} {t : TypeId} : OwnFrom B (fun (_ : β) W => W.heap[Bx]? = some (.cells A t (0, 0))) := by
  intro s X Y row hs hg hr
  exact (grownBy_keeps_cells hg (fun r e => (hr r e).2) hs rfl).trans hs
theorem TabAt.own {β : Type} {B b n : Nat} {l : List SymD} (h : b < B) : OwnFrom B (fun (_ : β) W => TabAt W b n l) := by
  intro s X Y row hs hg hr
  exact hs.kept hg (fun e => by have := (hr b e.symm).1; omega)
set_option maxHeartbeats 2000000 in
theorem table_any {S : Option Addr} {cap : Nat} {L : List SymD} {w : World} {B : Nat} (hL : (⟨S, cap, L⟩ : Sl SymD).In w B 3 SymD.cells) (hB : B ≤ w.heap.size) (hwf : ∀ s ∈ L, s.ok) (hlen : L.length ≤ 140737488351232) :
    Calls Tryd.prog 52 #[.slice S L.length cap] w fun e w' => e = .returned (.map (some w.heap.size)) ∧ TabAt w' w.heap.size L.length L ∧ Below w.heap.size w w' := by
  have hmm := @run_makeMap Tryd.prog
  obtain ⟨W3, hW3⟩ : ∃ W3, ((w.alloc (.map #[] 0)).alloc (.cells #[.map (some w.heap.size)] 96)).alloc (.cells #[.slice S L.length cap] 56) = W3 := ⟨_, rfl⟩
  have m0 : TabAt W3 w.heap.size 0 [] := by subst hW3; exact ⟨_, ((World.ownsMap_made _ _ _ _).alloc _).alloc _, tabS_nil⟩
  have c1 : W3.cell? ⟨w.heap.size + 1, 0, none⟩ = some (.map (some w.heap.size)) := by subst hW3; simp [go_sem]
  have c2 : W3.cell? ⟨w.heap.size + 1 + 1, 0, none⟩ = some (.slice S L.length cap) := by subst hW3; simp [go_sem]
  have s0 : W3.heap.size = w.heap.size + 3 := by subst hW3; simp
  have k0 : Below w.heap.size w W3 := by subst hW3; exact (((Below.refl _ _).alloc (Nat.le_refl _) _).alloc (by simp) _).alloc (by simp; omega) _
  have hL3 := hL.below (k0.mono hB)
  have HW := Lib.hid hW3
  have HWF := Lib.hid hwf
  have HLL := Lib.hid hL3
  clear hW3 hwf hL hL3
  refine (callsIn_wide (n := 10)).1 ?_
  refine callsIn_of_wp_marks Tryd.func52 rfl trivial ?_ rfl
  simp only [Tryd.ntmps52, List.size_toArray, List.length_cons, List.length_nil, Nat.reduceAdd, Nat.reduceSub, Array.replicate_succ, Array.replicate_zero, List.push_toArray, List.append_toArray, List.nil_append, List.cons_append]
  gi_wp2_with fail
  refine ⟨trivial, ?_⟩
  refine (callsIn_wide.2 (bw_any S L.length cap _)).mono ?_
  rintro e w' ⟨rfl, rfl⟩
  rw [HW.out]
  gi_wp2
  refine wpIn_rangeFunc_ownH rfl (by omega) (gf := 98) (lb := #[.pointer (some ⟨w.heap.size + 1 + 1, 0, none⟩)]) rfl trivial (enters_of Tryd.func98 (by kernel_rfl) rfl)
    (bw_stops 9 (by omega) (B := B) hlen c2 (by omega) (by omega) HLL.out) KpS.trans (fun W l o o' hl _ _ _ => KpS.put (by omega) (by omega)) (Below.refl _ _) (fun _ => rfl)
    (fun pre W => (TabAt W w.heap.size pre.length (revS L pre) ∧ W.cell? ⟨w.heap.size + 1, 0, none⟩ = some (.map (some w.heap.size)) ∧ W3.heap.size ≤ W.heap.size) ∧ Below w.heap.size w W)
    (fun _ _ _ => False)
    (OwnFrom.and (OwnFrom.and (fun s X Y row hs hg hr => hs.kept hg (fun e => by have := (hr _ e.symm).1; omega)) (OwnFrom.and (Own.from (fun s X Y row hs hg hr => cell_kept hs hg hr) _) (fun _ _ _ _ hs hg _ => Nat.le_trans hs hg.size))) (ownFrom_below (Nat.le_refl _) (by omega)))
    (fun c s X Y row hs _ _ => hs.elim)
    ⟨⟨m0, c1, Nat.le_refl _⟩, k0⟩
    (fun x a' W => ∃ Bx, W3.heap.size ≤ Bx ∧ W.heap[Bx]? = some (.cells #[.string (eS L x).name, .int .u64 (eS L x).at_, .bool (eS L x).fn] 65 (0, 0)) ∧ a' = { tmps := #[.slice S L.length cap, undef, .map none, .pointer (some ⟨w.heap.size + 1, 0, none⟩), undef, .pointer (some ⟨Bx, 0, none⟩), .map (some w.heap.size), .slice S L.length cap, .func (.func 98) #[] #[.pointer (some ⟨w.heap.size + 1 + 1, 0, none⟩)], .int .i64 ((L.length - 1 - x : Nat) : Int), .agg #[.string (eS L x).name, .int .u64 (eS L x).at_, .bool (eS L x).fn], undef, undef, undef, undef, undef, undef, undef, undef, undef], defers := [] })
    (fun x a' s X Y row hs hg hr => by obtain ⟨Bx, h1, h2, h3⟩ := hs; exact ⟨Bx, h1, (grownBy_keeps_cells hg (fun r e => (hr r e).2) h2 rfl).trans h2, h3⟩)
    ?assign ?body ?done ?stop
  case assign =>
    rintro l pre x W K ⟨⟨hT, hc, hsz⟩, hBW⟩ hK
    have kb : Below W.heap.size W (W.alloc (.cells #[.string (eS L x).name, .int .u64 (eS L x).at_, .bool (eS L x).fn] 65)) := (Below.refl _ _).alloc (Nat.le_refl _) _
    have hK' := hK _ _ ((KeepsOthers.alloc _ _).from _) (KpS.of_below kb (by omega) (by omega)) ⟨⟨hT.below kb, (kb.cell (p := ⟨w.heap.size + 1, 0, none⟩) (by show w.heap.size + 1 < W.heap.size; omega)).trans hc, by simp; omega⟩, hBW.alloc hBW.size _⟩ ⟨W.heap.size, hsz, heap_alloc_new W _, rfl⟩
    have HK := Lib.hid hK'
    clear hK hK' hT hc kb hBW
    unfold encB
    gi_wp2
    exact HK.out
  case body =>
    rintro l pre x a' W hl ⟨rr, hrr⟩ ⟨⟨hT, hc, hsz⟩, hBW⟩ ⟨Bx, hBx, hX, rfl⟩ hlt
    have hr := fun i => cell_of_row _ _ i _ _ _ hX
    obtain ⟨s, hs⟩ : ∃ s, s = eS L x := ⟨_, rfl⟩
    have hsn : s.name.size ≤ 140737488351232 := by rw [hs]; exact (eS_ok HWF.out x).1
    have hsa : (Lit.int .u64 s.at_).wf = true := by rw [hs]; exact (eS_ok HWF.out x).2
    rw [← hs] at hr
    have b0 : W.cell? ⟨Bx, 0, none⟩ = some (.string s.name) := hr 0
    have b1 : W.cell? ⟨Bx, 1, none⟩ = some (.int .u64 s.at_) := hr 1
    have b2 : W.cell? ⟨Bx, 2, none⟩ = some (.bool s.fn) := hr 2
    obtain ⟨D, hown, hD⟩ := hT
    have hst := tabS_step hD hsn
    have HST := Lib.hid (show TabS (D.put (keyS s.name s.fn) (.lit (.int .u64 s.at_))) (revS L (pre ++ [x])) by rw [revS_snoc, ← hs]; exact hst)
    have HO := Lib.hid hown
    have HC := Lib.hid hc
    rw [← hs]
    clear hr hX hs hown hD hst
    gi_wp2_with (gi_at_mapUpdate; refine wpListIn_mapUpdate_own (H := Unit) _ rfl _ _ _ 96 rfl 99 24 k_law Tryd.underlying96 _ w.heap.size pre.length _ rfl HO.out (by unfold maxLen; omega) _ _ _ rfl rfl (keyOf_key hsn _) _ [] (plainElem_int Tryd.underlying24 hsa) ?_; intro w1 hown2 hgrow)
    have hzz := hgrow.size
    refine ⟨KeepsFrom.of_grownBy hgrow (fun j e => by cases e; omega), KpS.grown hgrow (fun r e => by cases e; exact ⟨hB, by omega⟩) (by omega) (by omega), ⟨⟨_, by rw [List.length_append]; exact hown2, HST.out⟩, ?_, by omega⟩, hBW.grown hgrow hBW.size (fun j e => by cases e; exact Nat.le_refl _)⟩
    rw [World.cell?_of_block (w := W) (hgrow.block _ (by show w.heap.size + 1 < W.heap.size; omega) (by simp))]
    exact HC.out
  case done =>
    rintro D ys W hD rfl ⟨⟨hT, hc, hsz⟩, hBW⟩ hK
    gi_wp2
    have hDl : D < W.heap.size := (Array.getElem?_eq_some_iff.1 hK).1
    refine ⟨by simp, .inl ⟨_, _, rfl, run_takeDeferred hK, ?_⟩⟩
    rw [revS_all, List.length_range] at hT
    refine ⟨.map (some w.heap.size), ?_, rfl, hT.kept (grownBy_putObj' _ D (.deferred none)) (fun e => by cases e; omega), hBW.trans (belowK_b (w := w) (Nat.le_refl _) W D _ (.deferred none) (by omega) hK rfl rfl)⟩
    simp [results, Tryd.f52, go_sem]
  case stop =>
    rintro D c pre W hD _ h _
    exact h.elim
end Go.Proofs.YtajhehmkdlebbaaDoor.Pl
