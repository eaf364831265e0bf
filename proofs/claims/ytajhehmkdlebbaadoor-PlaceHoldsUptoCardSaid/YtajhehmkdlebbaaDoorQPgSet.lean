/- page.set: bytes written, page by page. -/
import Derived.Test.YtajhehmkdlebbaaDoorQPgLoad2
import Derived.Test.YtajhehmkdlebbaaDoorQPgWr
namespace Go.Proofs.YtajhehmkdlebbaaDoor
open Go.ChangeShapes Go.WideShapes Go.ChangeAt Go.RowKit Go.Deep Go.Maps Go.WideMaps
set_option maxRecDepth 100000
/-- may all places that have come be used so? -/
def okF (l : List Pg) (at_ perm : Int) (pre : List Nat) : Bool := pre.all fun k => (byteAt l at_ perm k).isSome
theorem okF_snoc (l : List Pg) (at_ perm : Int) (pre : List Nat) (k : Nat) : okF l at_ perm (pre ++ [k]) = (okF l at_ perm pre && (byteAt l at_ perm k).isSome) := by simp [okF]
theorem okF_range (l : List Pg) (at_ perm : Int) : ∀ n, okF l at_ perm (List.range n) = (loadN l at_ perm n).isSome
  | 0 => rfl
  | n + 1 => by
    rw [List.range_succ, okF_snoc, okF_range l at_ perm n]
    cases h : loadN l at_ perm n <;> simp [loadN, h]
/-- the boxes of page.set -/
def SB (b : Nat) (m : Value) (s : ByteArray) (perm : Int) (W : World) : Prop :=
  W.cell? ⟨b, 0, none⟩ = some m ∧ W.cell? ⟨b + 1, 0, none⟩ = some (.string s) ∧ W.cell? ⟨b + 1 + 1, 0, none⟩ = some (.int .i64 perm) ∧ W.cell? ⟨b + 1 + 1 + 1, 0, none⟩ = some (.slice none 0 0) ∧ W.frozen? ⟨b + 1 + 1 + 1, 0, none⟩ = false ∧ W.cell? ⟨b + 1 + 1 + 1 + 1, 0, none⟩ = some (.bool false) ∧ W.frozen? ⟨b + 1 + 1 + 1 + 1, 0, none⟩ = false
theorem SB.below {b B : Nat} {m : Value} {s : ByteArray} {perm : Int} {W W' : World} (h : SB b m s perm W) (hb : Below B W W') (hB : b + 5 ≤ B) : SB b m s perm W' := by
  obtain ⟨h1, h2, h3, h4, h5, h6, h7⟩ := h
  have hc : ∀ k, k < b + 5 → W'.cell? ⟨k, 0, none⟩ = W.cell? ⟨k, 0, none⟩ := fun k hk => hb.cell (p := ⟨k, 0, none⟩) (show k < B by omega)
  have hf : ∀ k, k < b + 5 → W'.frozen? ⟨k, 0, none⟩ = W.frozen? ⟨k, 0, none⟩ := fun k hk => hb.frozen (p := ⟨k, 0, none⟩) (show k < B by omega)
  exact ⟨(hc _ (by omega)).trans h1, (hc _ (by omega)).trans h2, (hc _ (by omega)).trans h3, (hc _ (by omega)).trans h4, (hf _ (by omega)).trans h5, (hc _ (by omega)).trans h6, (hf _ (by omega)).trans h7⟩
/-- a place's number, of n places -/
abbrev Pl (n : Nat) : Type := { x : Nat // x < max n 1 }
def plF (n : Nat) (k : Nat) : Pl n := if h : k < max n 1 then ⟨k, h⟩ else ⟨0, by omega⟩
theorem plF_val {n k : Nat} (h : k < n) : (plF n k).1 = k := by unfold plF; rw [dif_pos (by omega)]
theorem plF_range (n : Nat) : ∀ k, k ≤ n → ((List.range k).map (plF n)).map Subtype.val = List.range k
  | 0, _ => rfl
  | k + 1, h => by rw [List.range_succ, List.map_append, List.map_append, plF_range n k (by omega)]; simp [plF_val (show k < n by omega)]
/-- what the call's own memory holds when these places have come -/
def SetI (base : Nat) (v : Value) (L : List Pg) (at_ : Int) (s : ByteArray) (pre : List (Pl s.size)) (W : World) : Prop :=
  W.ownsRow base 41 3 v L.length ((setF L at_ s (pre.map Subtype.val)).1.flatMap Pg.cells) ∧ True
theorem setI_own {base B : Nat} {v : Value} {L : List Pg} {at_ : Int} {s : ByteArray} (h : ∀ g, v.ownBlock = some g → g < B) : OwnFrom B (SetI base v L at_ s) := by
  intro pre X Y row hs hg hr
  cases hv : v.ownBlock with
  | none => exact ⟨hs.1.kept hg (.inl hv), trivial⟩
  | some g =>
    refine ⟨hs.1.kept hg (.inr fun e => ?_), trivial⟩
    have h1 := h g hv
    have h2 := (hr g (by rw [← e, hv])).1
    omega
theorem heapAt_own {β : Type} {B D : Nat} {o : Obj} (h : D < B) : OwnFrom B (fun (_ : β) W => W.heap[D]? = some o) := by
  intro s X Y row hs hg hr
  refine (hg.block D (Array.getElem?_eq_some_iff.1 hs).1 (fun e => ?_)).trans hs
  have := (hr D e.symm).1
  omega
theorem grownBy_setCell1 (w : World) (b i : Nat) (v : Value) : w.grownBy (w.setCell ⟨b, i, none⟩ v) (some b) :=
  ⟨rfl, rfl, rfl, by simp [World.setCell], fun k _ hk => Below.heap_setCell _ _ _ _ (fun e => hk (by simp [e]))⟩
theorem own_ne_obj {w : World} {base : Nat} {e : TypeId} {size n k : Nat} {v : Value} {xs : List Value} {o : Obj} (h : w.ownsRow base e size v n xs) (hk : w.heap[k]? = some o) (ho : o.isCells = false) : v.ownBlock ≠ some k := by
  intro he
  obtain ⟨_, ⟨rfl, rfl⟩ | ⟨g, cap, cur, rfl, _, hg, _⟩⟩ := h
  · cases he
  · obtain rfl : g = k := Option.some.inj he
    rw [hg] at hk
    cases hk
    cases ho
theorem own_some {w : World} {base : Nat} {e : TypeId} {size n : Nat} {A : Option Addr} {c : Nat} {xs : List Value} (h : w.ownsRow base e size (.slice A n c) n xs) (hn : 0 < n) : ∃ g, A = some ⟨g, 0, none⟩ := by
  obtain ⟨_, ⟨e, _⟩ | ⟨g, cap, cur, e, _⟩⟩ := h
  · cases e; exact absurd hn (Nat.lt_irrefl 0)
  · cases e; exact ⟨g, rfl⟩
theorem sizeAt_own {β : Type} (B n : Nat) : OwnFrom B (fun (_ : β) W => n ≤ W.heap.size) := fun _ _ _ _ hs hg _ => Nat.le_trans hs hg.size
theorem KeepsOthers.setCells (b : Nat) : ∀ (vs : List Value) (o : Nat) (W : World), KeepsOthers W (W.setCells b o vs)
  | [], _, W => KeepsOthers.refl W
  | v :: r, o, W => (KeepsOthers.setCell W ⟨b, o, none⟩ v).trans (KeepsOthers.setCells b r (o + 1) _)
theorem flat_set (f : ByteArray → ByteArray) : ∀ {l : List Pg} {i : Nat} (hi : i < l.length), (l.flatMap Pg.cells).set (i * 3 + 2) (.string (f (l[i]).data)) = (l.modify i (fun p => { p with data := f p.data })).flatMap Pg.cells
  | p :: l, 0, _ => by simp [Pg.cells]
  | p :: l, i + 1, hi => by
    have ih := flat_set f (l := l) (i := i) (by simpa using hi)
    simp only [List.flatMap_cons, List.modify_succ_cons, List.getElem_cons_succ]
    rw [← ih, List.set_append]
    rw [if_neg (by rw [pgCells_len]; omega), pgCells_len, show (i + 1) * 3 + 2 - 3 = i * 3 + 2 by omega]
theorem setCell_far {W : World} {p q : Addr} {v : Value} (h : q.block ≠ p.block) : (W.setCell p v).cell? q = W.cell? q :=
  World.cell?_setCell_other _ _ _ _ (fun e => h (by rw [e]))
attribute [local go_sem] Oper.semAt_some
set_option maxHeartbeats 2000000 in
theorem set_in {A : Option Addr} {cap : Nat} {L : List Pg} {w : World} {B : Nat} (ok : Bool) (X : List Pg) (at_ perm : Int) (s : ByteArray) (hok : Hid ((loadN L at_ perm s.size).isSome = ok)) (hX : Hid (X = if ok then wrL L at_ s s.size else L)) (hat : 0 ≤ at_ ∧ at_ ≤ 18446744073709551615) (hs : s.size ≤ 140737488351232) (hR : RightP L)
    (hL : Mem w B A cap L) (hA : A = none → cap = 0) (hB : B ≤ w.heap.size) (hwf : ∀ p ∈ L, p.ok) :
    CallsIn Fence.wide 10 Tryd.prog 75 #[.slice A L.length cap, .int .u64 at_, .string s, .int .i64 perm] w fun e w' => Below w.heap.size w w' ∧
      ∃ v, e = .returned (.tuple #[v, .bool ok]) ∧ MemV w' v X := by
  have hlen : L.length ≤ 140737488351232 := by have := hR.1; omega
  have HWF := Lib.hid hwf
  have HR := Lib.hid hR
  have HA := Lib.hid hA
  clear hwf hR hA
  obtain ⟨W0, hW0⟩ : ∃ W0, (((((w.alloc (.cells #[.slice A L.length cap] 32)).alloc (.cells #[.string s] 9)).alloc (.cells #[.int .i64 perm] 3)).alloc (.cells #[.slice none 0 0] 32)).alloc (.cells #[.bool false] 4)) = W0 := ⟨_, rfl⟩
  have sb0 : SB w.heap.size (.slice A L.length cap) s perm W0 := by
    subst hW0
    refine ⟨?_, ?_, ?_, ?_, ?_, ?_, ?_⟩ <;> simp [go_sem]
  have k0 : Below w.heap.size w W0 := by
    subst hW0
    exact (((((Below.refl _ _).alloc (Nat.le_refl _) _).alloc (by simp) _).alloc (by simp; omega) _).alloc (by simp; omega) _).alloc (by simp; omega) _
  have s0 : W0.heap.size = w.heap.size + 5 := by subst hW0; simp
  have HW := Lib.hid hW0
  have HSB := Lib.hid sb0
  have HK0 := Lib.hid k0
  have HS0 := Lib.hid s0
  clear hW0 sb0 k0 s0
  refine callsIn_of_wp_marks Tryd.func75 rfl trivial ?_ rfl
  simp only [Tryd.ntmps75, List.size_toArray, List.length_cons, List.length_nil, Nat.reduceAdd, Nat.reduceSub, Array.replicate_succ, Array.replicate_zero, List.push_toArray, List.append_toArray, List.nil_append, List.cons_append]
  gi_wp2_with fail
  refine ⟨trivial, ?_⟩
  rw [HW.out]
  refine (callsIn_wide.2 (places_any at_ s.size (Sl.In.below hL (HK0.out.mono hB)) (Nat.le_trans hB HK0.out.size) HWF.out hlen)).mono ?_
  rintro e w2 ⟨hT, rfl, hIt, hb2⟩
  have hIt2 := hIt.2.1
  have hIt1 := hIt.1
  have HSB2 := Lib.hid (HSB.out.below hb2 (by have := HS0.out; omega))
  have HK2 := Lib.hid (HK0.out.trans (hb2.mono HK0.out.size))
  have hz2 : w.heap.size + 5 ≤ w2.heap.size := by have := hb2.size; have := HS0.out; omega
  gi_wp2
  refine wpIn_rangeFunc_ownG rfl (by omega) (gf := 95) (lb := #[.pointer (some ⟨W0.heap.size + 1, 0, none⟩), .pointer (some ⟨W0.heap.size, 0, none⟩), .pointer (some ⟨hT, 0, none⟩)]) rfl trivial (enters_of Tryd.func95 (by kernel_rfl) rfl)
    (it_stops 9 (by omega) hs hIt) KpB.trans (fun W l o o' hl _ _ _ => kpB_put (by omega)) (Below.refl _ _) (fun _ => rfl)
    (fun pre W => Hid (okF L at_ perm pre = true) ∧ Below w2.heap.size w2 W)
    (fun c pre W => (c = .ret ∧ Hid (okF L at_ perm pre = false) ∧ W.cell? ⟨w.heap.size + 1 + 1 + 1, 0, none⟩ = some (.slice A L.length cap) ∧ W.cell? ⟨w.heap.size + 1 + 1 + 1 + 1, 0, none⟩ = some (.bool false)) ∧ Below w.heap.size w W)
    (OwnFrom.and (ownFrom_pure _ _) (ownFrom_below (Nat.le_refl _) (Nat.le_refl _)))
    (fun c => OwnFrom.and (Own.from (fun s X Y row hs hg hr => by obtain ⟨hc, hV, a1, a2⟩ := hs; exact ⟨hc, hV, cell_kept a1 hg hr, cell_kept a2 hg hr⟩) _) (ownFrom_below (Nat.le_refl _) (by omega)))
    ⟨rfl, Below.refl _ _⟩
    (fun x => { tmps := ((Value.slice A L.length cap) :: (Value.int .u64 at_) :: (Value.string s) :: (Value.int .i64 perm) :: (Value.pointer (some ⟨w.heap.size, 0, none⟩)) :: undef :: (Value.pointer (some ⟨w.heap.size + 1, 0, none⟩)) :: (Value.pointer (some ⟨w.heap.size + 1 + 1, 0, none⟩)) :: (Value.pointer (some ⟨w.heap.size + 1 + 1 + 1, 0, none⟩)) :: (Value.pointer (some ⟨w.heap.size + 1 + 1 + 1 + 1, 0, none⟩)) :: undef :: (Value.int .i64 (pgI L at_ x)) :: undef :: undef :: undef :: undef :: undef :: (Value.slice A L.length cap) :: (Value.int .u64 at_) :: (Value.string s) :: (Value.int .i64 (s.size : Nat)) :: (Value.func (.func 95) #[] #[.pointer (some ⟨W0.heap.size + 1, 0, none⟩), .pointer (some ⟨W0.heap.size, 0, none⟩), .pointer (some ⟨hT, 0, none⟩)]) :: (Value.int .u64 (toI at_ x)) :: (Value.int .i64 (pgI L at_ x)) :: undef :: undef :: undef :: undef :: undef :: undef :: undef :: undef :: undef :: undef :: undef :: undef :: undef :: undef :: undef :: undef :: undef :: undef :: undef :: undef :: undef :: undef :: undef :: undef :: undef :: undef :: undef :: undef :: undef :: undef :: undef :: undef :: undef :: undef :: undef :: undef :: undef :: undef :: undef :: undef :: undef :: undef :: undef :: undef :: undef :: undef :: undef :: undef :: undef :: undef :: undef :: undef :: undef :: undef :: undef :: []).toArray, defers := [] }) ?assign ?body ?done ?stop
  case assign =>
    intro l x W K hK
    gi_wp2
    exact hK
  case body =>
    rintro l pre x W ⟨hok1, hBW⟩ hpl
    have hmx : Tryd.prog.follows .mixedOrders = true := by kernel_rfl
    have hKW := HK2.out.trans (hBW.mono (by omega))
    have hLW := Sl.In.below hL (hKW.mono hB)
    obtain ⟨a1, -, a3, a4, a5, a6, a7⟩ := HSB2.out.below hBW (by omega)
    have hsW := hBW.size
    rcases pg_cases HR.out at_ x with ⟨hP, hby⟩ | ⟨i, hi, hP, hby⟩
    · have HX := Lib.hid (show okF L at_ perm (pre ++ [x]) = false by rw [okF_snoc, hby perm]; simp)
      rw [hP]
      clear hby hP
      gi_wp2
      refine wpIn_region_reads hmx (by kernel_rfl) (by kernel_rfl) ?_
      repeat (go_big_quiet_step (fail))
      refine wpQuiet_nil ?_
      gi_wp2
      exact ⟨((KeepsOthers.drew W).trans ((KeepsOthers.setCell _ _ _).trans (KeepsOthers.setCell _ _ _))).from _, ⟨rfl, HX.out, by simp [go_sem, a4], by simp [go_sem, a6]⟩, ((hKW.drew).setCell (p := ⟨w.heap.size + 1 + 1 + 1, 0, none⟩) (by show w.heap.size ≤ w.heap.size + 1 + 1 + 1; omega) _).setCell (p := ⟨w.heap.size + 1 + 1 + 1 + 1, 0, none⟩) (by show w.heap.size ≤ w.heap.size + 1 + 1 + 1 + 1; omega) _⟩
    · obtain ⟨b, off, rfl, hb, c0, c1, c2⟩ := Mem.pg hLW hi
      have hpi : IntKind.i64.wrap (i : Int) = i := IntWalk.i64_in _ (by omega)
      have i1 : (0 : Int) ≤ (i : Int) := by omega
      have i2 : (i : Int) < (L.length : Int) := by omega
      have i3 : decide ((i : Int) < 0) = false := decide_eq_false (by omega)
      rw [hP]
      cases hg : grantB L[i] perm
      · have HX := Lib.hid (show okF L at_ perm (pre ++ [x]) = false by rw [okF_snoc, hby perm, hg]; simp)
        have hne : (bits .and .i64 (L[i]).perm perm != perm) = true := by unfold grantB at hg; simp only [bne, hg]; rfl
        clear hby hP hg
        gi_wp2
        refine wpIn_region_reads hmx (by kernel_rfl) (by kernel_rfl) ?_
        repeat (go_big_quiet_step (fail))
        refine wpQuiet_nil ?_
        gi_wp2
        exact ⟨((KeepsOthers.drew W).trans ((KeepsOthers.setCell _ _ _).trans (KeepsOthers.setCell _ _ _))).from _, ⟨rfl, HX.out, by simp [go_sem, a4], by simp [go_sem, a6]⟩, ((hKW.drew).setCell (p := ⟨w.heap.size + 1 + 1 + 1, 0, none⟩) (by show w.heap.size ≤ w.heap.size + 1 + 1 + 1; omega) _).setCell (p := ⟨w.heap.size + 1 + 1 + 1 + 1, 0, none⟩) (by show w.heap.size ≤ w.heap.size + 1 + 1 + 1 + 1; omega) _⟩
      · have HX := Lib.hid (show okF L at_ perm (pre ++ [x]) = true by rw [okF_snoc, hby perm, hg, hok1.out]; rfl)
        have hne : (bits .and .i64 (L[i]).perm perm != perm) = false := by unfold grantB at hg; simp only [bne, hg]; rfl
        clear hby hP hg
        gi_wp2
        refine wpIn_region_reads hmx (by kernel_rfl) (by kernel_rfl) ?_
        repeat (go_big_quiet_step (fail))
        refine wpQuiet_nil ?_
        gi_wp2
        exact ⟨(KeepsOthers.drew W).from _, kpB_drew _, HX.out, hBW.drew⟩
  case done =>
    rintro D ys W hD rfl ⟨hok1, hBW⟩ hK
    have hokt : Hid (ok = true) := by
      have h1 := hok1.out
      rw [okF_range, hok.out] at h1
      exact h1
    have HSBW := HSB2.out.below hBW (by omega)
    have hKW := Lib.hid (HK2.out.trans (hBW.mono (by omega)))
    have HSBH := Lib.hid HSBW
    obtain ⟨a1, -, -, -, -, -, -⟩ := HSBW
    have hDl : D < W.heap.size := (Array.getElem?_eq_some_iff.1 hK).1
    have HKD := Lib.hid hK
    have hWs : w2.heap.size ≤ W.heap.size := hBW.size
    clear hK
    gi_wp2_with fail
    refine ⟨trivial, ?_⟩
    refine (callsIn_wide.2 (clone_any (Sl.In.below hL (hKW.out.mono hB)) HA.out HR.out.1)).mono ?_
    rintro e w3 ⟨v, rfl, hown, hb3⟩
    have h3 := HSBH.out.below hb3 (by omega)
    have H3 := Lib.hid h3
    obtain ⟨b1, b2, -, -, -, -, -⟩ := h3
    have hD3 := Lib.hid ((hb3.block D hDl).trans HKD.out)
    have hs3 := hb3.size
    have z0 : w.heap.size < w3.heap.size := by omega
    have z1 : w.heap.size + 1 < w3.heap.size := by omega
    have z3 : w.heap.size + 1 + 1 + 1 < w3.heap.size := by omega
    have z4 : w.heap.size + 1 + 1 + 1 + 1 < w3.heap.size := by omega
    obtain ⟨A3, c3, rfl⟩ := own_form hown
    have HOWN := Lib.hid hown
    have HK3 := Lib.hid (hKW.out.trans (hb3.mono hKW.out.size))
    clear hown
    have kk : Below w3.heap.size w3 ((w3.alloc (.cells #[.slice A3 L.length c3] 32)).alloc (.cells #[.int .i64 0] 3)) := ((Below.refl _ _).alloc (Nat.le_refl _) _).alloc (by simp) _
    have KK := Lib.hid kk
    clear kk
    gi_wp2_with fail
    refine ⟨trivial, ?_⟩
    refine (callsIn_wide.2 (places_any at_ s.size (Sl.In.below hL ((HK3.out.trans (KK.out.mono HK3.out.size)).mono hB)) (Nat.le_trans hB (Nat.le_trans HK3.out.size KK.out.size)) HWF.out hlen)).mono ?_
    rintro e w4 ⟨hT4, rfl, hIt4, hb4⟩
    obtain ⟨W3, hW3⟩ : ∃ W3, (w3.alloc (.cells #[.slice A3 L.length c3] 32)).alloc (.cells #[.int .i64 0] 3) = W3 := ⟨_, rfl⟩
    have hs33 : W3.heap.size = w3.heap.size + 2 := by subst hW3; simp
    have o1 : W3.cell? ⟨w3.heap.size, 0, none⟩ = some (.slice A3 L.length c3) := by subst hW3; simp [go_sem]
    have o2 : W3.cell? ⟨w3.heap.size + 1, 0, none⟩ = some (.int .i64 0) := by subst hW3; simp [go_sem]
    have o3 : W3.frozen? ⟨w3.heap.size + 1, 0, none⟩ = false := by subst hW3; simp [go_sem]
    rw [hW3] at hIt4 hb4 ⊢
    have KK3 : Below w3.heap.size w3 W3 := by rw [← hW3]; exact KK.out
    have kb := KK3.trans (hb4.mono (by omega))
    have hs4 := hb4.size
    have p1 := (hb4.cell (p := ⟨w3.heap.size, 0, none⟩) (by show w3.heap.size < W3.heap.size; omega)).trans o1
    have p2 := (hb4.cell (p := ⟨w3.heap.size + 1, 0, none⟩) (by show w3.heap.size + 1 < W3.heap.size; omega)).trans o2
    have p3 := (hb4.frozen (p := ⟨w3.heap.size + 1, 0, none⟩) (by show w3.heap.size + 1 < W3.heap.size; omega)).trans o3
    obtain ⟨-, q2, -, q4, q5, q6, q7⟩ := H3.out.below kb (by omega)
    have hD4 := (kb.block D (by omega)).trans hD3.out
    have hown4 := own_below HOWN.out kb
    have HK4 := HK3.out.trans (kb.mono HK3.out.size)
    have hIt41 := hIt4.1
    have hIt42 := hIt4.2.1
    have HS33 := Lib.hid hs33
    have h33 : w3.heap.size + 2 ≤ W3.heap.size := by omega
    clear hs33
    gi_wp2
    refine wpIn_rangeFunc_ownG rfl (by omega) (gf := 95) (lb := #[.pointer (some ⟨W3.heap.size + 1, 0, none⟩), .pointer (some ⟨W3.heap.size, 0, none⟩), .pointer (some ⟨hT4, 0, none⟩)]) rfl trivial (enters_of Tryd.func95 (by kernel_rfl) rfl)
      (it_stopsF (plF s.size) (fun x : Pl s.size => #[Value.int .u64 (toI at_ x.1), Value.int .i64 (pgI L at_ x.1)]) 9 (by omega) (fun k hk => by rw [plF_val hk]) hs hIt4) KpB.trans (fun W l o o' hl _ _ _ => kpB_put (by omega)) (Below.refl _ _) (fun _ => rfl)
      (fun pre W' => (SetI W.heap.size (.slice A3 L.length c3) L at_ s pre W' ∧ (W'.cell? ⟨w3.heap.size, 0, none⟩ = some (.slice A3 L.length c3) ∧ W'.cell? ⟨w3.heap.size + 1, 0, none⟩ = some (.int .i64 (pre.length : Nat)) ∧ W'.frozen? ⟨w3.heap.size + 1, 0, none⟩ = false ∧ W'.cell? ⟨w.heap.size + 1, 0, none⟩ = some (.string s) ∧ W'.cell? ⟨w.heap.size + 1 + 1 + 1, 0, none⟩ = some (.slice none 0 0) ∧ W'.frozen? ⟨w.heap.size + 1 + 1 + 1, 0, none⟩ = false ∧ W'.cell? ⟨w.heap.size + 1 + 1 + 1 + 1, 0, none⟩ = some (.bool false) ∧ W'.frozen? ⟨w.heap.size + 1 + 1 + 1 + 1, 0, none⟩ = false) ∧ W'.heap[D]? = some (.deferred (some [])) ∧ w4.heap.size ≤ W'.heap.size) ∧ Below w.heap.size w W')
      (fun _ _ _ => False)
      (OwnFrom.and (OwnFrom.and (setI_own (B := w4.heap.size) (fun g hg => (hown4.lt g hg).2)) (OwnFrom.and (Own.from (fun s X Y row hs hg hr => by obtain ⟨a1, a3, a4, a5, a7, a8, a9, a10⟩ := hs; exact ⟨cell_kept a1 hg hr, cell_kept a3 hg hr, (frozen_kept a3 hg hr).trans a4, cell_kept a5 hg hr, cell_kept a7 hg hr, (frozen_kept a7 hg hr).trans a8, cell_kept a9 hg hr, (frozen_kept a9 hg hr).trans a10⟩) _) (OwnFrom.and (heapAt_own (show D < w4.heap.size by omega)) (sizeAt_own _ _)))) (ownFrom_below (Nat.le_refl _) (by omega)))
      (fun c s X Y row hs _ _ => hs.elim)
      ⟨⟨⟨hown4, trivial⟩, ⟨p1, p2, p3, q2, q4, q5, q6, q7⟩, hD4, Nat.le_refl _⟩, HK4⟩
      (fun x => { tmps := ((Value.slice A L.length cap) :: (Value.int .u64 at_) :: (Value.string s) :: (Value.int .i64 perm) :: (Value.pointer (some ⟨w.heap.size, 0, none⟩)) :: undef :: (Value.pointer (some ⟨w.heap.size + 1, 0, none⟩)) :: (Value.pointer (some ⟨w.heap.size + 1 + 1, 0, none⟩)) :: (Value.pointer (some ⟨w.heap.size + 1 + 1 + 1, 0, none⟩)) :: (Value.pointer (some ⟨w.heap.size + 1 + 1 + 1 + 1, 0, none⟩)) :: undef :: undef :: (Value.pointer (some ⟨w3.heap.size, 0, none⟩)) :: (Value.pointer (some ⟨w3.heap.size + 1, 0, none⟩)) :: (Value.int .u64 (toI at_ x.1)) :: (Value.int .i64 (pgI L at_ x.1)) :: undef :: (Value.slice A L.length cap) :: (Value.int .u64 at_) :: (Value.string s) :: (Value.int .i64 (s.size : Nat)) :: (Value.func (.func 95) #[] #[.pointer (some ⟨W0.heap.size + 1, 0, none⟩), .pointer (some ⟨W0.heap.size, 0, none⟩), .pointer (some ⟨hT, 0, none⟩)]) :: undef :: undef :: undef :: undef :: undef :: undef :: undef :: undef :: undef :: undef :: undef :: undef :: undef :: undef :: undef :: undef :: (Value.slice A L.length cap) :: (Value.slice A3 L.length c3) :: (Value.slice A L.length cap) :: (Value.int .u64 at_) :: (Value.string s) :: (Value.int .i64 (s.size : Nat)) :: (Value.func (.func 95) #[] #[.pointer (some ⟨W3.heap.size + 1, 0, none⟩), .pointer (some ⟨W3.heap.size, 0, none⟩), .pointer (some ⟨hT4, 0, none⟩)]) :: (Value.int .u64 (toI at_ x.1)) :: (Value.int .i64 (pgI L at_ x.1)) :: undef :: undef :: undef :: undef :: undef :: undef :: undef :: undef :: undef :: undef :: undef :: undef :: undef :: undef :: undef :: undef :: undef :: undef :: undef :: undef :: undef :: undef :: undef :: undef :: undef :: undef :: undef :: undef :: undef :: undef :: undef :: undef :: []).toArray, defers := [] }) ?assign2 ?body2 ?done2 ?stop2
    case assign2 =>
      intro l x W K hK
      gi_wp2
      exact hK
    case body2 =>
      rintro l pre x W5 ⟨⟨hI, ⟨d1, d2, d3, d4, d5, d6, d7, d8⟩, hDD, hz5⟩, hBW5⟩ hpl
      have hmx : Tryd.prog.follows .mixedOrders = true := by kernel_rfl
      have hx1 : x.1 < s.size := by have := x.2; omega
      obtain ⟨i, hi, hP, hT, _, hat5, _, hT5⟩ := pg_hit HR.out HWF.out (perm := perm) (loadN_byte (by rw [hok.out, hokt.out]) x.1 hx1) hat.1 (by omega)
      clear hD4 hown4 p1 p2 p3 q2 q4 q5 q6 q7
      obtain ⟨q, hq⟩ : ∃ q, q = pre.map Subtype.val := ⟨_, rfl⟩
      have hql : pre.length = q.length := by rw [hq, List.length_map]
      have hI1 := hI.1
      rw [← hq] at hI1
      have hsnoc : (setF L at_ s ((pre ++ [x]).map Subtype.val)).1 = setStep L at_ s (setF L at_ s q).1 q.length x.1 := by
        rw [List.map_append, ← hq]
        simp only [List.map_cons, List.map_nil]
        rw [setF_snoc, setF_len]
      have hM := setF_sz at_ s (right_sz HR.out HWF.out) q
      by_cases hsk : 0 < q.length ∧ toI at_ x.1 % 256 ≠ 0
      · have hst : setStep L at_ s (setF L at_ s q).1 q.length x.1 = (setF L at_ s q).1 := by unfold setStep; rw [if_pos hsk]
        have HS : Hid ((setF L at_ s ((pre ++ [x]).map Subtype.val)).1 = (setF L at_ s q).1) := hsnoc.trans hst
        have e1 : decide ((0 : Int) < (pre.length : Int)) = true := by rw [hql]; simp; omega
        have e2 : ((toI at_ x.1).tmod 256 != 0) = true := by rw [Int.tmod_eq_emod_of_nonneg (by unfold toI; omega)]; simpa using hsk.2
        have e0 : 0 < pre.length := by rw [hql]; exact hsk.1
        have e3 : (toI at_ x.1 % 256 != 0) = true := by simpa using hsk.2
        have HI1 := Lib.hid hI1
        have HQL := Lib.hid hql
        have HQ := Lib.hid hq
        have HSK := Lib.hid hsk
        clear hsnoc hst hI1 hI hM hql hq hsk hT hat5
        rw [hP]
        clear hP
        gi_wp2
        have hw35 : w3.heap.size + 1 < W5.heap.size := (cell_block_lt d2).1
        have hlt3 : ∀ k, (Value.slice A3 L.length c3).ownBlock = some k → k < w3.heap.size := fun k e => (HOWN.out.lt k e).2
        refine ⟨(KeepsOthers.setCell _ _ _).from _, kpB_setCell _ _ (by show w3.heap.size + 1 < W3.heap.size; omega), ⟨⟨?_, trivial⟩, ⟨?_, ?_, ?_, ?_, ?_, ?_, ?_, ?_⟩, ?_, ?_⟩, ?_⟩
        · rw [HS.out]
          exact HI1.out.kept (grownBy_setCell1 _ _ _ _) (.inr fun e => by have := hlt3 _ e; omega)
        · rw [setCell_far (by show w3.heap.size ≠ w3.heap.size + 1; omega)]; exact d1
        · rw [World.cell?_setCell_same _ _ _ d2]
          simp [List.length_append]
        · rw [World.frozen?_setCell]; exact d3
        · rw [setCell_far (by show w.heap.size + 1 ≠ w3.heap.size + 1; omega)]; exact d4
        · rw [setCell_far (by show w.heap.size + 1 + 1 + 1 ≠ w3.heap.size + 1; omega)]; exact d5
        · rw [World.frozen?_setCell]; exact d6
        · rw [setCell_far (by show w.heap.size + 1 + 1 + 1 + 1 ≠ w3.heap.size + 1; omega)]; exact d7
        · rw [World.frozen?_setCell]; exact d8
        · exact (KeepsOthers.setCell _ _ _).same D _ hDD rfl
        · simp only [World.setCell, Array.size_modify]; exact hz5
        · exact hBW5.setCell (p := ⟨w3.heap.size + 1, 0, none⟩) (by show w.heap.size ≤ w3.heap.size + 1; omega) _
      · have hst : setStep L at_ s (setF L at_ s q).1 q.length x.1 = (setF L at_ s q).1.modify i (fun p => { p with data := spl p.data (toI at_ x.1 % 256).toNat ((s.data.toList.drop q.length).take (256 - (toI at_ x.1 % 256).toNat)) }) := by
          unfold setStep; rw [if_neg hsk, hP, Int.toNat_natCast]
        obtain ⟨M, hMd⟩ : ∃ M, M = (setF L at_ s q).1 := ⟨_, rfl⟩
        rw [← hMd] at hM hI1 hst
        obtain ⟨hMl, hMp⟩ := hM
        have hiM : i < M.length := by omega
        obtain ⟨o, ho⟩ : ∃ o, o = (toI at_ x.1 % 256).toNat := ⟨_, rfl⟩
        have hoI : (toI at_ x.1) % 256 = (o : Int) := by omega
        have hol : o < 256 := by omega
        have hds : (M[i]).data.size = 256 := (hMp _ (List.getElem_mem hiM)).1
        obtain ⟨g, rfl⟩ : ∃ g, A3 = some ⟨g, 0, none⟩ := own_some hI1 (by omega)
        have hcd : W5.cell? ⟨g, i * 3 + 2, none⟩ = some (.string (M[i]).data) := by
          rw [hI1.cellAt (i * 3 + 2) (by omega)]
          exact flat_at pgCells_len (List.getElem?_eq_getElem hiM) rfl
        have hgl := hI1.lt g rfl
        have HS : Hid ((setF L at_ s ((pre ++ [x]).map Subtype.val)).1 = M.modify i (fun p => { p with data := spl p.data o ((s.data.toList.drop q.length).take (256 - o)) })) := by
          show _ = _
          rw [hsnoc, ← hMd, hst, ho]
        have hway : (pre.length = 0 ∧ decide ((0 : Int) < (pre.length : Int)) = false) ∨ (0 < pre.length ∧ decide ((0 : Int) < (pre.length : Int)) = true ∧ ((o : Int) != 0) = false) := by
          by_cases h1 : pre.length = 0
          · exact .inl ⟨h1, decide_eq_false (by omega)⟩
          · refine .inr ⟨by omega, decide_eq_true (by omega), ?_⟩
            have : (o : Int) = 0 := by
              rw [← hoI]
              exact Classical.byContradiction fun h2 => hsk ⟨by omega, h2⟩
            rw [this]; rfl
        have hto : (toI at_ x.1).tmod 256 = (o : Int) := by rw [Int.tmod_eq_emod_of_nonneg (by unfold toI; omega)]; exact hoI
        have i1 : (0 : Int) ≤ (i : Int) := by omega
        have i2 : (i : Int) < (L.length : Int) := by omega
        have o1 : (0 : Int) ≤ (o : Int) := by omega
        have o2 : (o : Int) ≤ 256 := by omega
        have s1 : (0 : Int) ≤ (pre.length : Int) := by omega
        have s2 : (pre.length : Int) ≤ (s.size : Int) := by omega
        have hcv : ∀ (w : World) (s : ByteArray), (convert 9 86 (.string s)).run Tryd.prog w = _ := fun w s => run_bytes_of_string w _ _ _ s Tryd.underlying9 Tryd.underlying86 Tryd.underlying5
        have HQL := Lib.hid hql
        have HQ := Lib.hid hq
        have HSK := Lib.hid hsk
        have HMP := Lib.hid hMp
        have HI1 := Lib.hid hI1
        have HMD := Lib.hid hMd
        have HO := Lib.hid ho
        clear hsnoc hst hI1 hI hql hq hsk hT hat5 hMp hMd ho
        rw [hP]
        clear hP
        obtain ⟨S, hS⟩ : ∃ S : ByteArray, S = (if pre.length = 0 then s else s.extract pre.length s.size) := ⟨_, rfl⟩
        have hSl : S.data.toList = s.data.toList.drop pre.length := by
          rw [hS]; split
          · rename_i h0; rw [h0]; rfl
          · rw [ByteArray.data_extract, Array.toList_extract, List.extract_eq_take_drop, List.take_of_length_le (by rw [List.length_drop, ← ba_size]; exact Nat.le_refl _)]
        have HSL := Lib.hid hSl
        clear hSl
        rcases hway with ⟨l0, e1⟩ | ⟨l0, e1, e2⟩
        · rw [if_pos l0] at hS
          replace hS := hS.symm
          subst hS
          gi_wp2
          have hba := (bytesAt_new W5 (M[i]).data (grownCap W5 256 0 5) 5).block (w' := (W5.alloc (.cells (bytesRow (M[i]).data (grownCap W5 256 0 5)) 5 ((bytesRow (M[i]).data (grownCap W5 256 0 5)).size, (bytesRow (M[i]).data (grownCap W5 256 0 5)).size + 1))).drew) rfl
          have hb6 : Below W5.heap.size W5 (W5.alloc (.cells (bytesRow (M[i]).data (grownCap W5 256 0 5)) 5 ((bytesRow (M[i]).data (grownCap W5 256 0 5)).size, (bytesRow (M[i]).data (grownCap W5 256 0 5)).size + 1))).drew := ((Below.refl _ _).alloc (Nat.le_refl _) _).drew
          have hs6 : (W5.alloc (.cells (bytesRow (M[i]).data (grownCap W5 256 0 5)) 5 ((bytesRow (M[i]).data (grownCap W5 256 0 5)).size, (bytesRow (M[i]).data (grownCap W5 256 0 5)).size + 1))).drew.heap.size = W5.heap.size + 1 := by simp
          have hko6 : KeepsOthers W5 (W5.alloc (.cells (bytesRow (M[i]).data (grownCap W5 256 0 5)) 5 ((bytesRow (M[i]).data (grownCap W5 256 0 5)).size, (bytesRow (M[i]).data (grownCap W5 256 0 5)).size + 1))).drew := (KeepsOthers.alloc _ _).trans (KeepsOthers.drew _)
          have hC : 256 ≤ grownCap W5 256 0 5 := grownCap_ge _ _ _ _
          generalize (W5.alloc (.cells (bytesRow (M[i]).data (grownCap W5 256 0 5)) 5 ((bytesRow (M[i]).data (grownCap W5 256 0 5)).size, (bytesRow (M[i]).data (grownCap W5 256 0 5)).size + 1))).drew = W6 at *
          generalize grownCap W5 256 0 5 = C at *
          have hbl : w3.heap.size + 1 < W5.heap.size := by have := hBW5.size; have := (cell_block_lt d2).1; exact this
          have f1 := (hb6.cell (p := ⟨w3.heap.size, 0, none⟩) (by show w3.heap.size < W5.heap.size; omega)).trans d1
          have f2 := (hb6.cell (p := ⟨w3.heap.size + 1, 0, none⟩) hbl).trans d2
          have f3 := (hb6.frozen (p := ⟨w3.heap.size + 1, 0, none⟩) hbl).trans d3
          have f4 := (hb6.cell (p := ⟨w.heap.size + 1, 0, none⟩) (by show w.heap.size + 1 < W5.heap.size; omega)).trans d4
          have c1 : (o : Int) ≤ (C : Int) := by omega
          have c2 : (256 : Int) ≤ (C : Int) := by omega
          have H1 := Lib.hid d1
          have H2 := Lib.hid d2
          have H3d := Lib.hid d3
          have H4 := Lib.hid d4
          have H5 := Lib.hid d5
          have H6 := Lib.hid d6
          have H7 := Lib.hid d7
          have H8 := Lib.hid d8
          have HCD := Lib.hid hcd
          have HD5 := Lib.hid hDD
          clear d1 d2 d3 d4 d5 d6 d7 d8 hcd hDD hcv
          refine wpIn_region_tail 7 hmx (by kernel_rfl) (by kernel_rfl) ?_
          simp only [List.take_succ_cons, List.take_zero, List.drop_succ_cons, List.drop_zero]
          repeat (go_big_quiet_step (fail))
          refine wpQuiet_nil ?_
          have hbd := hba.block (w' := W6.drew) rfl
          have hb6d := hb6.drew
          have ko6 : KeepsOthers W5 W6.drew := hko6.trans (KeepsOthers.drew _)
          have f1d : W6.drew.cell? ⟨w3.heap.size, 0, none⟩ = some (.slice (some ⟨g, 0, none⟩) L.length c3) := f1
          have f2d : W6.drew.cell? ⟨w3.heap.size + 1, 0, none⟩ = some (.int .i64 (pre.length : Nat)) := f2
          have f3d : W6.drew.frozen? ⟨w3.heap.size + 1, 0, none⟩ = false := f3
          have hs6d : W6.drew.heap.size = W5.heap.size + 1 := hs6
          clear hba hb6 f1 f2 f3 f4 hs6 hko6
          generalize W6.drew = W6d at *
          have hdl : (M[i]).data.data.toList.length = 256 := by rw [← ba_size]; exact hds
          have hcp := run_copy_min (P := Tryd.prog) W6d 86 9 3 5 W5.heap.size o (256 - o) (C - o) s Tryd.underlying86 (fun _ => by kernel_rfl) hbd (by rw [hdl]; omega)
          have htl : ((s.data.toList).take (256 - o)).length ≤ 256 - o := by rw [List.length_take]; omega
          have hb7 := bytesAt_copy hbd (o := o) (t := (s.data.toList).take (256 - o)) (by rw [hdl]; omega)
          have hbb7 := below_setCells (Nat.le_refl W5.heap.size) (u8L ((s.data.toList).take (256 - o))) o W6d hb6d
          have ko7 := ko6.trans (KeepsOthers.setCells W5.heap.size (u8L ((s.data.toList).take (256 - o))) o W6d)
          generalize W6d.setCells W5.heap.size o (u8L ((s.data.toList).take (256 - o))) = W7 at *
          have hstr : (convert 86 9 (.slice (some ⟨W5.heap.size, 0, none⟩) 256 C)).run Tryd.prog W7 = .ok (.string (spl (M[i]).data o ((s.data.toList).take (256 - o)))) W7 :=
            run_bytes_str W7 _ _ _ _ _ _ Tryd.underlying86 Tryd.underlying5 Tryd.underlying9 hb7 256 (by simp only [List.length_append, List.length_take, List.length_drop, hdl] at *; omega)
          have g1 := (hbb7.cell (p := ⟨w3.heap.size, 0, none⟩) (by show w3.heap.size < W5.heap.size; omega)).trans H1.out
          have g2 := (hbb7.cell (p := ⟨w3.heap.size + 1, 0, none⟩) hbl).trans H2.out
          have g3 := (hbb7.frozen (p := ⟨w3.heap.size + 1, 0, none⟩) hbl).trans H3d.out
          have g4 := (hbb7.cell (p := ⟨g, i * 3 + 2, none⟩) hgl.2).trans HCD.out
          have own7 := own_below HI1.out hbb7
          have g5 : W7.frozen? ⟨g, i * 3 + 2, none⟩ = false := own7.frozenAt _
          have OWN7 := Lib.hid own7
          have HHB7 := Lib.hid hb7
          have HBB7 := Lib.hid hbb7
          have KO7 := Lib.hid ko7
          have HGL := Lib.hid hgl
          have hg3 : g ≠ w3.heap.size + 1 := by have := (HOWN.out.lt g rfl).2; omega
          clear own7 hb7 hbb7 ko7 hgl htl hb6d ko6 hbd f1d f2d f3d hs6d
          gi_wp2
          have hgw3 : g < w3.heap.size := (HOWN.out.lt g rfl).2
          have hgW : W.heap.size ≤ g := (HOWN.out.lt g rfl).1
          have hs7 := HBB7.out.size
          have HS2 := HS.out
          rw [← HQL.out, ← HSL.out] at HS2
          have t4 := (HBB7.out.cell (p := ⟨w.heap.size + 1, 0, none⟩) (by show w.heap.size + 1 < W5.heap.size; omega)).trans H4.out
          have t5 := (HBB7.out.cell (p := ⟨w.heap.size + 1 + 1 + 1, 0, none⟩) (by show w.heap.size + 1 + 1 + 1 < W5.heap.size; omega)).trans H5.out
          have t6 := (HBB7.out.frozen (p := ⟨w.heap.size + 1 + 1 + 1, 0, none⟩) (by show w.heap.size + 1 + 1 + 1 < W5.heap.size; omega)).trans H6.out
          have t7 := (HBB7.out.cell (p := ⟨w.heap.size + 1 + 1 + 1 + 1, 0, none⟩) (by show w.heap.size + 1 + 1 + 1 + 1 < W5.heap.size; omega)).trans H7.out
          have t8 := (HBB7.out.frozen (p := ⟨w.heap.size + 1 + 1 + 1 + 1, 0, none⟩) (by show w.heap.size + 1 + 1 + 1 + 1 < W5.heap.size; omega)).trans H8.out
          have tD := (HBB7.out.block D (by omega)).trans HD5.out
          refine ⟨(KO7.out.trans ((KeepsOthers.setCell _ _ _).trans (KeepsOthers.setCell _ _ _))).from _, ((KpB.of_below HBB7.out (by omega)).trans (kpB_setCell _ _ (by show g < W3.heap.size; omega))).trans (kpB_setCell _ _ (by show w3.heap.size + 1 < W3.heap.size; omega)), ⟨⟨?_, trivial⟩, ⟨?_, ?_, ?_, ?_, ?_, ?_, ?_, ?_⟩, ?_, ?_⟩, ?_⟩
          · rw [HS2, ← flat_set (fun d => spl d o ((s.data.toList).take (256 - o))) hiM]
            exact (OWN7.out.stored (i * 3 + 2) _).1.kept (grownBy_setCell1 _ _ _ _) (.inr fun e => hg3 (Option.some.inj e))
          · rw [setCell_far (by show w3.heap.size ≠ w3.heap.size + 1; omega), setCell_far (by show w3.heap.size ≠ g; omega)]; exact g1
          · rw [World.cell?_setCell_same _ _ _ ((setCell_far (by show w3.heap.size + 1 ≠ g; omega)).trans g2)]
            simp [List.length_append, l0]
          · rw [World.frozen?_setCell, World.frozen?_setCell]; exact g3
          · rw [setCell_far (by show w.heap.size + 1 ≠ w3.heap.size + 1; omega), setCell_far (by show w.heap.size + 1 ≠ g; omega)]; exact t4
          · rw [setCell_far (by show w.heap.size + 1 + 1 + 1 ≠ w3.heap.size + 1; omega), setCell_far (by show w.heap.size + 1 + 1 + 1 ≠ g; omega)]; exact t5
          · rw [World.frozen?_setCell, World.frozen?_setCell]; exact t6
          · rw [setCell_far (by show w.heap.size + 1 + 1 + 1 + 1 ≠ w3.heap.size + 1; omega), setCell_far (by show w.heap.size + 1 + 1 + 1 + 1 ≠ g; omega)]; exact t7
          · rw [World.frozen?_setCell, World.frozen?_setCell]; exact t8
          · exact ((KeepsOthers.setCell _ _ _).trans (KeepsOthers.setCell _ _ _)).same D _ tD rfl
          · simp only [World.setCell, Array.size_modify]; omega
          · exact ((hBW5.trans (HBB7.out.mono (by omega))).setCell (p := ⟨g, i * 3 + 2, none⟩) (by show w.heap.size ≤ g; omega) _).setCell (p := ⟨w3.heap.size + 1, 0, none⟩) (by show w.heap.size ≤ w3.heap.size + 1; omega) _
        · rw [if_neg (by omega)] at hS
          subst hS
          gi_wp2
          have hba := (bytesAt_new W5 (M[i]).data (grownCap W5 256 0 5) 5).block (w' := (W5.alloc (.cells (bytesRow (M[i]).data (grownCap W5 256 0 5)) 5 ((bytesRow (M[i]).data (grownCap W5 256 0 5)).size, (bytesRow (M[i]).data (grownCap W5 256 0 5)).size + 1))).drew) rfl
          have hb6 : Below W5.heap.size W5 (W5.alloc (.cells (bytesRow (M[i]).data (grownCap W5 256 0 5)) 5 ((bytesRow (M[i]).data (grownCap W5 256 0 5)).size, (bytesRow (M[i]).data (grownCap W5 256 0 5)).size + 1))).drew := ((Below.refl _ _).alloc (Nat.le_refl _) _).drew
          have hs6 : (W5.alloc (.cells (bytesRow (M[i]).data (grownCap W5 256 0 5)) 5 ((bytesRow (M[i]).data (grownCap W5 256 0 5)).size, (bytesRow (M[i]).data (grownCap W5 256 0 5)).size + 1))).drew.heap.size = W5.heap.size + 1 := by simp
          have hko6 : KeepsOthers W5 (W5.alloc (.cells (bytesRow (M[i]).data (grownCap W5 256 0 5)) 5 ((bytesRow (M[i]).data (grownCap W5 256 0 5)).size, (bytesRow (M[i]).data (grownCap W5 256 0 5)).size + 1))).drew := (KeepsOthers.alloc _ _).trans (KeepsOthers.drew _)
          have hC : 256 ≤ grownCap W5 256 0 5 := grownCap_ge _ _ _ _
          generalize (W5.alloc (.cells (bytesRow (M[i]).data (grownCap W5 256 0 5)) 5 ((bytesRow (M[i]).data (grownCap W5 256 0 5)).size, (bytesRow (M[i]).data (grownCap W5 256 0 5)).size + 1))).drew = W6 at *
          generalize grownCap W5 256 0 5 = C at *
          have hbl : w3.heap.size + 1 < W5.heap.size := by have := hBW5.size; have := (cell_block_lt d2).1; exact this
          have f1 := (hb6.cell (p := ⟨w3.heap.size, 0, none⟩) (by show w3.heap.size < W5.heap.size; omega)).trans d1
          have f2 := (hb6.cell (p := ⟨w3.heap.size + 1, 0, none⟩) hbl).trans d2
          have f3 := (hb6.frozen (p := ⟨w3.heap.size + 1, 0, none⟩) hbl).trans d3
          have f4 := (hb6.cell (p := ⟨w.heap.size + 1, 0, none⟩) (by show w.heap.size + 1 < W5.heap.size; omega)).trans d4
          have c1 : (o : Int) ≤ (C : Int) := by omega
          have c2 : (256 : Int) ≤ (C : Int) := by omega
          have H1 := Lib.hid d1
          have H2 := Lib.hid d2
          have H3d := Lib.hid d3
          have H4 := Lib.hid d4
          have H5 := Lib.hid d5
          have H6 := Lib.hid d6
          have H7 := Lib.hid d7
          have H8 := Lib.hid d8
          have HCD := Lib.hid hcd
          have HD5 := Lib.hid hDD
          clear d1 d2 d3 d4 d5 d6 d7 d8 hcd hDD hcv
          refine wpIn_region_tail 7 hmx (by kernel_rfl) (by kernel_rfl) ?_
          simp only [List.take_succ_cons, List.take_zero, List.drop_succ_cons, List.drop_zero]
          repeat (go_big_quiet_step (fail))
          refine wpQuiet_nil ?_
          have hbd := hba.block (w' := W6.drew) rfl
          have hb6d := hb6.drew
          have ko6 : KeepsOthers W5 W6.drew := hko6.trans (KeepsOthers.drew _)
          have f1d : W6.drew.cell? ⟨w3.heap.size, 0, none⟩ = some (.slice (some ⟨g, 0, none⟩) L.length c3) := f1
          have f2d : W6.drew.cell? ⟨w3.heap.size + 1, 0, none⟩ = some (.int .i64 (pre.length : Nat)) := f2
          have f3d : W6.drew.frozen? ⟨w3.heap.size + 1, 0, none⟩ = false := f3
          have hs6d : W6.drew.heap.size = W5.heap.size + 1 := hs6
          clear hba hb6 f1 f2 f3 f4 hs6 hko6
          generalize W6.drew = W6d at *
          have hdl : (M[i]).data.data.toList.length = 256 := by rw [← ba_size]; exact hds
          have hcp := run_copy_min (P := Tryd.prog) W6d 86 9 3 5 W5.heap.size o (256 - o) (C - o) (s.extract pre.length s.size) Tryd.underlying86 (fun _ => by kernel_rfl) hbd (by rw [hdl]; omega)
          have htl : (((s.extract pre.length s.size).data.toList).take (256 - o)).length ≤ 256 - o := by rw [List.length_take]; omega
          have hb7 := bytesAt_copy hbd (o := o) (t := ((s.extract pre.length s.size).data.toList).take (256 - o)) (by rw [hdl]; omega)
          have hbb7 := below_setCells (Nat.le_refl W5.heap.size) (u8L (((s.extract pre.length s.size).data.toList).take (256 - o))) o W6d hb6d
          have ko7 := ko6.trans (KeepsOthers.setCells W5.heap.size (u8L (((s.extract pre.length s.size).data.toList).take (256 - o))) o W6d)
          generalize W6d.setCells W5.heap.size o (u8L (((s.extract pre.length s.size).data.toList).take (256 - o))) = W7 at *
          have hstr : (convert 86 9 (.slice (some ⟨W5.heap.size, 0, none⟩) 256 C)).run Tryd.prog W7 = .ok (.string (spl (M[i]).data o (((s.extract pre.length s.size).data.toList).take (256 - o)))) W7 :=
            run_bytes_str W7 _ _ _ _ _ _ Tryd.underlying86 Tryd.underlying5 Tryd.underlying9 hb7 256 (by simp only [List.length_append, List.length_take, List.length_drop, hdl] at *; omega)
          have g1 := (hbb7.cell (p := ⟨w3.heap.size, 0, none⟩) (by show w3.heap.size < W5.heap.size; omega)).trans H1.out
          have g2 := (hbb7.cell (p := ⟨w3.heap.size + 1, 0, none⟩) hbl).trans H2.out
          have g3 := (hbb7.frozen (p := ⟨w3.heap.size + 1, 0, none⟩) hbl).trans H3d.out
          have g4 := (hbb7.cell (p := ⟨g, i * 3 + 2, none⟩) hgl.2).trans HCD.out
          have own7 := own_below HI1.out hbb7
          have g5 : W7.frozen? ⟨g, i * 3 + 2, none⟩ = false := own7.frozenAt _
          have OWN7 := Lib.hid own7
          have HHB7 := Lib.hid hb7
          have HBB7 := Lib.hid hbb7
          have KO7 := Lib.hid ko7
          have HGL := Lib.hid hgl
          have hg3 : g ≠ w3.heap.size + 1 := by have := (HOWN.out.lt g rfl).2; omega
          clear own7 hb7 hbb7 ko7 hgl htl hb6d ko6 hbd f1d f2d f3d hs6d
          gi_wp2
          have hgw3 : g < w3.heap.size := (HOWN.out.lt g rfl).2
          have hgW : W.heap.size ≤ g := (HOWN.out.lt g rfl).1
          have hs7 := HBB7.out.size
          have HS2 := HS.out
          have hex : (s.extract pre.length s.size).data.toList = List.take (s.size - pre.length) (List.drop pre.length s.data.toList) := by simp
          rw [← HQL.out, ← HSL.out, hex] at HS2
          have t4 := (HBB7.out.cell (p := ⟨w.heap.size + 1, 0, none⟩) (by show w.heap.size + 1 < W5.heap.size; omega)).trans H4.out
          have t5 := (HBB7.out.cell (p := ⟨w.heap.size + 1 + 1 + 1, 0, none⟩) (by show w.heap.size + 1 + 1 + 1 < W5.heap.size; omega)).trans H5.out
          have t6 := (HBB7.out.frozen (p := ⟨w.heap.size + 1 + 1 + 1, 0, none⟩) (by show w.heap.size + 1 + 1 + 1 < W5.heap.size; omega)).trans H6.out
          have t7 := (HBB7.out.cell (p := ⟨w.heap.size + 1 + 1 + 1 + 1, 0, none⟩) (by show w.heap.size + 1 + 1 + 1 + 1 < W5.heap.size; omega)).trans H7.out
          have t8 := (HBB7.out.frozen (p := ⟨w.heap.size + 1 + 1 + 1 + 1, 0, none⟩) (by show w.heap.size + 1 + 1 + 1 + 1 < W5.heap.size; omega)).trans H8.out
          have tD := (HBB7.out.block D (by omega)).trans HD5.out
          refine ⟨(KO7.out.trans ((KeepsOthers.setCell _ _ _).trans (KeepsOthers.setCell _ _ _))).from _, ((KpB.of_below HBB7.out (by omega)).trans (kpB_setCell _ _ (by show g < W3.heap.size; omega))).trans (kpB_setCell _ _ (by show w3.heap.size + 1 < W3.heap.size; omega)), ⟨⟨?_, trivial⟩, ⟨?_, ?_, ?_, ?_, ?_, ?_, ?_, ?_⟩, ?_, ?_⟩, ?_⟩
          · rw [HS2, ← flat_set (fun d => spl d o ((List.take (s.size - pre.length) (List.drop pre.length s.data.toList)).take (256 - o))) hiM]
            exact (OWN7.out.stored (i * 3 + 2) _).1.kept (grownBy_setCell1 _ _ _ _) (.inr fun e => hg3 (Option.some.inj e))
          · rw [setCell_far (by show w3.heap.size ≠ w3.heap.size + 1; omega), setCell_far (by show w3.heap.size ≠ g; omega)]; exact g1
          · rw [World.cell?_setCell_same _ _ _ ((setCell_far (by show w3.heap.size + 1 ≠ g; omega)).trans g2)]
            simp [List.length_append]
          · rw [World.frozen?_setCell, World.frozen?_setCell]; exact g3
          · rw [setCell_far (by show w.heap.size + 1 ≠ w3.heap.size + 1; omega), setCell_far (by show w.heap.size + 1 ≠ g; omega)]; exact t4
          · rw [setCell_far (by show w.heap.size + 1 + 1 + 1 ≠ w3.heap.size + 1; omega), setCell_far (by show w.heap.size + 1 + 1 + 1 ≠ g; omega)]; exact t5
          · rw [World.frozen?_setCell, World.frozen?_setCell]; exact t6
          · rw [setCell_far (by show w.heap.size + 1 + 1 + 1 + 1 ≠ w3.heap.size + 1; omega), setCell_far (by show w.heap.size + 1 + 1 + 1 + 1 ≠ g; omega)]; exact t7
          · rw [World.frozen?_setCell, World.frozen?_setCell]; exact t8
          · exact ((KeepsOthers.setCell _ _ _).trans (KeepsOthers.setCell _ _ _)).same D _ tD rfl
          · simp only [World.setCell, Array.size_modify]; omega
          · exact ((hBW5.trans (HBB7.out.mono (by omega))).setCell (p := ⟨g, i * 3 + 2, none⟩) (by show w.heap.size ≤ g; omega) _).setCell (p := ⟨w3.heap.size + 1, 0, none⟩) (by show w.heap.size ≤ w3.heap.size + 1; omega) _
    case done2 =>
      rintro D2 ys W2 hD2 rfl ⟨⟨hI, ⟨d1, d2, d3, d4, d5, d6, d7, d8⟩, hDD, -⟩, hBW2⟩ hK2
      clear hD4 hown4 p1 p2 p3 q2 q4 q5 q6 q7
      have hXt : Hid ((setF L at_ s (((List.range s.size).map (plF s.size)).map Subtype.val)).1 = X) := by
        show _ = _
        rw [plF_range _ _ (Nat.le_refl _), setF_all HR.out HWF.out hat.1 hs (by rw [hok.out, hokt.out]), hX.out, hokt.out]; rfl
      have hown2 := hI.1
      rw [hXt.out] at hown2
      have HOWN2 := Lib.hid hown2
      have hXl : Hid (L.length = X.length) := by
        show _ = _
        rw [hX.out]; split
        · rw [wrL_len]
        · rfl
      clear hI hown2
      gi_wp2
      rw [hokt.out]
      have hs1 : ((W2.setCell ⟨w.heap.size + 1 + 1 + 1, 0, none⟩ (.slice A3 L.length c3)).setCell ⟨w.heap.size + 1 + 1 + 1 + 1, 0, none⟩ (.bool true)).cell? ⟨w.heap.size + 1 + 1 + 1, 0, none⟩ = some (.slice A3 L.length c3) := by simp [go_sem, d5]
      have hs2 : ((W2.setCell ⟨w.heap.size + 1 + 1 + 1, 0, none⟩ (.slice A3 L.length c3)).setCell ⟨w.heap.size + 1 + 1 + 1 + 1, 0, none⟩ (.bool true)).cell? ⟨w.heap.size + 1 + 1 + 1 + 1, 0, none⟩ = some (.bool true) := by simp [go_sem, d7]
      have KO := (KeepsOthers.setCell W2 ⟨w.heap.size + 1 + 1 + 1, 0, none⟩ (.slice A3 L.length c3)).trans (KeepsOthers.setCell _ ⟨w.heap.size + 1 + 1 + 1 + 1, 0, none⟩ (.bool true))
      have hK2' := KO.same D2 _ hK2 rfl
      have hDD' := KO.same D _ hDD rfl
      have hg1 := grownBy_setCell1 W2 (w.heap.size + 1 + 1 + 1) 0 (.slice A3 L.length c3)
      have hg2 := grownBy_setCell1 (W2.setCell ⟨w.heap.size + 1 + 1 + 1, 0, none⟩ (.slice A3 L.length c3)) (w.heap.size + 1 + 1 + 1 + 1) 0 (.bool true)
      have hne : ∀ k, k < W.heap.size → (Value.slice A3 L.length c3).ownBlock = none ∨ (Value.slice A3 L.length c3).ownBlock ≠ some k := fun k hk => .inr fun e => by have := (HOWN2.out.lt k e).1; omega
      have hown5 := (HOWN2.out.kept hg1 (hne _ (by omega))).kept hg2 (hne _ (by omega))
      have hBW5 := (hBW2.setCell (p := ⟨w.heap.size + 1 + 1 + 1, 0, none⟩) (by show w.heap.size ≤ w.heap.size + 1 + 1 + 1; omega) (.slice A3 L.length c3)).setCell (p := ⟨w.heap.size + 1 + 1 + 1 + 1, 0, none⟩) (by show w.heap.size ≤ w.heap.size + 1 + 1 + 1 + 1; omega) (.bool true)
      generalize (W2.setCell ⟨w.heap.size + 1 + 1 + 1, 0, none⟩ (.slice A3 L.length c3)).setCell ⟨w.heap.size + 1 + 1 + 1 + 1, 0, none⟩ (.bool true) = W5 at *
      have hne2 : D ≠ D2 := by omega
      have hDD6 : (W5.putObj D2 (.deferred none)).heap[D]? = some (.deferred (some [])) := (World.putObj_heap_other hne2).trans hDD'
      refine ⟨by simp, .inl ⟨_, _, rfl, run_takeDeferred hK2', ⟨by simp, .inl ⟨_, _, rfl, run_takeDeferred hDD6, ?_⟩⟩⟩⟩
      have hc1 := cell_kept (cell_kept hs1 (grownBy_putObj' _ D2 (.deferred none)) (fun r e => by cases e; exact ⟨_, hK2', rfl⟩)) (grownBy_putObj' _ D (.deferred none)) (fun r e => by cases e; exact ⟨_, hDD6, rfl⟩)
      have hc2 := cell_kept (cell_kept hs2 (grownBy_putObj' _ D2 (.deferred none)) (fun r e => by cases e; exact ⟨_, hK2', rfl⟩)) (grownBy_putObj' _ D (.deferred none)) (fun r e => by cases e; exact ⟨_, hDD6, rfl⟩)
      have hown6 := (hown5.kept (grownBy_putObj' _ D2 (.deferred none)) (.inr fun e => ?_)).kept (grownBy_putObj' _ D (.deferred none)) (.inr fun e => ?_)
      rotate_left
      · exact own_ne_obj hown5 hK2' rfl e
      · exact own_ne_obj (hown5.kept (grownBy_putObj' _ D2 (.deferred none)) (.inr fun e => own_ne_obj hown5 hK2' rfl e)) hDD6 rfl e
      refine ⟨.tuple #[.slice A3 L.length c3, .bool true], ?_, ?_, _, rfl, ?_⟩
      · simp [results, Tryd.f75, go_sem, hc1, hc2]
      · exact (hBW5.trans (belowK_b (w := w) (Nat.le_refl _) _ D2 _ _ (by omega) hK2' rfl rfl)).trans (belowK_b (w := w) (Nat.le_refl _) _ D _ _ (by omega) hDD6 rfl rfl)
      · exact OwnV.mem (base := W.heap.size) (by unfold OwnV; rw [← hXl.out]; exact hown6)
    case stop2 => rintro D c pre W hD _ hF; exact hF.elim
  case stop =>
    rintro D c pre W hD ⟨k, hk, rfl⟩ ⟨⟨rfl, hV, a1, a2⟩, hBW⟩ hK
    have hokf : Hid (ok = false) := by
      have h1 := hV.out
      rw [okF_range] at h1
      show _ = _
      rw [← hok.out]
      cases h2 : loadN L at_ perm s.size with
      | none => rfl
      | some v =>
        cases h3 : loadN L at_ perm k with
        | none => rw [loadN_none h3 hk] at h2; cases h2
        | some u => rw [h3] at h1; cases h1
    have hXl : Hid (X = L) := by show _ = _; rw [hX.out, hokf.out]; rfl
    gi_wp2
    rw [hokf.out]
    refine ⟨by simp, .inl ⟨_, _, rfl, run_takeDeferred hK, ?_⟩⟩
    have hc1 := cell_kept a1 (grownBy_putObj' _ D (.deferred none)) (fun r e => by cases e; exact ⟨_, hK, rfl⟩)
    have hc2 := cell_kept a2 (grownBy_putObj' _ D (.deferred none)) (fun r e => by cases e; exact ⟨_, hK, rfl⟩)
    have hBL := hBW.trans (belowK_b (w := w) (Nat.le_refl _) W D _ (.deferred none) (by omega) hK rfl rfl)
    refine ⟨.tuple #[.slice A L.length cap, .bool false], ?_, hBL, _, rfl, ?_⟩
    · simp [results, Tryd.f75, go_sem, hc1, hc2]
    · rw [hXl.out]
      exact ⟨A, cap, rfl, (Sl.In.below hL (hBL.mono hB)).more (Nat.le_trans hB hBL.size), HA.out⟩
theorem set_any {A : Option Addr} {cap : Nat} {L : List Pg} {w : World} {B : Nat} (ok : Bool) (X : List Pg) (at_ perm : Int) (s : ByteArray) (hok : Hid ((loadN L at_ perm s.size).isSome = ok)) (hX : Hid (X = if ok then wrL L at_ s s.size else L)) (hat : 0 ≤ at_ ∧ at_ ≤ 18446744073709551615) (hs : s.size ≤ 140737488351232) (hR : RightP L)
    (hL : Mem w B A cap L) (hA : A = none → cap = 0) (hB : B ≤ w.heap.size) (hwf : ∀ p ∈ L, p.ok) :
    Calls Tryd.prog 75 #[.slice A L.length cap, .int .u64 at_, .string s, .int .i64 perm] w fun e w' => Below w.heap.size w w' ∧
      ∃ v, e = .returned (.tuple #[v, .bool ok]) ∧ MemV w' v X := callsIn_wide.1 (set_in ok X at_ perm s hok hX hat hs hR hL hA hB hwf)
end Go.Proofs.YtajhehmkdlebbaaDoor
