/- place.Image: the walk. -/
import Derived.Test.YtajhehmkdlebbaaDoorQPlImg2
import Derived.OrdersHeld
import Derived.Deep.CutRange
import Derived.Deep.DeepCutAuto
namespace Go.Proofs.YtajhehmkdlebbaaDoor.Pl
open Go.ChangeShapes Go.WideShapes Go.ChangeAt Go.RowKit Go.Deep Go.Proofs.YtajhehmkdlebbaaDoor
set_option maxRecDepth 100000
set_option linter.unusedSimpArgs false
/-- an image in a block -/
def IB (W : World) (b : Nat) (e : Int) (v : Value) : Prop := W.heap[b]? = some (.cells #[.int .u64 e, v] 49 (0, 0))
section
variable {W W' : World} {b B : Nat} {e : Int} {v : Value}
theorem IB.new (W : World) (e : Int) (v : Value) : IB (W.alloc (.cells #[.int .u64 e, v] 49)) W.heap.size e v := heap_alloc_new W _
theorem IB.below (h : IB W b e v) (hb : Below B W W') (hB : b < B) : IB W' b e v := (hb.block _ hB).trans h
theorem IB.alloc (h : IB W b e v) (o : Obj) : IB (W.alloc o) b e v := (Lib.alloc_old W o _ (Array.getElem?_eq_some_iff.1 h).1).trans h
theorem IB.cells (h : IB W b e v) : W.cell? ⟨b, 0, none⟩ = some (.int .u64 e) ∧ W.cell? ⟨b, 1, none⟩ = some v := by
  constructor <;> rw [Lib.cell_of_heap h] <;> rfl
theorem IB.frz (h : IB W b e v) : W.frozen? ⟨b, 0, none⟩ = false ∧ W.frozen? ⟨b, 1, none⟩ = false := ⟨Lib.frozen_of_heap h 0, Lib.frozen_of_heap h 1⟩
theorem IB.lt (h : IB W b e v) : b < W.heap.size := (Array.getElem?_eq_some_iff.1 h).1
theorem segL_ok {L : List CodeD} {G : List GlobD} (hz : sizeB L G.length)
    (hx : textI L = 65556 + 4 * (sumOps L : Int) ∧ dataI L G.length = upI (textI L) + 8 * (G.length : Int) ∧ upI (textI L) = (textI L + 255) / 256 * 256 ∧ stackI L G.length = upI (dataI L G.length) + 8192 ∧ upI (dataI L G.length) = (dataI L G.length + 255) / 256 * 256)
    (hb : (bytesS (opsA L G)).size = 4 * (opsA L G).length) (hl : (opsA L G).length = 5 + sumOps L) : ∀ s ∈ segL L G, s.ok := by
  obtain ⟨z1, z2, z3⟩ := hz
  obtain ⟨x1, x2, x3, x4, x5⟩ := hx
  intro s hs
  have hg : ((⟨(globL G).toArray⟩ : ByteArray).size : Int) = 8 * G.length := by rw [ba_size]; simp [globL_len]
  unfold segL segD at hs
  simp only [List.mem_cons, List.mem_append, List.not_mem_nil, or_false] at hs
  rcases hs with rfl | hs | rfl
  · exact ⟨by simp only; omega, by simp only; omega, by simp only; omega, by simp only; omega⟩
  · split at hs
    · simp only [List.mem_cons, List.not_mem_nil, or_false] at hs
      subst hs
      exact ⟨by simp only; omega, by simp only; omega, by simp only; omega, by simp only; omega⟩
    · cases hs
  · exact ⟨by simp only; omega, by simp only; omega, by simp, by simp only; omega⟩
theorem IB.ne (h : IB W b e v) {base n : Nat} {u : Value} {xs : List Value} (ho : W.ownsRow base 108 4 u n xs) : u.ownBlock ≠ some b := by
  rcases ho.2 with ⟨rfl, _⟩ | ⟨g, cap, cur, rfl, _, hg, _⟩
  · exact fun h' => by cases h'
  · intro h'
    obtain rfl : g = b := Option.some.inj h'
    unfold IB at h
    rw [h] at hg
    have h2 := Option.some.inj hg
    injection h2 with _ h3
    exact absurd h3 (by decide)
theorem IB.own (h : IB W b e v) (v' : Value) (i : Nat) {base n : Nat} {u : Value} {xs : List Value} (ho : W.ownsRow base 108 4 u n xs) : (W.setCell ⟨b, i, none⟩ v').ownsRow base 108 4 u n xs := by
  have hne := h.ne ho
  rcases ho.2 with h2 | ⟨g, cap, cur, rfl, h3, h4, h5⟩
  · exact ⟨ho.1, .inl h2⟩
  · exact ⟨ho.1, .inr ⟨g, cap, cur, rfl, h3, (Below.heap_setCell _ _ _ _ (fun e => hne (congrArg some e))).trans h4, h5⟩⟩
theorem segInfo : (Tryd.prog.info? 108).map (fun i => (i.zero, i.size, i.bytes)) = some (some (.agg #[.int .u64 0, .int .i64 0, .string ⟨#[]⟩, .int .u64 0]), 4, 40) := by kernel_rfl
theorem IB.set0 (h : IB W b e v) (e' : Int) : IB (W.setCell ⟨b, 0, none⟩ (.int .u64 e')) b e' v := by
  unfold IB at *
  simp only [World.setCell, Array.getElem?_modify, if_true, h, Option.map_some]
  simp
theorem IB.set (h : IB W b e v) (v' : Value) : IB (W.setCell ⟨b, 1, none⟩ v') b e v' := by
  unfold IB at *
  simp only [World.setCell, Array.getElem?_modify, if_true, h, Option.map_some]
  simp
end
set_option maxHeartbeats 4000000 in
theorem image_any {B : Nat} {A A2 : Option Addr} {cap gc : Nat} {L : List CodeD} {G : List GlobD} {w : World} (hT : Tab w) (hL : Codes w B A cap L) (hG : Globs w B A2 gc G) (hB : B ≤ w.heap.size) (hsum : sumOps L ≤ 1048576) (hsok : ∀ s ∈ allS L G, s.ok) :
    Calls Tryd.prog 28 #[.slice A L.length cap, .slice A2 G.length gc] w (ImgPost w L G) := by
  have hlen := hL.len
  have hlenG := hG.len
  have hs0 := hT.size
  have HT := Lib.hid hT
  have HL := Lib.hid hL
  have HG := Lib.hid hG
  have HSOK := Lib.hid hsok
  obtain ⟨W0, hW0⟩ : ∃ W0, w.alloc (.cells #[.int .u64 0, .slice none 0 0] 49) = W0 := ⟨_, rfl⟩
  have k0 : Below w.heap.size w W0 := by subst hW0; exact (Below.refl _ _).alloc (Nat.le_refl _) _
  have b0 : IB W0 w.heap.size 0 (.slice none 0 0) := hW0 ▸ IB.new w _ _
  have z0 : W0.heap.size = w.heap.size + 1 := by subst hW0; simp
  have HB0 := Lib.hid k0
  have HX0 := Lib.hid b0
  clear hT hL hG hsok k0 b0
  go_enter Tryd.func28, Tryd.ntmps28
  go_wp2_with fail
  refine (ends_any (HL.out.below (HB0.out.mono hB)) (by omega) (by omega)).mono ?_
  rintro e w1 ⟨rfl, hb1⟩
  have HB1 := Lib.hid (HB0.out.trans (hb1.mono HB0.out.size))
  have HX1 := Lib.hid (HX0.out.below hb1 (by omega))
  have s1 := hb1.size
  clear hb1
  have ht := text_exact hsum
  obtain ⟨hd, hu⟩ := data_exact (m := G.length) hsum (by omega)
  obtain ⟨hst, hud⟩ := stack_exact (m := G.length) hsum (by omega)
  obtain ⟨c0, c1⟩ := HX1.out.cells
  obtain ⟨f0, f1⟩ := HX1.out.frz
  have wt : IntKind.u64.wrap (textI L - 65536) = textI L - 65536 := by rw [IntKind.wrap_u64]; omega
  have wd : IntKind.u64.wrap (dataI L G.length - upI (textI L)) = dataI L G.length - upI (textI L) := by rw [IntKind.wrap_u64]; omega
  have ws : IntKind.u64.wrap (stackI L G.length - 65536) = stackI L G.length - 65536 := by rw [IntKind.wrap_u64]; omega
  have wq : (stackI L G.length - 65536).tdiv 256 = (stackI L G.length - 65536) / 256 := Int.tdiv_eq_ediv_of_nonneg (by omega)
  have wr : IntKind.u64.wrap ((stackI L G.length - 65536) / 256) = (stackI L G.length - 65536) / 256 := by rw [IntKind.wrap_u64]; omega
  have hSZ : (¬ 16384 < textI L - 65536 ∧ ¬ 16384 < dataI L G.length - upI (textI L) ∧ ¬ 64 < (stackI L G.length - 65536) / 256) → sizeB L G.length := fun h => ⟨by omega, by omega, by omega⟩
  have HSZ := Lib.hid hSZ
  have HTX := Lib.hid (And.intro ht (And.intro hd (And.intro hu (And.intro hst hud))))
  clear hSZ
  obtain ⟨T, hTd⟩ : ∃ T, textI L = T := ⟨_, rfl⟩
  obtain ⟨D, hDd⟩ : ∃ D, dataI L G.length = D := ⟨_, rfl⟩
  obtain ⟨K, hKd⟩ : ∃ K, stackI L G.length = K := ⟨_, rfl⟩
  rw [hTd] at wt wd HSZ
  rw [hDd] at wd HSZ
  rw [hKd] at ws wq wr HSZ
  rw [hTd, hDd, hKd]
  clear ht hd hu hst hud
  obtain ⟨HTd, HDd, HKd⟩ := And.intro (Lib.hid hTd) (And.intro (Lib.hid hDd) (Lib.hid hKd))
  clear hTd hDd hKd
  by_cases g1 : 16384 < T - 65536
  · go_wp2
    have hb : Below w.heap.size w ((w1.setCell ⟨w.heap.size, 0, none⟩ (.int .u64 0)).setCell ⟨w.heap.size, 1, none⟩ (.slice none 0 0)) := (HB1.out.setCell (p := ⟨w.heap.size, 0, none⟩) (Nat.le_refl _) _).setCell (p := ⟨w.heap.size, 1, none⟩) (Nat.le_refl _) _
    refine bodyPost_ret (v := .tuple #[.agg #[.int .u64 0, .slice none 0 0], .int .i64 4]) ?_ rfl (ImgPost.bad (by decide) hb rfl)
    simp [results, Tryd.results28, go_sem, *]
  have g1' : ¬ 16384 < T - 65536 := g1
  by_cases g2 : 16384 < D - upI T
  · go_wp2_with (first | (go_at_call 51; refine (up_any _ _).mono ?_; rintro e w' ⟨rfl, rfl⟩) | fail)
    have hb : Below w.heap.size w ((w1.setCell ⟨w.heap.size, 0, none⟩ (.int .u64 0)).setCell ⟨w.heap.size, 1, none⟩ (.slice none 0 0)) := (HB1.out.setCell (p := ⟨w.heap.size, 0, none⟩) (Nat.le_refl _) _).setCell (p := ⟨w.heap.size, 1, none⟩) (Nat.le_refl _) _
    refine bodyPost_ret (v := .tuple #[.agg #[.int .u64 0, .slice none 0 0], .int .i64 4]) ?_ rfl (ImgPost.bad (by decide) hb rfl)
    simp [results, Tryd.results28, go_sem, *]
  have g2' : ¬ 16384 < D - upI T := g2
  by_cases g3 : 64 < (K - 65536) / 256
  · go_wp2_with (first | (go_at_call 51; refine (up_any _ _).mono ?_; rintro e w' ⟨rfl, rfl⟩) | fail)
    have hb : Below w.heap.size w ((w1.setCell ⟨w.heap.size, 0, none⟩ (.int .u64 0)).setCell ⟨w.heap.size, 1, none⟩ (.slice none 0 0)) := (HB1.out.setCell (p := ⟨w.heap.size, 0, none⟩) (Nat.le_refl _) _).setCell (p := ⟨w.heap.size, 1, none⟩) (Nat.le_refl _) _
    refine bodyPost_ret (v := .tuple #[.agg #[.int .u64 0, .slice none 0 0], .int .i64 4]) ?_ rfl (ImgPost.bad (by decide) hb rfl)
    simp [results, Tryd.results28, go_sem, *]
  have HSZ1 := Lib.hid (HSZ.out ⟨g1, g2, g3⟩)
  go_wp2_with (first | (go_at_call 51; refine (up_any _ _).mono ?_; rintro e w' ⟨rfl, rfl⟩) | fail)
  refine (syms_read (HL.out.below (HB1.out.mono hB)) (HG.out.below (HB1.out.mono hB)) (by omega)).mono ?_
  rintro e w2 ⟨SA, sc, rfl, hS2, hb2⟩
  have s2 := hb2.size
  have HB2 := Lib.hid (HB1.out.trans (hb2.mono HB1.out.size))
  have HX2 := Lib.hid (HX1.out.below hb2 (by omega))
  have hsl : (allS L G).length = L.length + G.length := symsL_len L G _ _
  have HS2 := Lib.hid (show (⟨SA, sc, allS L G⟩ : Sl SymD).In w2 w2.heap.size 3 SymD.cells from hS2)
  have htab := table_any HS2.out (Nat.le_refl _) HSOK.out (by omega)
  rw [hsl] at htab
  have HTAB := Lib.hid htab
  clear hb2 hS2 htab c0 c1 f0 f1
  go_wp2_with fail
  refine HTAB.out.mono ?_
  rintro e w3 ⟨rfl, hm3, hb3⟩
  have s3 := hb3.size
  have HB3 := Lib.hid (HB2.out.trans (hb3.mono HB2.out.size))
  have HX3 := Lib.hid (HX2.out.below hb3 (by omega))
  have HS3 := Lib.hid (show (⟨SA, sc, allS L G⟩ : Sl SymD).In w3 w3.heap.size 3 SymD.cells from (Sl.In.below HS2.out hb3).more s3)
  have hl := tab_look (n := ⟨#[109, 97, 105, 110]⟩) (by decide) true hm3
  clear hb3 hm3
  obtain ⟨c0, c1⟩ := HX3.out.cells
  obtain ⟨f0, f1⟩ := HX3.out.frz
  obtain ⟨mn, hmn⟩ : ∃ mn, firstS (allS L G) ⟨#[109, 97, 105, 110]⟩ true = mn := ⟨_, rfl⟩
  rw [hmn] at hl
  have HMN := Lib.hid hmn
  clear hmn
  cases hmi : mn.isSome with
  | false =>
    rw [hmi] at hl
    go_wp2
    have hb : Below w.heap.size w ((w3.setCell ⟨w.heap.size, 0, none⟩ (.int .u64 0)).setCell ⟨w.heap.size, 1, none⟩ (.slice none 0 0)) := (HB3.out.setCell (p := ⟨w.heap.size, 0, none⟩) (Nat.le_refl _) _).setCell (p := ⟨w.heap.size, 1, none⟩) (Nat.le_refl _) _
    refine bodyPost_ret (v := .tuple #[.agg #[.int .u64 0, .slice none 0 0], .int .i64 11]) ?_ rfl (ImgPost.bad (by decide) hb rfl)
    simp [results, Tryd.results28, go_sem, *]
  | true =>
  rw [hmi] at hl
  have HMI := Lib.hid hmi
  clear hmi
  go_wp2_with fail
  refine (first_any K (atI mn) w3).mono ?_
  rintro e w4 ⟨V0, rfl, hO4, hb4⟩
  have s4 := hb4.size
  have HB4 := Lib.hid hb4
  have HO4 := Lib.hid hO4
  clear hb4 hO4 hl c0 c1 f0 f1
  obtain ⟨i0, hi, hz0, hz1, hz2⟩ := info_parts opInfo
  obtain ⟨j0, hj, hy0, hy1, hy2⟩ := info_parts segInfo
  have hst0 : w4.ownsRow w3.heap.size 23 5 V0 (5 + (bodyL L (allS L G) 0).length) ((firstL K (atI mn) ++ bodyL L (allS L G) 0).flatMap OpD.cells) := by
    rw [show bodyL L (allS L G) 0 = [] from rfl, List.append_nil]; exact HO4.out
  go_wp2_with fail
  go_loopw [12, 62] (fun o i wr => ∃ k : Nat, k ≤ L.length ∧ i = .int .i64 k ∧ Hid (wr.ownsRow w3.heap.size 23 5 o (5 + (bodyL L (allS L G) k).length) ((firstL K (atI mn) ++ bodyL L (allS L G) k).flatMap OpD.cells)) ∧ Hid (∀ j, j < k → codeE L (allS L G) j = 0) ∧ Hid (Below w3.heap.size w3 wr)) (fun _ i _ => L.length - (intOf i).toNat)
  case atStart => exact ⟨0, Nat.zero_le _, rfl, Lib.hid hst0, fun j hj => absurd hj (Nat.not_lt_zero _), HB4.out⟩
  case round =>
    obtain ⟨k, hk, rfl, HOW, HCE, HBW⟩ := hrel
    have HBR := Lib.hid (HB3.out.trans (HBW.out.mono HB3.out.size))
    have sr := HBW.out.size
    by_cases hlt : k < L.length
    · obtain ⟨b, off, rfl, hb, c0, c1, c2⟩ := (HL.out.below (HBR.out.mono hB)).at_ hlt
      have hC := HL.out.2.2 L[k] (List.getElem_mem hlt)
      obtain ⟨b2, off2, rfl, hb2, d1, -⟩ := sym_cells (Sl.In.below HS3.out HBW.out) (symsL_at_f (G := G) hlt)
      have hbl := Lib.hid (bodyL_succ (allS L G) hlt)
      have hce := Lib.hid (codeE_at (allS L G) hlt)
      have hbn := bodyL_len (allS L G) (Nat.le_of_lt hlt)
      have hbm := sumOps_take hlt
      have hba := sumOps_all L (k + 1)
      obtain ⟨c, hc⟩ : ∃ c, c = L[k] := ⟨_, rfl⟩
      rw [← hc] at c0 c1 c2 hC hbl hce hbm
      have i1 : (0 : Int) ≤ (k : Int) := by omega
      have i2 : (k : Int) < (L.length : Int) := by omega
      have i3 : (k : Int) < ((L.length + G.length : Nat) : Int) := by omega
      have i4 : (k : Int) < (L.length : Int) + (G.length : Int) := by omega
      obtain ⟨W5, hW5⟩ : ∃ W5, wr.alloc (.cells #[.string c.name, .slice c.ops.a c.ops.l.length c.ops.cap, .slice c.rels.a c.rels.l.length c.rels.cap] 91) = W5 := ⟨_, rfl⟩
      have x5 : Box3 W5 wr.heap.size (.string c.name) (.slice c.ops.a c.ops.l.length c.ops.cap) (.slice c.rels.a c.rels.l.length c.rels.cap) := hW5 ▸ Box3.new wr _ _ _ _
      have b5 : Below wr.heap.size wr W5 := by subst hW5; exact (Below.refl _ wr).alloc (Nat.le_refl _) _
      have s5 : W5.heap.size = wr.heap.size + 1 := by subst hW5; simp
      have z5 : W5.drew.heap.size = wr.heap.size + 1 := s5
      have b5d : Below wr.heap.size wr W5.drew := b5.drew
      have hbB : Below B w W5.drew := (HBR.out.trans (b5d.mono HBR.out.size)).mono hB
      have hb3D : Below w3.heap.size w3 W5.drew := HBW.out.trans (b5d.mono sr)
      obtain ⟨hnm, ⟨oin, ocap, _, ook⟩, ⟨rin, rcap, _, rok⟩⟩ := hC
      have HOC := Lib.hid (show (⟨c.ops.a, c.ops.cap, c.ops.l⟩ : Sl OpD).In W5.drew W5.drew.heap.size 5 OpD.cells from (Sl.In.below oin hbB).more (by omega))
      have HRC := Lib.hid (show (⟨c.rels.a, c.rels.cap, c.rels.l⟩ : Sl RelD).In W5.drew W5.drew.heap.size 3 RelD.cells from (Sl.In.below rin hbB).more (by omega))
      have HSC := Lib.hid (show (⟨some ⟨b2, off2, none⟩, sc, allS L G⟩ : Sl SymD).In W5.drew W5.drew.heap.size 3 SymD.cells from (Sl.In.below HS3.out hb3D).more (by omega))
      have HRK := Lib.hid rok
      have hol : c.ops.l.length ≤ 3518437208784 := by omega
      have hrl : c.rels.l.length ≤ 140737488351232 := by have := rin.1; omega
      have hsl2 : (allS L G).length ≤ 140737488351232 := by omega
      have hb2w : b2 < W5.drew.heap.size := by omega
      have HW5 := Lib.hid hW5
      have HS0 := Lib.hid (show Box3 W5.drew wr.heap.size (.string c.name) (.slice c.ops.a c.ops.l.length c.ops.cap) (.slice c.rels.a c.rels.l.length c.rels.cap) ∧ W5.drew.cell? ⟨b2, off2 + k * 3 + 1, none⟩ = some (.int .u64 (paI L k)) from ⟨x5.below (B := wr.heap.size + 1) (Below.refl _ W5).drew (Nat.lt_succ_self _), (b5d.cell (p := ⟨b2, off2 + k * 3 + 1, none⟩) (by omega : b2 < wr.heap.size)).trans d1⟩)
      have HBD := Lib.hid b5d
      have hfx := fix_any (nm := c.name) (paI L k) HOC.out HRC.out HSC.out (Nat.le_refl _) hol hrl hsl2 HRK.out HSOK.out
      rw [hsl] at hfx
      have HFX := Lib.hid hfx
      clear hfx oin rin ook rok hW5 x5 b5 b5d hbB hb3D hc
      go_wp2_with fail
      rw [HW5.out]
      clear d1 c0 c1 c2
      refine wp_region_noPanic ?_
      refine wp_region_held_drew (S := fun w' => Box3 w' wr.heap.size (.string c.name) (.slice c.ops.a c.ops.l.length c.ops.cap) (.slice c.rels.a c.rels.l.length c.rels.cap) ∧ w'.cell? ⟨b2, off2 + k * 3 + 1, none⟩ = some (.int .u64 (paI L k))) (by kernel_rfl) HS0.out (fun hHeld => ?_)
      refine takeH (i := 0) (d := some 68) (v := ?_) rfl (by kernel_rfl) (by kernel_rfl) (by kernel_rfl) (fun _ _ _ h => h) rfl (Or.inl ⟨by rfl, ?_⟩) hHeld ?_
      rotate_left
      · intro w' hSw; obtain ⟨⟨x0, x1, x2, -⟩, y0⟩ := hSw; go_simp; (try with_reducible rfl)
      (try simp only [Act.put, List.setIfInBounds_toArray, List.set_cons_zero, List.set_cons_succ])
      refine takeH (i := 1) (d := some 69) (v := ?_) rfl (by kernel_rfl) (by kernel_rfl) (by kernel_rfl) (fun _ _ _ h => h) rfl (Or.inl ⟨by rfl, ?_⟩) hHeld ?_
      rotate_left
      · intro w' hSw; go_simp; (try with_reducible rfl)
      (try simp only [Act.put, List.setIfInBounds_toArray, List.set_cons_zero, List.set_cons_succ])
      refine takeH (i := 2) (d := some 70) (v := ?_) rfl (by kernel_rfl) (by kernel_rfl) (by kernel_rfl) (fun _ _ _ h => h) rfl (Or.inl ⟨by rfl, ?_⟩) hHeld ?_
      rotate_left
      · intro w' hSw; go_simp; (try with_reducible rfl)
      (try simp only [Act.put, List.setIfInBounds_toArray, List.set_cons_zero, List.set_cons_succ])
      refine takeH (i := 3) (d := some 71) (v := ?_) rfl (by kernel_rfl) (by kernel_rfl) (by kernel_rfl) (fun _ _ _ h => h) rfl (Or.inl ⟨by rfl, ?_⟩) hHeld ?_
      rotate_left
      · intro w' hSw; go_simp; (try with_reducible rfl)
      (try simp only [Act.put, List.setIfInBounds_toArray, List.set_cons_zero, List.set_cons_succ])
      refine takeH (i := 4) (d := some 72) (v := ?_) rfl (by kernel_rfl) (by kernel_rfl) (by kernel_rfl) (fun _ _ _ h => h) rfl (Or.inl ⟨by rfl, ?_⟩) hHeld ?_
      rotate_left
      · intro w' hSw; go_simp; (try with_reducible rfl)
      (try simp only [Act.put, List.setIfInBounds_toArray, List.set_cons_zero, List.set_cons_succ])
      refine takeH (i := 5) (d := some 73) (v := ?_) rfl (by kernel_rfl) (by kernel_rfl) (by kernel_rfl) (fun _ _ _ h => h) rfl (Or.inl ⟨by rfl, ?_⟩) hHeld ?_
      rotate_left
      · intro w' hSw; obtain ⟨⟨x0, x1, x2, -⟩, y0⟩ := hSw; go_simp; (try with_reducible rfl)
      (try simp only [Act.put, List.setIfInBounds_toArray, List.set_cons_zero, List.set_cons_succ])
      refine takeH (i := 6) (d := some 74) (v := ?_) rfl (by kernel_rfl) (by kernel_rfl) (by kernel_rfl) (fun _ _ _ h => h) rfl (Or.inl ⟨by rfl, ?_⟩) hHeld ?_
      rotate_left
      · intro w' hSw; go_simp; (try with_reducible rfl)
      (try simp only [Act.put, List.setIfInBounds_toArray, List.set_cons_zero, List.set_cons_succ])
      refine wpAnyH_ready (rs := [7]) (by kernel_rfl) (by simp) ?_
      refine AllReadyH.cons rfl (fun K hK => ?_) AllReadyH.nil
      go_simp
      go_at_call 54
      with_reducible refine (HFX.out).mono ?_
      rintro e w6 ⟨v6, rfl, hb6, hgood, hbadv⟩
      have HH6 := Lib.hid (And.intro (hHeld.1.below hb6 hHeld.1.lt) ((hb6.cell (p := ⟨b2, off2 + k * 3 + 1, none⟩) hb2w).trans hHeld.2))
      have HB6 := Lib.hid hb6
      have HGO := Lib.hid hgood
      clear hb6 hgood hbadv
      go_wp2_with fail
      refine hK.out _ _ HH6.out (fun hHeld => ?_)
      clear hK K
      (try simp only [Act.put, List.setIfInBounds_toArray, List.set_cons_zero, List.set_cons_succ])
      refine takeH (i := 8) (d := some 67) (v := ?_) rfl (by kernel_rfl) (by kernel_rfl) (by kernel_rfl) (fun _ _ _ h => h) rfl (Or.inl ⟨by rfl, ?_⟩) hHeld ?_
      rotate_left
      · intro w' hSw; go_simp; (try with_reducible rfl)
      (try simp only [Act.put, List.setIfInBounds_toArray, List.set_cons_zero, List.set_cons_succ])
      refine takeH (i := 9) (d := some 76) (v := ?_) rfl (by kernel_rfl) (by kernel_rfl) (by kernel_rfl) (fun _ _ _ h => h) rfl (Or.inl ⟨by rfl, ?_⟩) hHeld ?_
      rotate_left
      · intro w' hSw; go_simp; (try with_reducible rfl)
      (try simp only [Act.put, List.setIfInBounds_toArray, List.set_cons_zero, List.set_cons_succ])
      refine takeH (i := 10) (d := some 77) (v := ?_) rfl (by kernel_rfl) (by kernel_rfl) (by kernel_rfl) (fun _ _ _ h => h) rfl (Or.inl ⟨by rfl, ?_⟩) hHeld ?_
      rotate_left
      · intro w' hSw; go_simp; (try with_reducible rfl)
      (try simp only [Act.put, List.setIfInBounds_toArray, List.set_cons_zero, List.set_cons_succ])
      refine takeH (i := 11) (d := some 15) (v := ?_) rfl (by kernel_rfl) (by kernel_rfl) (by kernel_rfl) (fun _ _ _ h => h) rfl (Or.inl ⟨by rfl, ?_⟩) hHeld ?_
      rotate_left
      · intro w' hSw; go_simp; (try with_reducible rfl)
      (try simp only [Act.put, List.setIfInBounds_toArray, List.set_cons_zero, List.set_cons_succ])
      refine takeH (i := 12) (d := some 16) (v := ?_) rfl (by kernel_rfl) (by kernel_rfl) (by kernel_rfl) (fun _ _ _ h => h) rfl (Or.inl ⟨by rfl, ?_⟩) hHeld ?_
      rotate_left
      · intro w' hSw; go_simp; (try with_reducible rfl)
      (try simp only [Act.put, List.setIfInBounds_toArray, List.set_cons_zero, List.set_cons_succ])
      refine wpAnyH_done (by kernel_rfl) ?_ _
      refine NoPanic.normal ?_
      have s6 := HB6.out.size
      have HBZ := Lib.hid (HBD.out.trans (HB6.out.mono (by omega)))
      have HBR6 := Lib.hid (HBR.out.trans (HBZ.out.mono HBR.out.size))
      have HBW6 := Lib.hid (HBW.out.trans (HBZ.out.mono HBW.out.size))
      obtain ⟨E, hE⟩ : ∃ E, E = fixE c.ops.l (paI L k) (allS L G) c.rels.l := ⟨_, rfl⟩
      rw [← hE]
      by_cases hE0 : E = 0
      rotate_left
      · have g4 : (E != 0) = true := by simpa using hE0
        obtain ⟨c0, c1⟩ := (HX3.out.below HBW6.out (by omega)).cells
        obtain ⟨f0, f1⟩ := (HX3.out.below HBW6.out (by omega)).frz
        go_wp2
        have hb : Below w.heap.size w ((w6.setCell ⟨w.heap.size, 0, none⟩ (.int .u64 0)).setCell ⟨w.heap.size, 1, none⟩ (.slice none 0 0)) := (HBR6.out.setCell (p := ⟨w.heap.size, 0, none⟩) (Nat.le_refl _) _).setCell (p := ⟨w.heap.size, 1, none⟩) (Nat.le_refl _) _
        refine bodyPost_ret (v := .tuple #[.agg #[.int .u64 0, .slice none 0 0], .int .i64 E]) ?_ rfl (ImgPost.bad hE0 hb rfl)
        simp [results, Tryd.results28, go_sem, *]
      have hgd := HGO.out (hE.symm.trans hE0)
      have HCE1 := Lib.hid (show ∀ j, j < k + 1 → codeE L (allS L G) j = 0 from fun j hj => by
        by_cases e : j = k
        · subst e; rw [hce.out, ← hE]; exact hE0
        · exact HCE.out j (by omega))
      subst hE0
      have HFL := Lib.hid (fixO_len (paI L k) (allS L G) c.rels.l c.ops.l)
      obtain ⟨F, hF⟩ : ∃ F, F = fixO c.ops.l (paI L k) (allS L G) c.rels.l := ⟨_, rfl⟩
      rw [← hF] at hgd hbl HFL
      have hfl := HFL.out
      have HOW6 := Lib.hid (own_below HOW.out HBZ.out)
      clear hE hF HGO
      have hg2 := hgd
      rcases hg2.2 with ⟨rfl, hn0⟩ | ⟨g, cp, cur, rfl, -, -, -, -, -, -⟩
      · have hF0 : F = [] := List.eq_nil_of_length_eq_zero (by rw [hfl]; exact hn0)
        have HRO := Lib.hid (show w6.ownsRow w3.heap.size 23 5 u12 (5 + (bodyL L (allS L G) (k + 1)).length) ((firstL K (atI mn) ++ bodyL L (allS L G) (k + 1)).flatMap OpD.cells) by
          rw [hbl.out, hF0, List.append_nil]; exact HOW6.out)
        clear hgd hF0
        go_wp2_with (at_builtin; refine wpList_append_own_none rfl (.tmp 82) (.tmp 83) 71 rfl w3.heap.size 23 i0 5 Tryd.underlying71 hi u12 _ _ rfl HOW6.out rfl ?_)
        exact ⟨⟨k + 1, hlt, by go_num, HRO, HCE1, HBW6⟩, by simp [intOf]; omega⟩
      · go_wp2_with
          (at_builtin
           refine wpList_append_own_wide _ rfl (.tmp 82) (.tmp 83) 71 rfl w3.heap.size 23 i0 _ 5 40 Tryd.underlying71 hi hz0 hz1 hz2 rfl (by omega) u12 (5 + (bodyL L (allS L G) k).length) _ rfl HOW6.out ⟨g, 0, none⟩ c.ops.l.length cp (F.flatMap OpD.cells) rfl (by rw [flat_len OpD.len, hfl]) (hgd.cells (g := g) rfl) (fun u hu => ?_) ?_ ?_ ?_ ?_
           rotate_right
           intro v7 w7 hown7 hg7 _
           have HBW7 := Lib.hid (HBW6.out.grown hg7 (by omega) (fun k hk => (HOW6.out.lt k hk).1)))
        case refine_1 => obtain ⟨y, _, hy⟩ := List.mem_flatMap.1 hu; exact OpD.one y u hy
        case refine_2 => unfold maxLen; omega
        case refine_3 => omega
        case refine_4 => omega
        have HRO := Lib.hid (show w7.ownsRow w3.heap.size 23 5 v7 (5 + (bodyL L (allS L G) (k + 1)).length) ((firstL K (atI mn) ++ bodyL L (allS L G) (k + 1)).flatMap OpD.cells) by
          rw [hbl.out, List.length_append, hfl, ← Nat.add_assoc, ← List.append_assoc, List.flatMap_append]; exact hown7)
        exact ⟨⟨k + 1, hlt, by go_num, HRO, HCE1, HBW7⟩, by simp [intOf]; omega⟩
    · obtain rfl : k = L.length := by omega
      have hal : (opsA L G).length = 5 + (bodyL L (allS L G) L.length).length := by rw [opsA_len, bodyL_len _ (Nat.le_refl _), List.take_length]
      have hap : opsA L G = firstL K (atI mn) ++ bodyL L (allS L G) L.length := by unfold opsA; rw [HKd.out, show mainS = ⟨#[109, 97, 105, 110]⟩ from rfl, HMN.out]
      have hown := HOW.out
      rw [← hal, ← hap] at hown
      have hal2 := opsA_len L G
      obtain ⟨OA, oc, hov, hoin⟩ := Sl.of_own (cells := OpD.cells) (fun _ => rfl) hown rfl
      have HOI := Lib.hid (show (⟨OA, oc, opsA L G⟩ : Sl OpD).In wr wr.heap.size 5 OpD.cells from hoin)
      subst hov
      have htx := HTX.out.1
      have htt := HTd.out
      have hle : (opsA L G).length ≤ 10000 := by omega
      have HAL := Lib.hid hal2
      clear hown hoin hap HOW hal hal2
      have HCO := Lib.hid (containsO_any (HT.out.below HBR.out hs0) HOI.out (Nat.le_refl _) (by omega))
      go_wp2_with fail
      refine HCO.out.mono ?_
      rintro e w5 ⟨rfl, hb5⟩
      have s5 := hb5.size
      have HBR5 := Lib.hid (HBR.out.trans (hb5.mono HBR.out.size))
      have HBW5 := Lib.hid (HBW.out.trans (hb5.mono HBW.out.size))
      have HOI5 := Lib.hid ((Sl.In.below HOI.out hb5).more s5)
      have HX5 := Lib.hid (HX3.out.below HBW5.out (by omega))
      clear hb5
      cases hany : (opsA L G).any badO with
      | true =>
        obtain ⟨c0, c1⟩ := HX5.out.cells
        obtain ⟨f0, f1⟩ := HX5.out.frz
        go_wp2
        have hb : Below w.heap.size w ((w5.setCell ⟨w.heap.size, 0, none⟩ (.int .u64 0)).setCell ⟨w.heap.size, 1, none⟩ (.slice none 0 0)) := (HBR5.out.setCell (p := ⟨w.heap.size, 0, none⟩) (Nat.le_refl _) _).setCell (p := ⟨w.heap.size, 1, none⟩) (Nat.le_refl _) _
        refine bodyPost_ret (v := .tuple #[.agg #[.int .u64 0, .slice none 0 0], .int .i64 1]) ?_ rfl (ImgPost.bad (by decide) hb rfl)
        simp [results, Tryd.results28, go_sem, *]
      | false =>
      have HALL := Lib.hid (show ∀ o ∈ opsA L G, mayO o = true from fun o ho => by
        have := List.any_eq_false.1 hany o ho
        simpa [badO] using this)
      clear hany
      have hbs : (bytesS (opsA L G)).size = 4 * (opsA L G).length := by
        unfold bytesS
        rw [if_pos (show (opsA L G).all OpD.may = true from List.all_eq_true.2 fun o ho => HALL.out o ho), ba_size]
        simp [bytesL_len]
      go_wp2_with fail
      refine (bytes_any (HT.out.below HBR5.out hs0) HOI5.out (Nat.le_refl _) hle).mono ?_
      rintro e w8 ⟨rfl, hb8⟩
      have s8 := hb8.size
      have HBR8 := Lib.hid (HBR5.out.trans (hb8.mono HBR5.out.size))
      have HBW8 := Lib.hid (HBW5.out.trans (hb8.mono HBW5.out.size))
      have HX8 := Lib.hid (HX3.out.below HBW8.out (by omega))
      clear hb8
      obtain ⟨ST, hST⟩ : ∃ ST, bytesS (opsA L G) = ST := ⟨_, rfl⟩
      rw [hST] at hbs ⊢
      have HST := Lib.hid hST
      clear hST
      have hlt8 : w8.heap.size < (w8.alloc (.cells #[.int .u64 65536, .int .i64 5, .string ST, .int .u64 (ST.size : Nat)] 108)).heap.size := by simp
      obtain ⟨W9, hW9⟩ : ∃ W9, w8.alloc (.cells #[.int .u64 65536, .int .i64 5, .string ST, .int .u64 (ST.size : Nat)] 108) = W9 := ⟨_, rfl⟩
      have o9 : W9.ownsRow w8.heap.size 108 4 (.slice (some ⟨w8.heap.size, 0, none⟩) 1 1) 1 (([⟨65536, 5, ST, (ST.size : Nat)⟩] : List Sg).flatMap Sg.cells) := by
        subst hW9
        exact ⟨by simp [Sg.cells], .inr ⟨w8.heap.size, 1, _, rfl, Nat.le_refl _, heap_alloc_new w8 _, Nat.le_refl _, by decide, by simp, rfl⟩⟩
      have b9 : Below w8.heap.size w8 W9 := by subst hW9; exact (Below.refl _ w8).alloc (Nat.le_refl _) _
      have s9 : W9.heap.size = w8.heap.size + 1 := by subst hW9; simp
      obtain ⟨W10, hW10⟩ : ∃ W10, W9.alloc (.cells #[.int .u64 65536, .slice (some ⟨w8.heap.size, 0, none⟩) 1 1] 49) = W10 := ⟨_, rfl⟩
      have o10 := Lib.hid (hW10 ▸ o9.alloc _ : W10.ownsRow w8.heap.size 108 4 (.slice (some ⟨w8.heap.size, 0, none⟩) 1 1) 1 (([⟨65536, 5, ST, (ST.size : Nat)⟩] : List Sg).flatMap Sg.cells))
      have i10 : Hid (IB W10 (w8.heap.size + 1) 65536 (.slice (some ⟨w8.heap.size, 0, none⟩) 1 1)) := by subst hW10; show IB _ _ _ _; rw [← s9]; exact IB.new W9 _ _
      have b10 : Hid (Below w8.heap.size w8 W10) := by subst hW10; exact b9.alloc b9.size _
      have s10 : W10.heap.size = w8.heap.size + 2 := by subst hW10; simp [s9]
      have w32 : IntKind.u64.wrap ((ST.size : Nat) : Int) = (ST.size : Nat) := by rw [IntKind.wrap_u64]; omega
      have HBS := Lib.hid hbs
      have HW9 := Lib.hid hW9
      have HW10 := Lib.hid hW10
      clear hW9 hW10 o9 b9 hbs
      by_cases hg0 : 0 < G.length
      · have hg0' : (0 : Int) < (G.length : Int) := by omega
        have hjn := joined_any (w := W10.drew) (HG.out.below (((HBR8.out.trans (b10.out.mono HBR8.out.size)).drew).mono hB)) (by show B ≤ W10.heap.size; omega)
        have HJN := Lib.hid hjn
        have wg : IntKind.u64.wrap ((G.length : Nat) : Int) = (G.length : Nat) := by rw [IntKind.wrap_u64]; omega
        have wg8 : IntKind.u64.wrap (8 * ((G.length : Nat) : Int)) = 8 * (G.length : Nat) := by rw [IntKind.wrap_u64]; omega
        clear hjn
        go_wp2_with fail
        rw [HW9.out, HW10.out]
        have HIe := Lib.hid (show IB W10.drew (w8.heap.size + 1) 65536 (.slice (some ⟨w8.heap.size, 0, none⟩) 1 1) from i10.out)
        have HOe := Lib.hid (show W10.drew.ownsRow w8.heap.size 108 4 (.slice (some ⟨w8.heap.size, 0, none⟩) 1 1) 1 (([⟨65536, 5, ST, (ST.size : Nat)⟩] : List Sg).flatMap Sg.cells) from o10.out)
        have HBe := Lib.hid b10.out.drew
        go_cut [104] from 104 to 117 (fun _ wx => ∃ v, Hid (wx.ownsRow w8.heap.size 108 4 v 2 (([⟨65536, 5, ST, (ST.size : Nat)⟩] : List Sg).flatMap Sg.cells ++ (⟨upI T, 6, ⟨(globL G).toArray⟩, 8 * (G.length : Int)⟩ : Sg).cells)) ∧ Hid (IB wx (w8.heap.size + 1) 65536 v) ∧ Hid (Below w8.heap.size w8 wx))
        case first =>
          refine wp_region_noPanic ?_
          refine wp_region_held_drew (S := fun _ => True) (by kernel_rfl) trivial (fun hHeld => ?_)
          refine takeH (i := 0) (d := some 104) (v := ?_) rfl (by kernel_rfl) (by kernel_rfl) (by kernel_rfl) (fun _ _ _ h => h) rfl (Or.inl ⟨by rfl, ?_⟩) trivial ?_
          rotate_left
          · intro w' hSw; go_simp; (try with_reducible rfl)
          (try simp only [Act.put, List.setIfInBounds_toArray, List.set_cons_zero, List.set_cons_succ])
          refine takeH (i := 2) (d := some 106) (v := ?_) rfl (by kernel_rfl) (by kernel_rfl) (by kernel_rfl) (fun _ _ _ h => h) rfl (Or.inl ⟨by rfl, ?_⟩) trivial ?_
          rotate_left
          · intro w' hSw; go_simp; (try with_reducible rfl)
          (try simp only [Act.put, List.setIfInBounds_toArray, List.set_cons_zero, List.set_cons_succ])
          refine takeH (i := 4) (d := some 108) (v := ?_) rfl (by kernel_rfl) (by kernel_rfl) (by kernel_rfl) (fun _ _ _ h => h) rfl (Or.inl ⟨by rfl, ?_⟩) trivial ?_
          rotate_left
          · intro w' hSw; go_simp; (try with_reducible rfl)
          (try simp only [Act.put, List.setIfInBounds_toArray, List.set_cons_zero, List.set_cons_succ])
          refine takeH (i := 6) (d := some 110) (v := ?_) rfl (by kernel_rfl) (by kernel_rfl) (by kernel_rfl) (fun _ _ _ h => h) rfl (Or.inl ⟨by rfl, ?_⟩) trivial ?_
          rotate_left
          · intro w' hSw; go_simp; (try with_reducible rfl)
          (try simp only [Act.put, List.setIfInBounds_toArray, List.set_cons_zero, List.set_cons_succ])
          refine takeH (i := 7) (d := some 111) (v := ?_) rfl (by kernel_rfl) (by kernel_rfl) (by kernel_rfl) (fun _ _ _ h => h) rfl (Or.inl ⟨by rfl, ?_⟩) trivial ?_
          rotate_left
          · intro w' hSw; go_simp; (try with_reducible rfl)
          (try simp only [Act.put, List.setIfInBounds_toArray, List.set_cons_zero, List.set_cons_succ])
          refine takeH (i := 8) (d := some 112) (v := ?_) rfl (by kernel_rfl) (by kernel_rfl) (by kernel_rfl) (fun _ _ _ h => h) rfl (Or.inl ⟨by rfl, ?_⟩) trivial ?_
          rotate_left
          · intro w' hSw; go_simp; (try with_reducible rfl)
          (try simp only [Act.put, List.setIfInBounds_toArray, List.set_cons_zero, List.set_cons_succ])
          refine takeH (i := 9) (d := some 113) (v := ?_) rfl (by kernel_rfl) (by kernel_rfl) (by kernel_rfl) (fun _ _ _ h => h) rfl (Or.inl ⟨by rfl, ?_⟩) trivial ?_
          rotate_left
          · intro w' hSw; go_simp; (try with_reducible rfl)
          (try simp only [Act.put, List.setIfInBounds_toArray, List.set_cons_zero, List.set_cons_succ])
          refine wpAnyH_ready (rs := [1, 3]) (by kernel_rfl) (by simp) ?_
          refine AllReadyH.cons rfl (fun K hK => ?_) (AllReadyH.cons rfl (fun K hK => ?_) AllReadyH.nil)
          · skip
            obtain ⟨c0, c1⟩ := HIe.out.cells
            obtain ⟨p0, p1⟩ := i10.out.cells
            obtain ⟨r0, r1⟩ := IB.cells (i10.out.alloc (.cells #[.int .u64 (upI T), .int .i64 6, .string ⟨(globL G).toArray⟩, .int .u64 (8 * (G.length : Int))] 108))
            have rl := i10.out.lt
            go_simp
            refine hK.out _ _ trivial (fun hHeld => ?_)
            clear hK K c0 c1 p0 p1 r0 r1 rl
            (try simp only [Act.put, List.setIfInBounds_toArray, List.set_cons_zero, List.set_cons_succ])
            refine wpAnyH_ready (rs := [3]) (by kernel_rfl) (by simp) ?_
            refine AllReadyH.cons rfl (fun K hK => ?_) AllReadyH.nil
            go_simp
            go_at_call 51
            with_reducible refine (up_any _ _).mono ?_
            rintro e wu ⟨rfl, rfl⟩
            go_wp2_with fail
            refine hK.out _ _ trivial (fun hHeld => ?_)
            clear hK K
            (try simp only [Act.put, List.setIfInBounds_toArray, List.set_cons_zero, List.set_cons_succ])
            refine wpAnyH_ready (rs := [5]) (by kernel_rfl) (by simp) ?_
            refine AllReadyH.cons rfl (fun K hK => ?_) AllReadyH.nil
            go_simp
            go_at_call 59
            with_reducible refine HJN.out.mono ?_
            rintro e wj ⟨rfl, hbj⟩
            have HIj := Lib.hid (HIe.out.below hbj HIe.out.lt)
            have HOj := Lib.hid (own_below HOe.out hbj)
            have HBj := Lib.hid (HBe.out.trans (hbj.mono HBe.out.size))
            clear hbj
            go_wp2_with fail
            refine hK.out _ _ trivial (fun hHeld => ?_)
            clear hK K
            (try simp only [Act.put, List.setIfInBounds_toArray, List.set_cons_zero, List.set_cons_succ])
            refine takeH (i := 10) (d := some 114) (v := ?_) rfl (by kernel_rfl) (by kernel_rfl) (by kernel_rfl) (fun _ _ _ h => h) rfl (Or.inl ⟨by rfl, ?_⟩) trivial ?_
            rotate_left
            · intro w' hSw; go_simp; (try with_reducible rfl)
            (try simp only [Act.put, List.setIfInBounds_toArray, List.set_cons_zero, List.set_cons_succ])
            refine wpAnyH_ready (rs := [11]) (by kernel_rfl) (by simp) ?_
            refine AllReadyH.cons rfl (fun K hK => ?_) AllReadyH.nil
            go_simp
            have HIa := Lib.hid (HIj.out.alloc (.cells #[.int .u64 (upI T), .int .i64 6, .string ⟨(globL G).toArray⟩, .int .u64 (8 * (G.length : Int))] 108))
            have HOa := Lib.hid (HOj.out.alloc (.cells #[.int .u64 (upI T), .int .i64 6, .string ⟨(globL G).toArray⟩, .int .u64 (8 * (G.length : Int))] 108))
            have HBa := Lib.hid (HBj.out.alloc HBj.out.size (.cells #[.int .u64 (upI T), .int .i64 6, .string ⟨(globL G).toArray⟩, .int .u64 (8 * (G.length : Int))] 108))
            refine hK.out _ _ trivial (fun hHeld => ?_)
            clear hK K
            (try simp only [Act.put, List.setIfInBounds_toArray, List.set_cons_zero, List.set_cons_succ])
            refine wpAnyH_ready (rs := [12]) (by kernel_rfl) (by simp) ?_
            refine AllReadyH.cons rfl (fun K hK => ?_) AllReadyH.nil
            rw [if_pos (by rfl)]
            refine wp_append_own_wide _ (.tmp 105) (.tmp 115) 47 rfl w8.heap.size 108 j0 _ 4 40 Tryd.underlying47 hj hy0 hy1 hy2 rfl (by omega) (.slice (some ⟨w8.heap.size, 0, none⟩) 1 1) 1 _ rfl HOa.out ⟨_, 0, none⟩ 1 1 ((⟨upI T, 6, ⟨(globL G).toArray⟩, 8 * (G.length : Int)⟩ : Sg).cells) rfl rfl (by intro j u hu; have hcn := cells_new wj (⟨upI T, 6, ⟨(globL G).toArray⟩, 8 * (G.length : Int)⟩ : Sg).cells 108 _ rfl (A := #[.int .u64 (upI T), .int .i64 6, .string ⟨(globL G).toArray⟩, .int .u64 (8 * (G.length : Int))]) rfl j u hu; (try rw [s10] at hcn); exact hcn) (Sg.one _) (by unfold maxLen; omega) (by omega) HBa.out.size ?_
            intro v7 w7 hown7 hg7 _
            obtain ⟨vA, vc, rfl, -⟩ := own_form hown7
            have HI7 := Lib.hid (show IB w7 (w8.heap.size + 1) 65536 (.slice (some ⟨w8.heap.size, 0, none⟩) 1 1) from (hg7.block _ HIa.out.lt (fun h => HIa.out.ne HOa.out h.symm)).trans HIa.out)
            have HO7 := Lib.hid hown7
            have HB7 := Lib.hid (HBa.out.grown hg7 HBa.out.size (fun k hk => (HOa.out.lt k hk).1))
            clear hown7 hg7
            refine hK.out _ _ trivial (fun hHeld => ?_)
            clear hK K
            (try simp only [Act.put, List.setIfInBounds_toArray, List.set_cons_zero, List.set_cons_succ])
            refine takeH (i := 13) (d := some 117) (v := ?_) rfl (by kernel_rfl) (by kernel_rfl) (by kernel_rfl) (fun _ _ _ h => h) rfl (Or.inl ⟨by rfl, ?_⟩) trivial ?_
            rotate_left
            · intro w' hSw; go_simp; (try with_reducible rfl)
            (try simp only [Act.put, List.setIfInBounds_toArray, List.set_cons_zero, List.set_cons_succ])
            refine wpAnyH_ready (rs := [14]) (by kernel_rfl) (by simp) ?_
            refine AllReadyH.cons rfl (fun K hK => ?_) AllReadyH.nil
            obtain ⟨c0, c1⟩ := HI7.out.cells
            obtain ⟨f0, f1⟩ := HI7.out.frz
            go_simp
            refine hK.out _ _ trivial (fun hHeld => ?_)
            clear hK K c0 c1 f0 f1
            (try simp only [Act.put, List.setIfInBounds_toArray, List.set_cons_zero, List.set_cons_succ])
            refine wpAnyH_done (by kernel_rfl) ?_ _
            refine NoPanic.normal ?_
            go_wp2_with fail
            go_meet
            exact ⟨_, Lib.hid (HI7.out.own _ 1 HO7.out), Lib.hid (HI7.out.set _), Lib.hid (HB7.out.setCell (p := ⟨w8.heap.size + 1, 1, none⟩) (Nat.le_succ _) _)⟩
          · skip
            go_simp
            go_at_call 51
            with_reducible refine (up_any _ _).mono ?_
            rintro e wu ⟨rfl, rfl⟩
            go_wp2_with fail
            refine hK.out _ _ trivial (fun hHeld => ?_)
            clear hK K
            (try simp only [Act.put, List.setIfInBounds_toArray, List.set_cons_zero, List.set_cons_succ])
            refine wpAnyH_ready (rs := [1, 5]) (by kernel_rfl) (by simp) ?_
            refine AllReadyH.cons rfl (fun K hK => ?_) (AllReadyH.cons rfl (fun K hK => ?_) AllReadyH.nil)
            · skip
              obtain ⟨c0, c1⟩ := HIe.out.cells
              obtain ⟨p0, p1⟩ := i10.out.cells
              obtain ⟨r0, r1⟩ := IB.cells (i10.out.alloc (.cells #[.int .u64 (upI T), .int .i64 6, .string ⟨(globL G).toArray⟩, .int .u64 (8 * (G.length : Int))] 108))
              have rl := i10.out.lt
              go_simp
              refine hK.out _ _ trivial (fun hHeld => ?_)
              clear hK K c0 c1 p0 p1 r0 r1 rl
              (try simp only [Act.put, List.setIfInBounds_toArray, List.set_cons_zero, List.set_cons_succ])
              refine wpAnyH_ready (rs := [5]) (by kernel_rfl) (by simp) ?_
              refine AllReadyH.cons rfl (fun K hK => ?_) AllReadyH.nil
              go_simp
              go_at_call 59
              with_reducible refine HJN.out.mono ?_
              rintro e wj ⟨rfl, hbj⟩
              have HIj := Lib.hid (HIe.out.below hbj HIe.out.lt)
              have HOj := Lib.hid (own_below HOe.out hbj)
              have HBj := Lib.hid (HBe.out.trans (hbj.mono HBe.out.size))
              clear hbj
              go_wp2_with fail
              refine hK.out _ _ trivial (fun hHeld => ?_)
              clear hK K
              (try simp only [Act.put, List.setIfInBounds_toArray, List.set_cons_zero, List.set_cons_succ])
              refine takeH (i := 10) (d := some 114) (v := ?_) rfl (by kernel_rfl) (by kernel_rfl) (by kernel_rfl) (fun _ _ _ h => h) rfl (Or.inl ⟨by rfl, ?_⟩) trivial ?_
              rotate_left
              · intro w' hSw; go_simp; (try with_reducible rfl)
              (try simp only [Act.put, List.setIfInBounds_toArray, List.set_cons_zero, List.set_cons_succ])
              refine wpAnyH_ready (rs := [11]) (by kernel_rfl) (by simp) ?_
              refine AllReadyH.cons rfl (fun K hK => ?_) AllReadyH.nil
              go_simp
              have HIa := Lib.hid (HIj.out.alloc (.cells #[.int .u64 (upI T), .int .i64 6, .string ⟨(globL G).toArray⟩, .int .u64 (8 * (G.length : Int))] 108))
              have HOa := Lib.hid (HOj.out.alloc (.cells #[.int .u64 (upI T), .int .i64 6, .string ⟨(globL G).toArray⟩, .int .u64 (8 * (G.length : Int))] 108))
              have HBa := Lib.hid (HBj.out.alloc HBj.out.size (.cells #[.int .u64 (upI T), .int .i64 6, .string ⟨(globL G).toArray⟩, .int .u64 (8 * (G.length : Int))] 108))
              refine hK.out _ _ trivial (fun hHeld => ?_)
              clear hK K
              (try simp only [Act.put, List.setIfInBounds_toArray, List.set_cons_zero, List.set_cons_succ])
              refine wpAnyH_ready (rs := [12]) (by kernel_rfl) (by simp) ?_
              refine AllReadyH.cons rfl (fun K hK => ?_) AllReadyH.nil
              rw [if_pos (by rfl)]
              refine wp_append_own_wide _ (.tmp 105) (.tmp 115) 47 rfl w8.heap.size 108 j0 _ 4 40 Tryd.underlying47 hj hy0 hy1 hy2 rfl (by omega) (.slice (some ⟨w8.heap.size, 0, none⟩) 1 1) 1 _ rfl HOa.out ⟨_, 0, none⟩ 1 1 ((⟨upI T, 6, ⟨(globL G).toArray⟩, 8 * (G.length : Int)⟩ : Sg).cells) rfl rfl (by intro j u hu; have hcn := cells_new wj (⟨upI T, 6, ⟨(globL G).toArray⟩, 8 * (G.length : Int)⟩ : Sg).cells 108 _ rfl (A := #[.int .u64 (upI T), .int .i64 6, .string ⟨(globL G).toArray⟩, .int .u64 (8 * (G.length : Int))]) rfl j u hu; (try rw [s10] at hcn); exact hcn) (Sg.one _) (by unfold maxLen; omega) (by omega) HBa.out.size ?_
              intro v7 w7 hown7 hg7 _
              obtain ⟨vA, vc, rfl, -⟩ := own_form hown7
              have HI7 := Lib.hid (show IB w7 (w8.heap.size + 1) 65536 (.slice (some ⟨w8.heap.size, 0, none⟩) 1 1) from (hg7.block _ HIa.out.lt (fun h => HIa.out.ne HOa.out h.symm)).trans HIa.out)
              have HO7 := Lib.hid hown7
              have HB7 := Lib.hid (HBa.out.grown hg7 HBa.out.size (fun k hk => (HOa.out.lt k hk).1))
              clear hown7 hg7
              refine hK.out _ _ trivial (fun hHeld => ?_)
              clear hK K
              (try simp only [Act.put, List.setIfInBounds_toArray, List.set_cons_zero, List.set_cons_succ])
              refine takeH (i := 13) (d := some 117) (v := ?_) rfl (by kernel_rfl) (by kernel_rfl) (by kernel_rfl) (fun _ _ _ h => h) rfl (Or.inl ⟨by rfl, ?_⟩) trivial ?_
              rotate_left
              · intro w' hSw; go_simp; (try with_reducible rfl)
              (try simp only [Act.put, List.setIfInBounds_toArray, List.set_cons_zero, List.set_cons_succ])
              refine wpAnyH_ready (rs := [14]) (by kernel_rfl) (by simp) ?_
              refine AllReadyH.cons rfl (fun K hK => ?_) AllReadyH.nil
              obtain ⟨c0, c1⟩ := HI7.out.cells
              obtain ⟨f0, f1⟩ := HI7.out.frz
              go_simp
              refine hK.out _ _ trivial (fun hHeld => ?_)
              clear hK K c0 c1 f0 f1
              (try simp only [Act.put, List.setIfInBounds_toArray, List.set_cons_zero, List.set_cons_succ])
              refine wpAnyH_done (by kernel_rfl) ?_ _
              refine NoPanic.normal ?_
              go_wp2_with fail
              go_meet
              exact ⟨_, Lib.hid (HI7.out.own _ 1 HO7.out), Lib.hid (HI7.out.set _), Lib.hid (HB7.out.setCell (p := ⟨w8.heap.size + 1, 1, none⟩) (Nat.le_succ _) _)⟩
            · skip
              go_simp
              go_at_call 59
              with_reducible refine HJN.out.mono ?_
              rintro e wj ⟨rfl, hbj⟩
              have HIj := Lib.hid (HIe.out.below hbj HIe.out.lt)
              have HOj := Lib.hid (own_below HOe.out hbj)
              have HBj := Lib.hid (HBe.out.trans (hbj.mono HBe.out.size))
              clear hbj
              go_wp2_with fail
              refine hK.out _ _ trivial (fun hHeld => ?_)
              clear hK K
              (try simp only [Act.put, List.setIfInBounds_toArray, List.set_cons_zero, List.set_cons_succ])
              refine takeH (i := 10) (d := some 114) (v := ?_) rfl (by kernel_rfl) (by kernel_rfl) (by kernel_rfl) (fun _ _ _ h => h) rfl (Or.inl ⟨by rfl, ?_⟩) trivial ?_
              rotate_left
              · intro w' hSw; go_simp; (try with_reducible rfl)
              (try simp only [Act.put, List.setIfInBounds_toArray, List.set_cons_zero, List.set_cons_succ])
              refine wpAnyH_ready (rs := [1, 11]) (by kernel_rfl) (by simp) ?_
              refine AllReadyH.cons rfl (fun K hK => ?_) (AllReadyH.cons rfl (fun K hK => ?_) AllReadyH.nil)
              · skip
                obtain ⟨c0, c1⟩ := HIj.out.cells
                obtain ⟨p0, p1⟩ := HIj.out.cells
                obtain ⟨r0, r1⟩ := IB.cells (HIj.out.alloc (.cells #[.int .u64 (upI T), .int .i64 6, .string ⟨(globL G).toArray⟩, .int .u64 (8 * (G.length : Int))] 108))
                have rl := HIj.out.lt
                go_simp
                refine hK.out _ _ trivial (fun hHeld => ?_)
                clear hK K c0 c1 p0 p1 r0 r1 rl
                (try simp only [Act.put, List.setIfInBounds_toArray, List.set_cons_zero, List.set_cons_succ])
                refine wpAnyH_ready (rs := [11]) (by kernel_rfl) (by simp) ?_
                refine AllReadyH.cons rfl (fun K hK => ?_) AllReadyH.nil
                go_simp
                have HIa := Lib.hid (HIj.out.alloc (.cells #[.int .u64 (upI T), .int .i64 6, .string ⟨(globL G).toArray⟩, .int .u64 (8 * (G.length : Int))] 108))
                have HOa := Lib.hid (HOj.out.alloc (.cells #[.int .u64 (upI T), .int .i64 6, .string ⟨(globL G).toArray⟩, .int .u64 (8 * (G.length : Int))] 108))
                have HBa := Lib.hid (HBj.out.alloc HBj.out.size (.cells #[.int .u64 (upI T), .int .i64 6, .string ⟨(globL G).toArray⟩, .int .u64 (8 * (G.length : Int))] 108))
                refine hK.out _ _ trivial (fun hHeld => ?_)
                clear hK K
                (try simp only [Act.put, List.setIfInBounds_toArray, List.set_cons_zero, List.set_cons_succ])
                refine wpAnyH_ready (rs := [12]) (by kernel_rfl) (by simp) ?_
                refine AllReadyH.cons rfl (fun K hK => ?_) AllReadyH.nil
                rw [if_pos (by rfl)]
                refine wp_append_own_wide _ (.tmp 105) (.tmp 115) 47 rfl w8.heap.size 108 j0 _ 4 40 Tryd.underlying47 hj hy0 hy1 hy2 rfl (by omega) (.slice (some ⟨w8.heap.size, 0, none⟩) 1 1) 1 _ rfl HOa.out ⟨_, 0, none⟩ 1 1 ((⟨upI T, 6, ⟨(globL G).toArray⟩, 8 * (G.length : Int)⟩ : Sg).cells) rfl rfl (by intro j u hu; have hcn := cells_new wj (⟨upI T, 6, ⟨(globL G).toArray⟩, 8 * (G.length : Int)⟩ : Sg).cells 108 _ rfl (A := #[.int .u64 (upI T), .int .i64 6, .string ⟨(globL G).toArray⟩, .int .u64 (8 * (G.length : Int))]) rfl j u hu; (try rw [s10] at hcn); exact hcn) (Sg.one _) (by unfold maxLen; omega) (by omega) HBa.out.size ?_
                intro v7 w7 hown7 hg7 _
                obtain ⟨vA, vc, rfl, -⟩ := own_form hown7
                have HI7 := Lib.hid (show IB w7 (w8.heap.size + 1) 65536 (.slice (some ⟨w8.heap.size, 0, none⟩) 1 1) from (hg7.block _ HIa.out.lt (fun h => HIa.out.ne HOa.out h.symm)).trans HIa.out)
                have HO7 := Lib.hid hown7
                have HB7 := Lib.hid (HBa.out.grown hg7 HBa.out.size (fun k hk => (HOa.out.lt k hk).1))
                clear hown7 hg7
                refine hK.out _ _ trivial (fun hHeld => ?_)
                clear hK K
                (try simp only [Act.put, List.setIfInBounds_toArray, List.set_cons_zero, List.set_cons_succ])
                refine takeH (i := 13) (d := some 117) (v := ?_) rfl (by kernel_rfl) (by kernel_rfl) (by kernel_rfl) (fun _ _ _ h => h) rfl (Or.inl ⟨by rfl, ?_⟩) trivial ?_
                rotate_left
                · intro w' hSw; go_simp; (try with_reducible rfl)
                (try simp only [Act.put, List.setIfInBounds_toArray, List.set_cons_zero, List.set_cons_succ])
                refine wpAnyH_ready (rs := [14]) (by kernel_rfl) (by simp) ?_
                refine AllReadyH.cons rfl (fun K hK => ?_) AllReadyH.nil
                obtain ⟨c0, c1⟩ := HI7.out.cells
                obtain ⟨f0, f1⟩ := HI7.out.frz
                go_simp
                refine hK.out _ _ trivial (fun hHeld => ?_)
                clear hK K c0 c1 f0 f1
                (try simp only [Act.put, List.setIfInBounds_toArray, List.set_cons_zero, List.set_cons_succ])
                refine wpAnyH_done (by kernel_rfl) ?_ _
                refine NoPanic.normal ?_
                go_wp2_with fail
                go_meet
                exact ⟨_, Lib.hid (HI7.out.own _ 1 HO7.out), Lib.hid (HI7.out.set _), Lib.hid (HB7.out.setCell (p := ⟨w8.heap.size + 1, 1, none⟩) (Nat.le_succ _) _)⟩
              · skip
                go_simp
                have HIa := Lib.hid (HIj.out.alloc (.cells #[.int .u64 (upI T), .int .i64 6, .string ⟨(globL G).toArray⟩, .int .u64 (8 * (G.length : Int))] 108))
                have HOa := Lib.hid (HOj.out.alloc (.cells #[.int .u64 (upI T), .int .i64 6, .string ⟨(globL G).toArray⟩, .int .u64 (8 * (G.length : Int))] 108))
                have HBa := Lib.hid (HBj.out.alloc HBj.out.size (.cells #[.int .u64 (upI T), .int .i64 6, .string ⟨(globL G).toArray⟩, .int .u64 (8 * (G.length : Int))] 108))
                refine hK.out _ _ trivial (fun hHeld => ?_)
                clear hK K
                (try simp only [Act.put, List.setIfInBounds_toArray, List.set_cons_zero, List.set_cons_succ])
                refine wpAnyH_ready (rs := [1]) (by kernel_rfl) (by simp) ?_
                refine AllReadyH.cons rfl (fun K hK => ?_) AllReadyH.nil
                obtain ⟨c0, c1⟩ := HIa.out.cells
                obtain ⟨p0, p1⟩ := HIj.out.cells
                obtain ⟨r0, r1⟩ := IB.cells (HIj.out.alloc (.cells #[.int .u64 (upI T), .int .i64 6, .string ⟨(globL G).toArray⟩, .int .u64 (8 * (G.length : Int))] 108))
                have rl := HIj.out.lt
                go_simp
                refine hK.out _ _ trivial (fun hHeld => ?_)
                clear hK K c0 c1 p0 p1 r0 r1 rl
                (try simp only [Act.put, List.setIfInBounds_toArray, List.set_cons_zero, List.set_cons_succ])
                refine wpAnyH_ready (rs := [12]) (by kernel_rfl) (by simp) ?_
                refine AllReadyH.cons rfl (fun K hK => ?_) AllReadyH.nil
                rw [if_pos (by rfl)]
                refine wp_append_own_wide _ (.tmp 105) (.tmp 115) 47 rfl w8.heap.size 108 j0 _ 4 40 Tryd.underlying47 hj hy0 hy1 hy2 rfl (by omega) (.slice (some ⟨w8.heap.size, 0, none⟩) 1 1) 1 _ rfl HOa.out ⟨_, 0, none⟩ 1 1 ((⟨upI T, 6, ⟨(globL G).toArray⟩, 8 * (G.length : Int)⟩ : Sg).cells) rfl rfl (by intro j u hu; have hcn := cells_new wj (⟨upI T, 6, ⟨(globL G).toArray⟩, 8 * (G.length : Int)⟩ : Sg).cells 108 _ rfl (A := #[.int .u64 (upI T), .int .i64 6, .string ⟨(globL G).toArray⟩, .int .u64 (8 * (G.length : Int))]) rfl j u hu; (try rw [s10] at hcn); exact hcn) (Sg.one _) (by unfold maxLen; omega) (by omega) HBa.out.size ?_
                intro v7 w7 hown7 hg7 _
                obtain ⟨vA, vc, rfl, -⟩ := own_form hown7
                have HI7 := Lib.hid (show IB w7 (w8.heap.size + 1) 65536 (.slice (some ⟨w8.heap.size, 0, none⟩) 1 1) from (hg7.block _ HIa.out.lt (fun h => HIa.out.ne HOa.out h.symm)).trans HIa.out)
                have HO7 := Lib.hid hown7
                have HB7 := Lib.hid (HBa.out.grown hg7 HBa.out.size (fun k hk => (HOa.out.lt k hk).1))
                clear hown7 hg7
                refine hK.out _ _ trivial (fun hHeld => ?_)
                clear hK K
                (try simp only [Act.put, List.setIfInBounds_toArray, List.set_cons_zero, List.set_cons_succ])
                refine takeH (i := 13) (d := some 117) (v := ?_) rfl (by kernel_rfl) (by kernel_rfl) (by kernel_rfl) (fun _ _ _ h => h) rfl (Or.inl ⟨by rfl, ?_⟩) trivial ?_
                rotate_left
                · intro w' hSw; go_simp; (try with_reducible rfl)
                (try simp only [Act.put, List.setIfInBounds_toArray, List.set_cons_zero, List.set_cons_succ])
                refine wpAnyH_ready (rs := [14]) (by kernel_rfl) (by simp) ?_
                refine AllReadyH.cons rfl (fun K hK => ?_) AllReadyH.nil
                obtain ⟨c0, c1⟩ := HI7.out.cells
                obtain ⟨f0, f1⟩ := HI7.out.frz
                go_simp
                refine hK.out _ _ trivial (fun hHeld => ?_)
                clear hK K c0 c1 f0 f1
                (try simp only [Act.put, List.setIfInBounds_toArray, List.set_cons_zero, List.set_cons_succ])
                refine wpAnyH_done (by kernel_rfl) ?_ _
                refine NoPanic.normal ?_
                go_wp2_with fail
                go_meet
                exact ⟨_, Lib.hid (HI7.out.own _ 1 HO7.out), Lib.hid (HI7.out.set _), Lib.hid (HB7.out.setCell (p := ⟨w8.heap.size + 1, 1, none⟩) (Nat.le_succ _) _)⟩
        case rest =>
          obtain ⟨v, HOy, HIy, HBy⟩ := hcut
          obtain ⟨YA, yc, rfl, -⟩ := own_form HOy.out
          obtain ⟨wo, rfl⟩ : ∃ wo : World, wo = wc := ⟨_, rfl⟩
          have HOx := Lib.hid (show wo.ownsRow w8.heap.size 108 4 (.slice YA 2 yc) 2 (([⟨65536, 5, ST, (ST.size : Nat)⟩, ⟨upI T, 6, ⟨(globL G).toArray⟩, 8 * (G.length : Int)⟩] : List Sg).flatMap Sg.cells) by simpa [Sg.cells] using HOy.out)
          clear HOy
          go_wp2_with fail
          have HId := Lib.hid (show IB wo.drew (w8.heap.size + 1) 65536 (.slice YA 2 yc) from HIy.out)
          have HOd := Lib.hid (show wo.drew.ownsRow w8.heap.size 108 4 (.slice YA 2 yc) 2 (([⟨65536, 5, ST, (ST.size : Nat)⟩, ⟨upI T, 6, ⟨(globL G).toArray⟩, 8 * (G.length : Int)⟩] : List Sg).flatMap Sg.cells) from HOx.out)
          have HBd := Lib.hid HBy.out.drew
          go_cut [118] from 118 to 125 (fun _ wx => ∃ v, Hid (wx.ownsRow w8.heap.size 108 4 v 3 (([⟨65536, 5, ST, (ST.size : Nat)⟩, ⟨upI T, 6, ⟨(globL G).toArray⟩, 8 * (G.length : Int)⟩] : List Sg).flatMap Sg.cells ++ (⟨upI D, 6, ByteArray.empty, 8192⟩ : Sg).cells)) ∧ Hid (IB wx (w8.heap.size + 1) 65536 v) ∧ Hid (Below w8.heap.size w8 wx))
          case first =>
            refine wp_region_noPanic ?_
            refine wp_region_held_drew (S := fun _ => True) (by kernel_rfl) trivial (fun hHeld => ?_)
            refine takeH (i := 0) (d := some 118) (v := ?_) rfl (by kernel_rfl) (by kernel_rfl) (by kernel_rfl) (fun _ _ _ h => h) rfl (Or.inl ⟨by rfl, ?_⟩) trivial ?_
            rotate_left
            · intro w' hSw; go_simp; (try with_reducible rfl)
            (try simp only [Act.put, List.setIfInBounds_toArray, List.set_cons_zero, List.set_cons_succ])
            refine takeH (i := 2) (d := some 120) (v := ?_) rfl (by kernel_rfl) (by kernel_rfl) (by kernel_rfl) (fun _ _ _ h => h) rfl (Or.inl ⟨by rfl, ?_⟩) trivial ?_
            rotate_left
            · intro w' hSw; go_simp; (try with_reducible rfl)
            (try simp only [Act.put, List.setIfInBounds_toArray, List.set_cons_zero, List.set_cons_succ])
            refine wpAnyH_ready (rs := [1, 3]) (by kernel_rfl) (by simp) ?_
            refine AllReadyH.cons rfl (fun K hK => ?_) (AllReadyH.cons rfl (fun K hK => ?_) AllReadyH.nil)
            · skip
              obtain ⟨c0, c1⟩ := HId.out.cells
              obtain ⟨p0, p1⟩ := HIy.out.cells
              obtain ⟨r0, r1⟩ := IB.cells (HIy.out.alloc (.cells #[.int .u64 (upI D), .int .i64 6, .string ⟨#[]⟩, .int .u64 8192] 108))
              have rl := HIy.out.lt
              go_simp
              refine hK.out _ _ trivial (fun hHeld => ?_)
              clear hK K c0 c1 p0 p1 r0 r1 rl
              (try simp only [Act.put, List.setIfInBounds_toArray, List.set_cons_zero, List.set_cons_succ])
              refine wpAnyH_ready (rs := [3]) (by kernel_rfl) (by simp) ?_
              refine AllReadyH.cons rfl (fun K hK => ?_) AllReadyH.nil
              go_simp
              go_at_call 51
              with_reducible refine (up_any _ _).mono ?_
              rintro e wu ⟨rfl, rfl⟩
              go_wp2_with fail
              refine hK.out _ _ trivial (fun hHeld => ?_)
              clear hK K
              (try simp only [Act.put, List.setIfInBounds_toArray, List.set_cons_zero, List.set_cons_succ])
              refine takeH (i := 4) (d := some 122) (v := ?_) rfl (by kernel_rfl) (by kernel_rfl) (by kernel_rfl) (fun _ _ _ h => h) rfl (Or.inl ⟨by rfl, ?_⟩) trivial ?_
              rotate_left
              · intro w' hSw; go_simp; (try with_reducible rfl)
              (try simp only [Act.put, List.setIfInBounds_toArray, List.set_cons_zero, List.set_cons_succ])
              refine wpAnyH_ready (rs := [5]) (by kernel_rfl) (by simp) ?_
              refine AllReadyH.cons rfl (fun K hK => ?_) AllReadyH.nil
              go_simp
              have HIa := Lib.hid (HId.out.alloc (.cells #[.int .u64 (upI D), .int .i64 6, .string ⟨#[]⟩, .int .u64 8192] 108))
              have HOa := Lib.hid (HOd.out.alloc (.cells #[.int .u64 (upI D), .int .i64 6, .string ⟨#[]⟩, .int .u64 8192] 108))
              have HBa := Lib.hid (HBd.out.alloc HBd.out.size (.cells #[.int .u64 (upI D), .int .i64 6, .string ⟨#[]⟩, .int .u64 8192] 108))
              refine hK.out _ _ trivial (fun hHeld => ?_)
              clear hK K
              (try simp only [Act.put, List.setIfInBounds_toArray, List.set_cons_zero, List.set_cons_succ])
              refine wpAnyH_ready (rs := [6]) (by kernel_rfl) (by simp) ?_
              refine AllReadyH.cons rfl (fun K hK => ?_) AllReadyH.nil
              rw [if_pos (by rfl)]
              refine wp_append_own_wide _ (.tmp 119) (.tmp 123) 47 rfl w8.heap.size 108 j0 _ 4 40 Tryd.underlying47 hj hy0 hy1 hy2 rfl (by omega) (.slice YA 2 yc) 2 _ rfl HOa.out ⟨_, 0, none⟩ 1 1 ((⟨upI D, 6, ByteArray.empty, 8192⟩ : Sg).cells) rfl rfl (by intro j u hu; have hcn := cells_new wo (⟨upI D, 6, ByteArray.empty, 8192⟩ : Sg).cells 108 _ rfl (A := #[.int .u64 (upI D), .int .i64 6, .string ⟨#[]⟩, .int .u64 8192]) rfl j u hu; (try rw [s10] at hcn); exact hcn) (Sg.one _) (by unfold maxLen; omega) (by omega) HBa.out.size ?_
              intro v7 w7 hown7 hg7 _
              obtain ⟨vA, vc, rfl, -⟩ := own_form hown7
              have HI7 := Lib.hid (show IB w7 (w8.heap.size + 1) 65536 (.slice YA 2 yc) from (hg7.block _ HIa.out.lt (fun h => HIa.out.ne HOa.out h.symm)).trans HIa.out)
              have HO7 := Lib.hid hown7
              have HB7 := Lib.hid (HBa.out.grown hg7 HBa.out.size (fun k hk => (HOa.out.lt k hk).1))
              clear hown7 hg7
              refine hK.out _ _ trivial (fun hHeld => ?_)
              clear hK K
              (try simp only [Act.put, List.setIfInBounds_toArray, List.set_cons_zero, List.set_cons_succ])
              refine takeH (i := 7) (d := some 125) (v := ?_) rfl (by kernel_rfl) (by kernel_rfl) (by kernel_rfl) (fun _ _ _ h => h) rfl (Or.inl ⟨by rfl, ?_⟩) trivial ?_
              rotate_left
              · intro w' hSw; go_simp; (try with_reducible rfl)
              (try simp only [Act.put, List.setIfInBounds_toArray, List.set_cons_zero, List.set_cons_succ])
              refine wpAnyH_ready (rs := [8]) (by kernel_rfl) (by simp) ?_
              refine AllReadyH.cons rfl (fun K hK => ?_) AllReadyH.nil
              obtain ⟨c0, c1⟩ := HI7.out.cells
              obtain ⟨f0, f1⟩ := HI7.out.frz
              go_simp
              refine hK.out _ _ trivial (fun hHeld => ?_)
              clear hK K c0 c1 f0 f1
              (try simp only [Act.put, List.setIfInBounds_toArray, List.set_cons_zero, List.set_cons_succ])
              refine wpAnyH_done (by kernel_rfl) ?_ _
              refine NoPanic.normal ?_
              go_wp2_with fail
              go_meet
              exact ⟨_, Lib.hid (HI7.out.own _ 1 HO7.out), Lib.hid (HI7.out.set _), Lib.hid (HB7.out.setCell (p := ⟨w8.heap.size + 1, 1, none⟩) (Nat.le_succ _) _)⟩
            · skip
              go_simp
              go_at_call 51
              with_reducible refine (up_any _ _).mono ?_
              rintro e wu ⟨rfl, rfl⟩
              go_wp2_with fail
              refine hK.out _ _ trivial (fun hHeld => ?_)
              clear hK K
              (try simp only [Act.put, List.setIfInBounds_toArray, List.set_cons_zero, List.set_cons_succ])
              refine takeH (i := 4) (d := some 122) (v := ?_) rfl (by kernel_rfl) (by kernel_rfl) (by kernel_rfl) (fun _ _ _ h => h) rfl (Or.inl ⟨by rfl, ?_⟩) trivial ?_
              rotate_left
              · intro w' hSw; go_simp; (try with_reducible rfl)
              (try simp only [Act.put, List.setIfInBounds_toArray, List.set_cons_zero, List.set_cons_succ])
              refine wpAnyH_ready (rs := [1, 5]) (by kernel_rfl) (by simp) ?_
              refine AllReadyH.cons rfl (fun K hK => ?_) (AllReadyH.cons rfl (fun K hK => ?_) AllReadyH.nil)
              · skip
                obtain ⟨c0, c1⟩ := HId.out.cells
                obtain ⟨p0, p1⟩ := HIy.out.cells
                obtain ⟨r0, r1⟩ := IB.cells (HIy.out.alloc (.cells #[.int .u64 (upI D), .int .i64 6, .string ⟨#[]⟩, .int .u64 8192] 108))
                have rl := HIy.out.lt
                go_simp
                refine hK.out _ _ trivial (fun hHeld => ?_)
                clear hK K c0 c1 p0 p1 r0 r1 rl
                (try simp only [Act.put, List.setIfInBounds_toArray, List.set_cons_zero, List.set_cons_succ])
                refine wpAnyH_ready (rs := [5]) (by kernel_rfl) (by simp) ?_
                refine AllReadyH.cons rfl (fun K hK => ?_) AllReadyH.nil
                go_simp
                have HIa := Lib.hid (HId.out.alloc (.cells #[.int .u64 (upI D), .int .i64 6, .string ⟨#[]⟩, .int .u64 8192] 108))
                have HOa := Lib.hid (HOd.out.alloc (.cells #[.int .u64 (upI D), .int .i64 6, .string ⟨#[]⟩, .int .u64 8192] 108))
                have HBa := Lib.hid (HBd.out.alloc HBd.out.size (.cells #[.int .u64 (upI D), .int .i64 6, .string ⟨#[]⟩, .int .u64 8192] 108))
                refine hK.out _ _ trivial (fun hHeld => ?_)
                clear hK K
                (try simp only [Act.put, List.setIfInBounds_toArray, List.set_cons_zero, List.set_cons_succ])
                refine wpAnyH_ready (rs := [6]) (by kernel_rfl) (by simp) ?_
                refine AllReadyH.cons rfl (fun K hK => ?_) AllReadyH.nil
                rw [if_pos (by rfl)]
                refine wp_append_own_wide _ (.tmp 119) (.tmp 123) 47 rfl w8.heap.size 108 j0 _ 4 40 Tryd.underlying47 hj hy0 hy1 hy2 rfl (by omega) (.slice YA 2 yc) 2 _ rfl HOa.out ⟨_, 0, none⟩ 1 1 ((⟨upI D, 6, ByteArray.empty, 8192⟩ : Sg).cells) rfl rfl (by intro j u hu; have hcn := cells_new wo (⟨upI D, 6, ByteArray.empty, 8192⟩ : Sg).cells 108 _ rfl (A := #[.int .u64 (upI D), .int .i64 6, .string ⟨#[]⟩, .int .u64 8192]) rfl j u hu; (try rw [s10] at hcn); exact hcn) (Sg.one _) (by unfold maxLen; omega) (by omega) HBa.out.size ?_
                intro v7 w7 hown7 hg7 _
                obtain ⟨vA, vc, rfl, -⟩ := own_form hown7
                have HI7 := Lib.hid (show IB w7 (w8.heap.size + 1) 65536 (.slice YA 2 yc) from (hg7.block _ HIa.out.lt (fun h => HIa.out.ne HOa.out h.symm)).trans HIa.out)
                have HO7 := Lib.hid hown7
                have HB7 := Lib.hid (HBa.out.grown hg7 HBa.out.size (fun k hk => (HOa.out.lt k hk).1))
                clear hown7 hg7
                refine hK.out _ _ trivial (fun hHeld => ?_)
                clear hK K
                (try simp only [Act.put, List.setIfInBounds_toArray, List.set_cons_zero, List.set_cons_succ])
                refine takeH (i := 7) (d := some 125) (v := ?_) rfl (by kernel_rfl) (by kernel_rfl) (by kernel_rfl) (fun _ _ _ h => h) rfl (Or.inl ⟨by rfl, ?_⟩) trivial ?_
                rotate_left
                · intro w' hSw; go_simp; (try with_reducible rfl)
                (try simp only [Act.put, List.setIfInBounds_toArray, List.set_cons_zero, List.set_cons_succ])
                refine wpAnyH_ready (rs := [8]) (by kernel_rfl) (by simp) ?_
                refine AllReadyH.cons rfl (fun K hK => ?_) AllReadyH.nil
                obtain ⟨c0, c1⟩ := HI7.out.cells
                obtain ⟨f0, f1⟩ := HI7.out.frz
                go_simp
                refine hK.out _ _ trivial (fun hHeld => ?_)
                clear hK K c0 c1 f0 f1
                (try simp only [Act.put, List.setIfInBounds_toArray, List.set_cons_zero, List.set_cons_succ])
                refine wpAnyH_done (by kernel_rfl) ?_ _
                refine NoPanic.normal ?_
                go_wp2_with fail
                go_meet
                exact ⟨_, Lib.hid (HI7.out.own _ 1 HO7.out), Lib.hid (HI7.out.set _), Lib.hid (HB7.out.setCell (p := ⟨w8.heap.size + 1, 1, none⟩) (Nat.le_succ _) _)⟩
              · skip
                go_simp
                have HIa := Lib.hid (HId.out.alloc (.cells #[.int .u64 (upI D), .int .i64 6, .string ⟨#[]⟩, .int .u64 8192] 108))
                have HOa := Lib.hid (HOd.out.alloc (.cells #[.int .u64 (upI D), .int .i64 6, .string ⟨#[]⟩, .int .u64 8192] 108))
                have HBa := Lib.hid (HBd.out.alloc HBd.out.size (.cells #[.int .u64 (upI D), .int .i64 6, .string ⟨#[]⟩, .int .u64 8192] 108))
                refine hK.out _ _ trivial (fun hHeld => ?_)
                clear hK K
                (try simp only [Act.put, List.setIfInBounds_toArray, List.set_cons_zero, List.set_cons_succ])
                refine wpAnyH_ready (rs := [1]) (by kernel_rfl) (by simp) ?_
                refine AllReadyH.cons rfl (fun K hK => ?_) AllReadyH.nil
                obtain ⟨c0, c1⟩ := HIa.out.cells
                obtain ⟨p0, p1⟩ := HIy.out.cells
                obtain ⟨r0, r1⟩ := IB.cells (HIy.out.alloc (.cells #[.int .u64 (upI D), .int .i64 6, .string ⟨#[]⟩, .int .u64 8192] 108))
                have rl := HIy.out.lt
                go_simp
                refine hK.out _ _ trivial (fun hHeld => ?_)
                clear hK K c0 c1 p0 p1 r0 r1 rl
                (try simp only [Act.put, List.setIfInBounds_toArray, List.set_cons_zero, List.set_cons_succ])
                refine wpAnyH_ready (rs := [6]) (by kernel_rfl) (by simp) ?_
                refine AllReadyH.cons rfl (fun K hK => ?_) AllReadyH.nil
                rw [if_pos (by rfl)]
                refine wp_append_own_wide _ (.tmp 119) (.tmp 123) 47 rfl w8.heap.size 108 j0 _ 4 40 Tryd.underlying47 hj hy0 hy1 hy2 rfl (by omega) (.slice YA 2 yc) 2 _ rfl HOa.out ⟨_, 0, none⟩ 1 1 ((⟨upI D, 6, ByteArray.empty, 8192⟩ : Sg).cells) rfl rfl (by intro j u hu; have hcn := cells_new wo (⟨upI D, 6, ByteArray.empty, 8192⟩ : Sg).cells 108 _ rfl (A := #[.int .u64 (upI D), .int .i64 6, .string ⟨#[]⟩, .int .u64 8192]) rfl j u hu; (try rw [s10] at hcn); exact hcn) (Sg.one _) (by unfold maxLen; omega) (by omega) HBa.out.size ?_
                intro v7 w7 hown7 hg7 _
                obtain ⟨vA, vc, rfl, -⟩ := own_form hown7
                have HI7 := Lib.hid (show IB w7 (w8.heap.size + 1) 65536 (.slice YA 2 yc) from (hg7.block _ HIa.out.lt (fun h => HIa.out.ne HOa.out h.symm)).trans HIa.out)
                have HO7 := Lib.hid hown7
                have HB7 := Lib.hid (HBa.out.grown hg7 HBa.out.size (fun k hk => (HOa.out.lt k hk).1))
                clear hown7 hg7
                refine hK.out _ _ trivial (fun hHeld => ?_)
                clear hK K
                (try simp only [Act.put, List.setIfInBounds_toArray, List.set_cons_zero, List.set_cons_succ])
                refine takeH (i := 7) (d := some 125) (v := ?_) rfl (by kernel_rfl) (by kernel_rfl) (by kernel_rfl) (fun _ _ _ h => h) rfl (Or.inl ⟨by rfl, ?_⟩) trivial ?_
                rotate_left
                · intro w' hSw; go_simp; (try with_reducible rfl)
                (try simp only [Act.put, List.setIfInBounds_toArray, List.set_cons_zero, List.set_cons_succ])
                refine wpAnyH_ready (rs := [8]) (by kernel_rfl) (by simp) ?_
                refine AllReadyH.cons rfl (fun K hK => ?_) AllReadyH.nil
                obtain ⟨c0, c1⟩ := HI7.out.cells
                obtain ⟨f0, f1⟩ := HI7.out.frz
                go_simp
                refine hK.out _ _ trivial (fun hHeld => ?_)
                clear hK K c0 c1 f0 f1
                (try simp only [Act.put, List.setIfInBounds_toArray, List.set_cons_zero, List.set_cons_succ])
                refine wpAnyH_done (by kernel_rfl) ?_ _
                refine NoPanic.normal ?_
                go_wp2_with fail
                go_meet
                exact ⟨_, Lib.hid (HI7.out.own _ 1 HO7.out), Lib.hid (HI7.out.set _), Lib.hid (HB7.out.setCell (p := ⟨w8.heap.size + 1, 1, none⟩) (Nat.le_succ _) _)⟩
          case rest =>
            obtain ⟨v, HOz, HIz, HBz⟩ := hcut
            obtain ⟨XA, xc, rfl, -⟩ := own_form HOz.out
            have hseg : segL L G = [⟨65536, 5, ST, (ST.size : Nat)⟩, ⟨upI T, 6, ⟨(globL G).toArray⟩, 8 * (G.length : Int)⟩] ++ [⟨upI D, 6, ByteArray.empty, 8192⟩] := by
              unfold segL segD; rw [HST.out, HTd.out, HDd.out, if_pos hg0]; rfl
            have hcl : ([⟨65536, 5, ST, (ST.size : Nat)⟩, ⟨upI T, 6, ⟨(globL G).toArray⟩, 8 * (G.length : Int)⟩] : List Sg).flatMap Sg.cells ++ (⟨upI D, 6, ByteArray.empty, 8192⟩ : Sg).cells = (segL L G).flatMap Sg.cells := by rw [hseg]; simp
            have hln : (segL L G).length = 3 := by rw [hseg]; rfl
            rw [hcl] at HOz
            have HCZ := Lib.hid hln
            have HOK := Lib.hid (segL_ok (L := L) (G := G) HSZ1.out HTX.out (by rw [HST.out]; exact HBS.out) HAL.out)
            have HSG : Hid (Sgs wc wc.heap.size XA xc (segL L G)) := by
              obtain ⟨S', c', h1, h2⟩ := Sl.of_own (cells := Sg.cells) (fun _ => rfl) HOz.out hln
              injection h1 with e1 _ e3
              subst e1 e3
              exact h2
            have hmay := imay_any 65536 (by decide) HSG.out (Nat.le_refl _) HOK.out (by omega)
            rw [hln] at hmay
            have HMY := Lib.hid hmay
            clear hseg hcl hln hmay
            obtain ⟨c0, c1⟩ := HIz.out.cells
            go_wp2_with fail
            refine HMY.out.mono ?_
            rintro e wm ⟨rfl, hbm⟩
            have HBM := Lib.hid (HBR8.out.trans ((HBz.out.trans (hbm.mono HBz.out.size)).mono HBR8.out.size))
            have HXM := Lib.hid ((HX8.out.below (HBz.out.trans (hbm.mono HBz.out.size)) (by omega)))
            have HIM := Lib.hid (HIz.out.below hbm HIz.out.lt)
            have HOM := Lib.hid (own_below HOz.out hbm)
            clear hbm c0 c1
            obtain ⟨c0, c1⟩ := HXM.out.cells
            obtain ⟨f0, f1⟩ := HXM.out.frz
            cases hmb : imayB 65536 (segL L G) with
            | false =>
              go_wp2
              have hb : Below w.heap.size w ((wm.setCell ⟨w.heap.size, 0, none⟩ (.int .u64 0)).setCell ⟨w.heap.size, 1, none⟩ (.slice none 0 0)) := (HBM.out.setCell (p := ⟨w.heap.size, 0, none⟩) (Nat.le_refl _) _).setCell (p := ⟨w.heap.size, 1, none⟩) (Nat.le_refl _) _
              refine bodyPost_ret (v := .tuple #[.agg #[.int .u64 0, .slice none 0 0], .int .i64 1]) ?_ rfl (ImgPost.bad (by decide) hb rfl)
              simp [results, Tryd.results28, go_sem, *]
            | true =>
              have HOKI := Lib.hid (show ImgOk L G from ⟨hmb, HSZ1.out, by rw [show mainS = ⟨#[109, 97, 105, 110]⟩ from rfl, HMN.out]; exact HMI.out, HALL.out, HCE.out⟩)
              clear hmb
              obtain ⟨p0, p1⟩ := HIM.out.cells
              go_wp2
              have hb : Below w.heap.size w ((wm.setCell ⟨w.heap.size, 0, none⟩ (.int .u64 65536)).setCell ⟨w.heap.size, 1, none⟩ (.slice XA 3 xc)) := (HBM.out.setCell (p := ⟨w.heap.size, 0, none⟩) (Nat.le_refl _) _).setCell (p := ⟨w.heap.size, 1, none⟩) (Nat.le_refl _) _
              have ho1 := HXM.out.own (.int .u64 65536) 0 HOM.out
              have ho2 := (HXM.out.set0 65536).own (.slice XA 3 xc) 1 ho1
              refine bodyPost_ret (v := .tuple #[.agg #[.int .u64 65536, .slice XA 3 xc], .int .i64 0]) ?_ rfl ⟨_, 0, rfl, hb, fun h => absurd rfl h, fun _ => ⟨XA, xc, by rw [HCZ.out], ?_, HOKI.out⟩⟩
              · simp [results, Tryd.results28, go_sem, *]
              · obtain ⟨S', c', h1, h2⟩ := Sl.of_own (cells := Sg.cells) (fun _ => rfl) ho2 HCZ.out
                injection h1 with e1 _ e3
                subst e1 e3
                exact h2
      · have hg0' : ¬ (0 : Int) < (G.length : Int) := by omega
        go_wp2_with fail
        rw [HW9.out, HW10.out]
        have HId := Lib.hid (show IB W10.drew (w8.heap.size + 1) 65536 (.slice (some ⟨w8.heap.size, 0, none⟩) 1 1) from i10.out)
        have HOd := Lib.hid (show W10.drew.ownsRow w8.heap.size 108 4 (.slice (some ⟨w8.heap.size, 0, none⟩) 1 1) 1 (([⟨65536, 5, ST, (ST.size : Nat)⟩] : List Sg).flatMap Sg.cells) from o10.out)
        have HBd := Lib.hid b10.out.drew
        go_cut [118] from 118 to 125 (fun _ wx => ∃ v, Hid (wx.ownsRow w8.heap.size 108 4 v 2 (([⟨65536, 5, ST, (ST.size : Nat)⟩] : List Sg).flatMap Sg.cells ++ (⟨upI D, 6, ByteArray.empty, 8192⟩ : Sg).cells)) ∧ Hid (IB wx (w8.heap.size + 1) 65536 v) ∧ Hid (Below w8.heap.size w8 wx))
        case first =>
          refine wp_region_noPanic ?_
          refine wp_region_held_drew (S := fun _ => True) (by kernel_rfl) trivial (fun hHeld => ?_)
          refine takeH (i := 0) (d := some 118) (v := ?_) rfl (by kernel_rfl) (by kernel_rfl) (by kernel_rfl) (fun _ _ _ h => h) rfl (Or.inl ⟨by rfl, ?_⟩) trivial ?_
          rotate_left
          · intro w' hSw; go_simp; (try with_reducible rfl)
          (try simp only [Act.put, List.setIfInBounds_toArray, List.set_cons_zero, List.set_cons_succ])
          refine takeH (i := 2) (d := some 120) (v := ?_) rfl (by kernel_rfl) (by kernel_rfl) (by kernel_rfl) (fun _ _ _ h => h) rfl (Or.inl ⟨by rfl, ?_⟩) trivial ?_
          rotate_left
          · intro w' hSw; go_simp; (try with_reducible rfl)
          (try simp only [Act.put, List.setIfInBounds_toArray, List.set_cons_zero, List.set_cons_succ])
          refine wpAnyH_ready (rs := [1, 3]) (by kernel_rfl) (by simp) ?_
          refine AllReadyH.cons rfl (fun K hK => ?_) (AllReadyH.cons rfl (fun K hK => ?_) AllReadyH.nil)
          · skip
            obtain ⟨c0, c1⟩ := HId.out.cells
            obtain ⟨p0, p1⟩ := i10.out.cells
            obtain ⟨r0, r1⟩ := IB.cells (i10.out.alloc (.cells #[.int .u64 (upI D), .int .i64 6, .string ⟨#[]⟩, .int .u64 8192] 108))
            have rl := i10.out.lt
            go_simp
            refine hK.out _ _ trivial (fun hHeld => ?_)
            clear hK K c0 c1 p0 p1 r0 r1 rl
            (try simp only [Act.put, List.setIfInBounds_toArray, List.set_cons_zero, List.set_cons_succ])
            refine wpAnyH_ready (rs := [3]) (by kernel_rfl) (by simp) ?_
            refine AllReadyH.cons rfl (fun K hK => ?_) AllReadyH.nil
            go_simp
            go_at_call 51
            with_reducible refine (up_any _ _).mono ?_
            rintro e wu ⟨rfl, rfl⟩
            go_wp2_with fail
            refine hK.out _ _ trivial (fun hHeld => ?_)
            clear hK K
            (try simp only [Act.put, List.setIfInBounds_toArray, List.set_cons_zero, List.set_cons_succ])
            refine takeH (i := 4) (d := some 122) (v := ?_) rfl (by kernel_rfl) (by kernel_rfl) (by kernel_rfl) (fun _ _ _ h => h) rfl (Or.inl ⟨by rfl, ?_⟩) trivial ?_
            rotate_left
            · intro w' hSw; go_simp; (try with_reducible rfl)
            (try simp only [Act.put, List.setIfInBounds_toArray, List.set_cons_zero, List.set_cons_succ])
            refine wpAnyH_ready (rs := [5]) (by kernel_rfl) (by simp) ?_
            refine AllReadyH.cons rfl (fun K hK => ?_) AllReadyH.nil
            go_simp
            have HIa := Lib.hid (HId.out.alloc (.cells #[.int .u64 (upI D), .int .i64 6, .string ⟨#[]⟩, .int .u64 8192] 108))
            have HOa := Lib.hid (HOd.out.alloc (.cells #[.int .u64 (upI D), .int .i64 6, .string ⟨#[]⟩, .int .u64 8192] 108))
            have HBa := Lib.hid (HBd.out.alloc HBd.out.size (.cells #[.int .u64 (upI D), .int .i64 6, .string ⟨#[]⟩, .int .u64 8192] 108))
            refine hK.out _ _ trivial (fun hHeld => ?_)
            clear hK K
            (try simp only [Act.put, List.setIfInBounds_toArray, List.set_cons_zero, List.set_cons_succ])
            refine wpAnyH_ready (rs := [6]) (by kernel_rfl) (by simp) ?_
            refine AllReadyH.cons rfl (fun K hK => ?_) AllReadyH.nil
            rw [if_pos (by rfl)]
            refine wp_append_own_wide _ (.tmp 119) (.tmp 123) 47 rfl w8.heap.size 108 j0 _ 4 40 Tryd.underlying47 hj hy0 hy1 hy2 rfl (by omega) (.slice (some ⟨w8.heap.size, 0, none⟩) 1 1) 1 _ rfl HOa.out ⟨_, 0, none⟩ 1 1 ((⟨upI D, 6, ByteArray.empty, 8192⟩ : Sg).cells) rfl rfl (by intro j u hu; have hcn := cells_new W10 (⟨upI D, 6, ByteArray.empty, 8192⟩ : Sg).cells 108 _ rfl (A := #[.int .u64 (upI D), .int .i64 6, .string ⟨#[]⟩, .int .u64 8192]) rfl j u hu; (try rw [s10] at hcn); exact hcn) (Sg.one _) (by unfold maxLen; omega) (by omega) HBa.out.size ?_
            intro v7 w7 hown7 hg7 _
            obtain ⟨vA, vc, rfl, -⟩ := own_form hown7
            have HI7 := Lib.hid (show IB w7 (w8.heap.size + 1) 65536 (.slice (some ⟨w8.heap.size, 0, none⟩) 1 1) from (hg7.block _ HIa.out.lt (fun h => HIa.out.ne HOa.out h.symm)).trans HIa.out)
            have HO7 := Lib.hid hown7
            have HB7 := Lib.hid (HBa.out.grown hg7 HBa.out.size (fun k hk => (HOa.out.lt k hk).1))
            clear hown7 hg7
            refine hK.out _ _ trivial (fun hHeld => ?_)
            clear hK K
            (try simp only [Act.put, List.setIfInBounds_toArray, List.set_cons_zero, List.set_cons_succ])
            refine takeH (i := 7) (d := some 125) (v := ?_) rfl (by kernel_rfl) (by kernel_rfl) (by kernel_rfl) (fun _ _ _ h => h) rfl (Or.inl ⟨by rfl, ?_⟩) trivial ?_
            rotate_left
            · intro w' hSw; go_simp; (try with_reducible rfl)
            (try simp only [Act.put, List.setIfInBounds_toArray, List.set_cons_zero, List.set_cons_succ])
            refine wpAnyH_ready (rs := [8]) (by kernel_rfl) (by simp) ?_
            refine AllReadyH.cons rfl (fun K hK => ?_) AllReadyH.nil
            obtain ⟨c0, c1⟩ := HI7.out.cells
            obtain ⟨f0, f1⟩ := HI7.out.frz
            go_simp
            refine hK.out _ _ trivial (fun hHeld => ?_)
            clear hK K c0 c1 f0 f1
            (try simp only [Act.put, List.setIfInBounds_toArray, List.set_cons_zero, List.set_cons_succ])
            refine wpAnyH_done (by kernel_rfl) ?_ _
            refine NoPanic.normal ?_
            go_wp2_with fail
            go_meet
            exact ⟨_, Lib.hid (HI7.out.own _ 1 HO7.out), Lib.hid (HI7.out.set _), Lib.hid (HB7.out.setCell (p := ⟨w8.heap.size + 1, 1, none⟩) (Nat.le_succ _) _)⟩
          · skip
            go_simp
            go_at_call 51
            with_reducible refine (up_any _ _).mono ?_
            rintro e wu ⟨rfl, rfl⟩
            go_wp2_with fail
            refine hK.out _ _ trivial (fun hHeld => ?_)
            clear hK K
            (try simp only [Act.put, List.setIfInBounds_toArray, List.set_cons_zero, List.set_cons_succ])
            refine takeH (i := 4) (d := some 122) (v := ?_) rfl (by kernel_rfl) (by kernel_rfl) (by kernel_rfl) (fun _ _ _ h => h) rfl (Or.inl ⟨by rfl, ?_⟩) trivial ?_
            rotate_left
            · intro w' hSw; go_simp; (try with_reducible rfl)
            (try simp only [Act.put, List.setIfInBounds_toArray, List.set_cons_zero, List.set_cons_succ])
            refine wpAnyH_ready (rs := [1, 5]) (by kernel_rfl) (by simp) ?_
            refine AllReadyH.cons rfl (fun K hK => ?_) (AllReadyH.cons rfl (fun K hK => ?_) AllReadyH.nil)
            · skip
              obtain ⟨c0, c1⟩ := HId.out.cells
              obtain ⟨p0, p1⟩ := i10.out.cells
              obtain ⟨r0, r1⟩ := IB.cells (i10.out.alloc (.cells #[.int .u64 (upI D), .int .i64 6, .string ⟨#[]⟩, .int .u64 8192] 108))
              have rl := i10.out.lt
              go_simp
              refine hK.out _ _ trivial (fun hHeld => ?_)
              clear hK K c0 c1 p0 p1 r0 r1 rl
              (try simp only [Act.put, List.setIfInBounds_toArray, List.set_cons_zero, List.set_cons_succ])
              refine wpAnyH_ready (rs := [5]) (by kernel_rfl) (by simp) ?_
              refine AllReadyH.cons rfl (fun K hK => ?_) AllReadyH.nil
              go_simp
              have HIa := Lib.hid (HId.out.alloc (.cells #[.int .u64 (upI D), .int .i64 6, .string ⟨#[]⟩, .int .u64 8192] 108))
              have HOa := Lib.hid (HOd.out.alloc (.cells #[.int .u64 (upI D), .int .i64 6, .string ⟨#[]⟩, .int .u64 8192] 108))
              have HBa := Lib.hid (HBd.out.alloc HBd.out.size (.cells #[.int .u64 (upI D), .int .i64 6, .string ⟨#[]⟩, .int .u64 8192] 108))
              refine hK.out _ _ trivial (fun hHeld => ?_)
              clear hK K
              (try simp only [Act.put, List.setIfInBounds_toArray, List.set_cons_zero, List.set_cons_succ])
              refine wpAnyH_ready (rs := [6]) (by kernel_rfl) (by simp) ?_
              refine AllReadyH.cons rfl (fun K hK => ?_) AllReadyH.nil
              rw [if_pos (by rfl)]
              refine wp_append_own_wide _ (.tmp 119) (.tmp 123) 47 rfl w8.heap.size 108 j0 _ 4 40 Tryd.underlying47 hj hy0 hy1 hy2 rfl (by omega) (.slice (some ⟨w8.heap.size, 0, none⟩) 1 1) 1 _ rfl HOa.out ⟨_, 0, none⟩ 1 1 ((⟨upI D, 6, ByteArray.empty, 8192⟩ : Sg).cells) rfl rfl (by intro j u hu; have hcn := cells_new W10 (⟨upI D, 6, ByteArray.empty, 8192⟩ : Sg).cells 108 _ rfl (A := #[.int .u64 (upI D), .int .i64 6, .string ⟨#[]⟩, .int .u64 8192]) rfl j u hu; (try rw [s10] at hcn); exact hcn) (Sg.one _) (by unfold maxLen; omega) (by omega) HBa.out.size ?_
              intro v7 w7 hown7 hg7 _
              obtain ⟨vA, vc, rfl, -⟩ := own_form hown7
              have HI7 := Lib.hid (show IB w7 (w8.heap.size + 1) 65536 (.slice (some ⟨w8.heap.size, 0, none⟩) 1 1) from (hg7.block _ HIa.out.lt (fun h => HIa.out.ne HOa.out h.symm)).trans HIa.out)
              have HO7 := Lib.hid hown7
              have HB7 := Lib.hid (HBa.out.grown hg7 HBa.out.size (fun k hk => (HOa.out.lt k hk).1))
              clear hown7 hg7
              refine hK.out _ _ trivial (fun hHeld => ?_)
              clear hK K
              (try simp only [Act.put, List.setIfInBounds_toArray, List.set_cons_zero, List.set_cons_succ])
              refine takeH (i := 7) (d := some 125) (v := ?_) rfl (by kernel_rfl) (by kernel_rfl) (by kernel_rfl) (fun _ _ _ h => h) rfl (Or.inl ⟨by rfl, ?_⟩) trivial ?_
              rotate_left
              · intro w' hSw; go_simp; (try with_reducible rfl)
              (try simp only [Act.put, List.setIfInBounds_toArray, List.set_cons_zero, List.set_cons_succ])
              refine wpAnyH_ready (rs := [8]) (by kernel_rfl) (by simp) ?_
              refine AllReadyH.cons rfl (fun K hK => ?_) AllReadyH.nil
              obtain ⟨c0, c1⟩ := HI7.out.cells
              obtain ⟨f0, f1⟩ := HI7.out.frz
              go_simp
              refine hK.out _ _ trivial (fun hHeld => ?_)
              clear hK K c0 c1 f0 f1
              (try simp only [Act.put, List.setIfInBounds_toArray, List.set_cons_zero, List.set_cons_succ])
              refine wpAnyH_done (by kernel_rfl) ?_ _
              refine NoPanic.normal ?_
              go_wp2_with fail
              go_meet
              exact ⟨_, Lib.hid (HI7.out.own _ 1 HO7.out), Lib.hid (HI7.out.set _), Lib.hid (HB7.out.setCell (p := ⟨w8.heap.size + 1, 1, none⟩) (Nat.le_succ _) _)⟩
            · skip
              go_simp
              have HIa := Lib.hid (HId.out.alloc (.cells #[.int .u64 (upI D), .int .i64 6, .string ⟨#[]⟩, .int .u64 8192] 108))
              have HOa := Lib.hid (HOd.out.alloc (.cells #[.int .u64 (upI D), .int .i64 6, .string ⟨#[]⟩, .int .u64 8192] 108))
              have HBa := Lib.hid (HBd.out.alloc HBd.out.size (.cells #[.int .u64 (upI D), .int .i64 6, .string ⟨#[]⟩, .int .u64 8192] 108))
              refine hK.out _ _ trivial (fun hHeld => ?_)
              clear hK K
              (try simp only [Act.put, List.setIfInBounds_toArray, List.set_cons_zero, List.set_cons_succ])
              refine wpAnyH_ready (rs := [1]) (by kernel_rfl) (by simp) ?_
              refine AllReadyH.cons rfl (fun K hK => ?_) AllReadyH.nil
              obtain ⟨c0, c1⟩ := HIa.out.cells
              obtain ⟨p0, p1⟩ := i10.out.cells
              obtain ⟨r0, r1⟩ := IB.cells (i10.out.alloc (.cells #[.int .u64 (upI D), .int .i64 6, .string ⟨#[]⟩, .int .u64 8192] 108))
              have rl := i10.out.lt
              go_simp
              refine hK.out _ _ trivial (fun hHeld => ?_)
              clear hK K c0 c1 p0 p1 r0 r1 rl
              (try simp only [Act.put, List.setIfInBounds_toArray, List.set_cons_zero, List.set_cons_succ])
              refine wpAnyH_ready (rs := [6]) (by kernel_rfl) (by simp) ?_
              refine AllReadyH.cons rfl (fun K hK => ?_) AllReadyH.nil
              rw [if_pos (by rfl)]
              refine wp_append_own_wide _ (.tmp 119) (.tmp 123) 47 rfl w8.heap.size 108 j0 _ 4 40 Tryd.underlying47 hj hy0 hy1 hy2 rfl (by omega) (.slice (some ⟨w8.heap.size, 0, none⟩) 1 1) 1 _ rfl HOa.out ⟨_, 0, none⟩ 1 1 ((⟨upI D, 6, ByteArray.empty, 8192⟩ : Sg).cells) rfl rfl (by intro j u hu; have hcn := cells_new W10 (⟨upI D, 6, ByteArray.empty, 8192⟩ : Sg).cells 108 _ rfl (A := #[.int .u64 (upI D), .int .i64 6, .string ⟨#[]⟩, .int .u64 8192]) rfl j u hu; (try rw [s10] at hcn); exact hcn) (Sg.one _) (by unfold maxLen; omega) (by omega) HBa.out.size ?_
              intro v7 w7 hown7 hg7 _
              obtain ⟨vA, vc, rfl, -⟩ := own_form hown7
              have HI7 := Lib.hid (show IB w7 (w8.heap.size + 1) 65536 (.slice (some ⟨w8.heap.size, 0, none⟩) 1 1) from (hg7.block _ HIa.out.lt (fun h => HIa.out.ne HOa.out h.symm)).trans HIa.out)
              have HO7 := Lib.hid hown7
              have HB7 := Lib.hid (HBa.out.grown hg7 HBa.out.size (fun k hk => (HOa.out.lt k hk).1))
              clear hown7 hg7
              refine hK.out _ _ trivial (fun hHeld => ?_)
              clear hK K
              (try simp only [Act.put, List.setIfInBounds_toArray, List.set_cons_zero, List.set_cons_succ])
              refine takeH (i := 7) (d := some 125) (v := ?_) rfl (by kernel_rfl) (by kernel_rfl) (by kernel_rfl) (fun _ _ _ h => h) rfl (Or.inl ⟨by rfl, ?_⟩) trivial ?_
              rotate_left
              · intro w' hSw; go_simp; (try with_reducible rfl)
              (try simp only [Act.put, List.setIfInBounds_toArray, List.set_cons_zero, List.set_cons_succ])
              refine wpAnyH_ready (rs := [8]) (by kernel_rfl) (by simp) ?_
              refine AllReadyH.cons rfl (fun K hK => ?_) AllReadyH.nil
              obtain ⟨c0, c1⟩ := HI7.out.cells
              obtain ⟨f0, f1⟩ := HI7.out.frz
              go_simp
              refine hK.out _ _ trivial (fun hHeld => ?_)
              clear hK K c0 c1 f0 f1
              (try simp only [Act.put, List.setIfInBounds_toArray, List.set_cons_zero, List.set_cons_succ])
              refine wpAnyH_done (by kernel_rfl) ?_ _
              refine NoPanic.normal ?_
              go_wp2_with fail
              go_meet
              exact ⟨_, Lib.hid (HI7.out.own _ 1 HO7.out), Lib.hid (HI7.out.set _), Lib.hid (HB7.out.setCell (p := ⟨w8.heap.size + 1, 1, none⟩) (Nat.le_succ _) _)⟩
        case rest =>
          obtain ⟨v, HOz, HIz, HBz⟩ := hcut
          obtain ⟨XA, xc, rfl, -⟩ := own_form HOz.out
          have hseg : segL L G = [⟨65536, 5, ST, (ST.size : Nat)⟩] ++ [⟨upI D, 6, ByteArray.empty, 8192⟩] := by
            unfold segL segD; rw [HST.out, HTd.out, HDd.out, if_neg hg0]; rfl
          have hcl : ([⟨65536, 5, ST, (ST.size : Nat)⟩] : List Sg).flatMap Sg.cells ++ (⟨upI D, 6, ByteArray.empty, 8192⟩ : Sg).cells = (segL L G).flatMap Sg.cells := by rw [hseg]; simp
          have hln : (segL L G).length = 2 := by rw [hseg]; rfl
          rw [hcl] at HOz
          have HCZ := Lib.hid hln
          have HOK := Lib.hid (segL_ok (L := L) (G := G) HSZ1.out HTX.out (by rw [HST.out]; exact HBS.out) HAL.out)
          have HSG : Hid (Sgs wc wc.heap.size XA xc (segL L G)) := by
            obtain ⟨S', c', h1, h2⟩ := Sl.of_own (cells := Sg.cells) (fun _ => rfl) HOz.out hln
            injection h1 with e1 _ e3
            subst e1 e3
            exact h2
          have hmay := imay_any 65536 (by decide) HSG.out (Nat.le_refl _) HOK.out (by omega)
          rw [hln] at hmay
          have HMY := Lib.hid hmay
          clear hseg hcl hln hmay
          obtain ⟨c0, c1⟩ := HIz.out.cells
          go_wp2_with fail
          refine HMY.out.mono ?_
          rintro e wm ⟨rfl, hbm⟩
          have HBM := Lib.hid (HBR8.out.trans ((HBz.out.trans (hbm.mono HBz.out.size)).mono HBR8.out.size))
          have HXM := Lib.hid ((HX8.out.below (HBz.out.trans (hbm.mono HBz.out.size)) (by omega)))
          have HIM := Lib.hid (HIz.out.below hbm HIz.out.lt)
          have HOM := Lib.hid (own_below HOz.out hbm)
          clear hbm c0 c1
          obtain ⟨c0, c1⟩ := HXM.out.cells
          obtain ⟨f0, f1⟩ := HXM.out.frz
          cases hmb : imayB 65536 (segL L G) with
          | false =>
            go_wp2
            have hb : Below w.heap.size w ((wm.setCell ⟨w.heap.size, 0, none⟩ (.int .u64 0)).setCell ⟨w.heap.size, 1, none⟩ (.slice none 0 0)) := (HBM.out.setCell (p := ⟨w.heap.size, 0, none⟩) (Nat.le_refl _) _).setCell (p := ⟨w.heap.size, 1, none⟩) (Nat.le_refl _) _
            refine bodyPost_ret (v := .tuple #[.agg #[.int .u64 0, .slice none 0 0], .int .i64 1]) ?_ rfl (ImgPost.bad (by decide) hb rfl)
            simp [results, Tryd.results28, go_sem, *]
          | true =>
            have HOKI := Lib.hid (show ImgOk L G from ⟨hmb, HSZ1.out, by rw [show mainS = ⟨#[109, 97, 105, 110]⟩ from rfl, HMN.out]; exact HMI.out, HALL.out, HCE.out⟩)
            clear hmb
            obtain ⟨p0, p1⟩ := HIM.out.cells
            go_wp2
            have hb : Below w.heap.size w ((wm.setCell ⟨w.heap.size, 0, none⟩ (.int .u64 65536)).setCell ⟨w.heap.size, 1, none⟩ (.slice XA 2 xc)) := (HBM.out.setCell (p := ⟨w.heap.size, 0, none⟩) (Nat.le_refl _) _).setCell (p := ⟨w.heap.size, 1, none⟩) (Nat.le_refl _) _
            have ho1 := HXM.out.own (.int .u64 65536) 0 HOM.out
            have ho2 := (HXM.out.set0 65536).own (.slice XA 2 xc) 1 ho1
            refine bodyPost_ret (v := .tuple #[.agg #[.int .u64 65536, .slice XA 2 xc], .int .i64 0]) ?_ rfl ⟨_, 0, rfl, hb, fun h => absurd rfl h, fun _ => ⟨XA, xc, by rw [HCZ.out], ?_, HOKI.out⟩⟩
            · simp [results, Tryd.results28, go_sem, *]
            · obtain ⟨S', c', h1, h2⟩ := Sl.of_own (cells := Sg.cells) (fun _ => rfl) ho2 HCZ.out
              injection h1 with e1 _ e3
              subst e1 e3
              exact h2
end Go.Proofs.YtajhehmkdlebbaaDoor.Pl
