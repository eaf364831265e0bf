/- The reference's Load: the walk. -/
import Derived.Test.YtclghfekmmcfjaaElLd
import Derived.Test.YtclghfekmmcfjaaPgRMap
import Derived.OrdersHeld
namespace Go.Proofs.Ytclghfekmmcfjaa
open Go.ChangeShapes Go.WideShapes Go.ChangeAt Go.RowKit Go.Deep Go.Maps Go.WideMaps
set_option maxRecDepth 100000
attribute [-go_sem] loadVar storeVar
/-- a machine is laid into a box of one -/
theorem mach_out2 {W : World} {b : Nat} {m z : Mc} (z' : MB W b z) (hz : z.x.length = 32) (hl : m.x.length = 32) : ∃ Wc, (Go.storeVar 39 ⟨b, 0, none⟩ (.agg m.cells.toArray)).run Try.prog W = .ok () Wc ∧ (Go.loadVar 39 ⟨b, 0, none⟩).run Try.prog Wc = .ok (.agg m.cells.toArray) Wc ∧ Below b W Wc := by
  obtain ⟨Wc, h1, h2, _, h4, _⟩ := z'.lay hz m hl
  exact ⟨Wc, h1, h2.loadVar hl, h4⟩
@[go_sem] theorem lvIm (a : Addr) : Go.loadVar 25 a = (do if ← isAgg 25 then pure (.agg (← loadCells a (← sizeOf 25))) else load a) := rfl
@[go_sem] theorem lvSg (a : Addr) : Go.loadVar 29 a = (do if ← isAgg 29 then pure (.agg (← loadCells a (← sizeOf 29))) else load a) := rfl
@[go_sem] theorem lvSs (a : Addr) : Go.loadVar 23 a = (do if ← isAgg 23 then pure (.agg (← loadCells a (← sizeOf 23))) else load a) := rfl
@[go_sem] theorem svSg (a : Addr) (v : Value) : Go.storeVar 29 a v = (do
  if v.cells.size ≠ (← sizeOf 29) then stuck "storeVar: the value has not the size of the variable"
  storeCells a v.cells.toList) := rfl
/-- the machine under way -/
def mkM (e : Int) (inp : ByteArray) (A : Option Addr) (c : Nat) (l : List Pg) : Mc := ⟨List.replicate 32 0, e, A, c, l, inp, ⟨#[]⟩, 0, 0, 0⟩
theorem mkM_len (e : Int) (inp : ByteArray) (A : Option Addr) (c : Nat) (l : List Pg) : (mkM e inp A c l).x.length = 32 := rfl
structure Box4 (w : World) (b : Nat) (s : Sg) : Prop where
  c0 : w.cell? ⟨b, 0, none⟩ = some (.int .u64 s.at_)
  c1 : w.cell? ⟨b, 1, none⟩ = some (.int .i64 s.perm)
  c2 : w.cell? ⟨b, 2, none⟩ = some (.string s.data)
  c3 : w.cell? ⟨b, 3, none⟩ = some (.int .u64 s.size)
  lt : b < w.heap.size
theorem Box4.new (w : World) (s : Sg) : Box4 (w.alloc (.cells #[.int .u64 s.at_, .int .i64 s.perm, .string s.data, .int .u64 s.size] 29)) w.heap.size s := by
  have h := fun i => cell_of_row _ _ i _ _ _ (heap_alloc_new w (.cells #[.int .u64 s.at_, .int .i64 s.perm, .string s.data, .int .u64 s.size] 29))
  exact ⟨h 0, h 1, h 2, h 3, by simp⟩
theorem Box4.below {w w' : World} {b B : Nat} {s : Sg} (h : Box4 w b s) (hb : Below B w w') (hB : b < B) : Box4 w' b s :=
  ⟨(hb.cell (p := ⟨b, 0, none⟩) hB).trans h.c0, (hb.cell (p := ⟨b, 1, none⟩) hB).trans h.c1, (hb.cell (p := ⟨b, 2, none⟩) hB).trans h.c2, (hb.cell (p := ⟨b, 3, none⟩) hB).trans h.c3, Nat.lt_of_lt_of_le h.lt hb.size⟩
set_option maxHeartbeats 4000000 in
theorem irload_any {A : Option Addr} {cap : Nat} {L : List Sg} {w : World} {B : Nat} (e : Int) (inp : ByteArray) (_he : 0 ≤ e ∧ e ≤ 18446744073709551615) (hL : Sgs w B A cap L) (hB : B ≤ w.heap.size) (hwf : ∀ s ∈ L, s.ok) (hlen : L.length ≤ 140737488351232) :
    Calls Try.prog 24 #[.agg #[.int .u64 e, .slice A L.length cap], .string inp] w (LoadPost w e L inp) := by
  obtain ⟨W0, hW0⟩ : ∃ W0, w.alloc (.cells #[.int .u64 e, .slice A L.length cap] 25) = W0 := ⟨_, rfl⟩
  have k0 : Below w.heap.size w W0 := by subst hW0; exact (Below.refl _ _).alloc (Nat.le_refl _) _
  have b0 : Box2 W0 w.heap.size e (.slice A L.length cap) := by
    subst hW0
    refine ⟨?_, ?_⟩ <;> simp [go_sem]
  have z0 : W0.heap.size = w.heap.size + 1 := by subst hW0; simp
  obtain ⟨W1, h1, s1, x1, b1, o1⟩ := mach_more W0
  rw [z0] at x1
  have HB1 := Lib.hid (k0.trans (b1.mono (by omega)))
  have HX1 := Lib.hid x1
  have HI1 := Lib.hid (b0.below b1 (by omega))
  have HL1 := Lib.hid (Sl.In.below hL (HB1.out.mono hB))
  have HWF := Lib.hid hwf
  have HL := Lib.hid hL
  clear hwf k0 b0 b1 o1 x1 hL
  obtain ⟨c0, c1⟩ := HI1.out
  go_enter Try.func24, Try.ntmps24
  go_wp2_with fail
  refine (irmay_any e HL1.out (by omega) HWF.out hlen).mono ?_
  rintro r w2 ⟨rfl, hb2⟩
  have HX2 := Lib.hid (HX1.out.below hb2 (by omega))
  have HI2 := Lib.hid (HI1.out.below hb2 (by omega))
  have HB2 := Lib.hid (HB1.out.trans (hb2.mono HB1.out.size))
  have s2 := hb2.size
  clear c0 c1 hb2
  cases hm : imayB e L with
  | false =>
    have hE : imE e L = 1 := by unfold imE; rw [hm]; rfl
    have HE := Lib.hid hE
    clear hm hE
    obtain ⟨W3, h3, x3, s3, b3, _⟩ := HX2.out.lay rfl Mc.zero rfl
    have h3' : (Go.storeVar 39 ⟨w.heap.size + 1, 0, none⟩ (.agg #[.int .u64 0, .int .u64 0, .int .u64 0, .int .u64 0, .int .u64 0, .int .u64 0, .int .u64 0, .int .u64 0, .int .u64 0, .int .u64 0, .int .u64 0, .int .u64 0, .int .u64 0, .int .u64 0, .int .u64 0, .int .u64 0, .int .u64 0, .int .u64 0, .int .u64 0, .int .u64 0, .int .u64 0, .int .u64 0, .int .u64 0, .int .u64 0, .int .u64 0, .int .u64 0, .int .u64 0, .int .u64 0, .int .u64 0, .int .u64 0, .int .u64 0, .int .u64 0, .int .u64 0, .slice none 0 0, .string ⟨#[]⟩, .string ⟨#[]⟩, .int .i64 0, .int .u64 0, .int .u64 0])).run Try.prog w2 = .ok () W3 := h3
    have l3 := x3.loadVar rfl
    have HB3 := Lib.hid (HB2.out.trans (b3.mono (by omega)))
    clear h3 x3 b3
    go_wp2
    refine bodyPost_ret (v := .tuple #[.agg Mc.zero.cells.toArray, .int .i64 1]) ?_ rfl (LoadPost.bad HE.out (by decide) HB3.out rfl)
    simp [results, Try.results24, go_sem, l3]
  | true =>
    have hmp := imayB_out hm
    have hE : imE e L = ldErr L L.length := by unfold imE; rw [hm]; rfl
    have HE := Lib.hid hE
    have HMP := Lib.hid hmp
    clear hm hE hmp
    obtain ⟨W3, h3, s3, x3, b3, o3⟩ := mach_more w2
    obtain ⟨W4, h4, x4, s4, b4, o4⟩ := x3.lay rfl (mkM e inp none 0 []) rfl
    have h4' : (Go.storeVar 39 ⟨w2.heap.size, 0, none⟩ (.agg #[.int .u64 0, .int .u64 0, .int .u64 0, .int .u64 0, .int .u64 0, .int .u64 0, .int .u64 0, .int .u64 0, .int .u64 0, .int .u64 0, .int .u64 0, .int .u64 0, .int .u64 0, .int .u64 0, .int .u64 0, .int .u64 0, .int .u64 0, .int .u64 0, .int .u64 0, .int .u64 0, .int .u64 0, .int .u64 0, .int .u64 0, .int .u64 0, .int .u64 0, .int .u64 0, .int .u64 0, .int .u64 0, .int .u64 0, .int .u64 0, .int .u64 0, .int .u64 0, .int .u64 e, .slice none 0 0, .string inp, .string ⟨#[]⟩, .int .i64 0, .int .u64 0, .int .u64 0])).run Try.prog W3 = .ok () W4 := h4
    have HBA := Lib.hid (b3.trans b4)
    have HX4 := Lib.hid x4
    obtain ⟨c0, c1⟩ := HI2.out
    clear h4 x3 o3 x4 b3 b4 o4
    go_wp2_with fail
    go_loopw [8] (fun i wr => ∃ (k : Nat) (A' : Option Addr) (c' : Nat), k ≤ L.length ∧ i = .int .i64 k ∧ Hid (ldErr L k = 0) ∧ Hid (MB wr w2.heap.size (mkM e inp A' c' (ldM L k))) ∧ Hid (Below w2.heap.size w2 wr) ∧ Hid (Mem wr wr.heap.size A' c' (ldM L k)) ∧ Hid (A' = none → c' = 0)) (fun i _ => L.length - (intOf i).toNat)
    case atStart => exact ⟨0, none, 0, Nat.zero_le _, rfl, rfl, HX4, HBA, ⟨Nat.le_refl 0, fun k x hk => by simp [ldM] at hk⟩, fun _ => rfl⟩
    case round =>
      clear c0 c1
      obtain ⟨k, A', c', hk, rfl, HLE, HXM, HBR, HMR, HNL⟩ := hrel
      have hI := HI2.out.below HBR.out (by omega)
      obtain ⟨c0, c1⟩ := hI
      have hxlt := HXM.out.lt
      have HXZ := Lib.hid (HX2.out.below HBR.out (by omega))
      have HBW := Lib.hid (HB2.out.trans (HBR.out.mono HB2.out.size))
      have z1 : w.heap.size < wr.heap.size := by omega
      by_cases hlt : k < L.length
      · obtain ⟨hsat, hspm, hsdz, hssz⟩ := HWF.out _ (List.getElem_mem hlt)
        have hSA := (HMP.out.2.1 k hlt _ (List.getElem?_eq_getElem hlt)).1
        obtain ⟨-, -, -, -, hsz, -⟩ := hSA
        have hpg : 1 ≤ pagesI (L[k]).size ∧ pagesI (L[k]).size ≤ 64 := by unfold pagesI; omega
        obtain ⟨b, off, rfl, hb, d0, d1, d2, d3⟩ := Sgs.sg (Sl.In.below HL.out (HBW.out.mono hB)) hlt
        have i1 : (0 : Int) ≤ (k : Int) := by omega
        have i2 : (k : Int) < (L.length : Int) := by omega
        have hBS := HBR.out.alloc HBR.out.size (.cells #[.int .u64 (L[k]).at_, .int .i64 (L[k]).perm, .string (L[k]).data, .int .u64 (L[k]).size] 29)
        have HBD := Lib.hid hBS.drew
        have HMM := Lib.hid (show Mem (wr.alloc (.cells #[.int .u64 (L[k]).at_, .int .i64 (L[k]).perm, .string (L[k]).data, .int .u64 (L[k]).size] 29)).drew _ A' c' (ldM L k) from Mem.step HMR.out ((Below.refl _ wr).alloc (Nat.le_refl _) _).drew)
        have hS0 : MB (wr.alloc (.cells #[.int .u64 (L[k]).at_, .int .i64 (L[k]).perm, .string (L[k]).data, .int .u64 (L[k]).size] 29)).drew w2.heap.size (mkM e inp A' c' (ldM L k)) ∧ Box4 (wr.alloc (.cells #[.int .u64 (L[k]).at_, .int .i64 (L[k]).perm, .string (L[k]).data, .int .u64 (L[k]).size] 29)).drew wr.heap.size L[k] := ⟨(HXM.out.alloc _).drew 1, (Box4.new wr L[k]).below ((Below.refl (wr.heap.size + 1) _).drew) (by omega)⟩
        have HS0 := Lib.hid hS0
        have e1 : (pagesI (L[k]).size * 256).tdiv 256 = pagesI (L[k]).size := by rw [Int.tdiv_eq_ediv_of_nonneg (by omega)]; omega
        have e2 : IntKind.u64.wrap (pagesI (L[k]).size) = pagesI (L[k]).size := by rw [IntKind.wrap_u64]; omega
        have e3 : pagesI (L[k]).size * 256 / 256 = pagesI (L[k]).size := by omega
        have e4 : IntKind.i64.wrap (pagesI (L[k]).size) = pagesI (L[k]).size := IntWalk.i64_in _ (by omega)
        clear hBS hS0 hspm
        go_wp2_with fail
        refine wp_region_noPanic ?_
        refine wp_region_held_drew (S := fun w' => MB w' w2.heap.size (mkM e inp A' c' (ldM L k)) ∧ Box4 w' wr.heap.size L[k]) (by kernel_rfl) HS0.out (fun hHeld => ?_)
        refine takeH (i := 0) (d := some 36) (v := ?_) rfl (by kernel_rfl) (by kernel_rfl) (by kernel_rfl) (fun _ _ _ h => h) rfl (Or.inl ⟨by rfl, ?_⟩) hHeld ?_
        rotate_left
        · intro w' hSw; go_simp; (try with_reducible rfl)
        (try simp only [Act.put, List.setIfInBounds_toArray, List.set_cons_zero, List.set_cons_succ])
        refine takeH (i := 1) (d := some 37) (v := ?_) rfl (by kernel_rfl) (by kernel_rfl) (by kernel_rfl) (fun _ _ _ h => h) rfl (Or.inl ⟨by rfl, ?_⟩) hHeld ?_
        rotate_left
        · intro w' hSw; obtain ⟨hm, ⟨c0, c1, c2, c3, -⟩⟩ := hSw; have q : w'.cell? ⟨w2.heap.size, 33, none⟩ = some (.slice A' (ldM L k).length c') := (hm.tail (mkM_len _ _ _ _ _)).2.1; go_simp; (try with_reducible rfl)
        (try simp only [Act.put, List.setIfInBounds_toArray, List.set_cons_zero, List.set_cons_succ])
        refine takeH (i := 2) (d := some 38) (v := ?_) rfl (by kernel_rfl) (by kernel_rfl) (by kernel_rfl) (fun _ _ _ h => h) rfl (Or.inl ⟨by rfl, ?_⟩) hHeld ?_
        rotate_left
        · intro w' hSw; go_simp; (try with_reducible rfl)
        (try simp only [Act.put, List.setIfInBounds_toArray, List.set_cons_zero, List.set_cons_succ])
        refine takeH (i := 3) (d := some 39) (v := ?_) rfl (by kernel_rfl) (by kernel_rfl) (by kernel_rfl) (fun _ _ _ h => h) rfl (Or.inl ⟨by rfl, ?_⟩) hHeld ?_
        rotate_left
        · intro w' hSw; obtain ⟨hm, ⟨c0, c1, c2, c3, -⟩⟩ := hSw; have q : w'.cell? ⟨w2.heap.size, 33, none⟩ = some (.slice A' (ldM L k).length c') := (hm.tail (mkM_len _ _ _ _ _)).2.1; go_simp; (try with_reducible rfl)
        (try simp only [Act.put, List.setIfInBounds_toArray, List.set_cons_zero, List.set_cons_succ])
        refine takeH (i := 4) (d := some 40) (v := ?_) rfl (by kernel_rfl) (by kernel_rfl) (by kernel_rfl) (fun _ _ _ h => h) rfl (Or.inl ⟨by rfl, ?_⟩) hHeld ?_
        rotate_left
        · intro w' hSw; go_simp; (try with_reducible rfl)
        (try simp only [Act.put, List.setIfInBounds_toArray, List.set_cons_zero, List.set_cons_succ])
        refine takeH (i := 5) (d := some 41) (v := ?_) rfl (by kernel_rfl) (by kernel_rfl) (by kernel_rfl) (fun _ _ _ h => h) rfl (Or.inl ⟨by rfl, ?_⟩) hHeld ?_
        rotate_left
        · intro w' hSw; obtain ⟨hm, ⟨c0, c1, c2, c3, -⟩⟩ := hSw; have q : w'.cell? ⟨w2.heap.size, 33, none⟩ = some (.slice A' (ldM L k).length c') := (hm.tail (mkM_len _ _ _ _ _)).2.1; go_simp; (try with_reducible rfl)
        (try simp only [Act.put, List.setIfInBounds_toArray, List.set_cons_zero, List.set_cons_succ])
        refine takeH (i := 9) (d := some 45) (v := ?_) rfl (by kernel_rfl) (by kernel_rfl) (by kernel_rfl) (fun _ _ _ h => h) rfl (Or.inl ⟨by rfl, ?_⟩) hHeld ?_
        rotate_left
        · intro w' hSw; go_simp; (try with_reducible rfl)
        (try simp only [Act.put, List.setIfInBounds_toArray, List.set_cons_zero, List.set_cons_succ])
        refine takeH (i := 10) (d := some 46) (v := ?_) rfl (by kernel_rfl) (by kernel_rfl) (by kernel_rfl) (fun _ _ _ h => h) rfl (Or.inl ⟨by rfl, ?_⟩) hHeld ?_
        rotate_left
        · intro w' hSw; obtain ⟨hm, ⟨c0, c1, c2, c3, -⟩⟩ := hSw; have q : w'.cell? ⟨w2.heap.size, 33, none⟩ = some (.slice A' (ldM L k).length c') := (hm.tail (mkM_len _ _ _ _ _)).2.1; go_simp; (try with_reducible rfl)
        (try simp only [Act.put, List.setIfInBounds_toArray, List.set_cons_zero, List.set_cons_succ])
        refine wpAnyH_ready (rs := [6]) (by kernel_rfl) (by simp) ?_
        refine AllReadyH.cons rfl (fun K hK => ?_) AllReadyH.nil
        go_simp
        go_at_call 51
        with_reducible refine (up_any (L[k]).size _ (by omega)).mono ?_
        rintro e w4 ⟨rfl, rfl⟩
        skip
        go_wp2_with fail
        refine hK.out _ _ hHeld (fun hHeld => ?_)
        clear hK K
        (try simp only [Act.put, List.setIfInBounds_toArray, List.set_cons_zero, List.set_cons_succ])
        refine takeH (i := 7) (d := some 43) (v := .int .u64 (pagesI (L[k]).size)) rfl (by kernel_rfl) (by kernel_rfl) (by kernel_rfl) (fun _ _ _ h => h) rfl (Or.inl ⟨by rfl, ?_⟩) hHeld ?_
        · intro w' hSw; go_simp
        (try simp only [Act.put, List.setIfInBounds_toArray, List.set_cons_zero, List.set_cons_succ])
        refine takeH (i := 8) (d := some 44) (v := .int .i64 (pagesI (L[k]).size)) rfl (by kernel_rfl) (by kernel_rfl) (by kernel_rfl) (fun _ _ _ h => h) rfl (Or.inl ⟨by rfl, ?_⟩) hHeld ?_
        · intro w' hSw; go_simp
        (try simp only [Act.put, List.setIfInBounds_toArray, List.set_cons_zero, List.set_cons_succ])
        refine wpAnyH_ready (rs := [11]) (by kernel_rfl) (by simp) ?_
        refine AllReadyH.cons rfl (fun K hK => ?_) AllReadyH.nil
        go_simp
        go_at_call 32
        with_reducible refine (rmap_any (L := ldM L k) (A := A') (cap := c') (L[k]).at_ (pagesI (L[k]).size) (L[k]).perm hsat HMM.out HNL.out (Nat.le_refl _) (ldM_ok HWF.out k)).mono ?_
        rintro e w5 ⟨hb5, v, rfl, hv⟩
        obtain ⟨A5, c5, rfl, hM5, hn5⟩ := hv
        have HS5 := Lib.hid (And.intro (hHeld.1.below hb5 hHeld.1.lt) (hHeld.2.below hb5 hHeld.2.lt))
        have HB5 := Lib.hid (HBD.out.trans (hb5.mono HBD.out.size))
        have HM5 := Lib.hid hM5
        have HN5 := Lib.hid hn5
        clear hb5 hM5 hn5
        go_wp2_with fail
        refine hK.out _ _ HS5.out (fun hHeld => ?_)
        clear hK K
        (try simp only [Act.put, List.setIfInBounds_toArray, List.set_cons_zero, List.set_cons_succ])
        refine takeH (i := 12) (d := some 35) (v := ?_) rfl (by kernel_rfl) (by kernel_rfl) (by kernel_rfl) (fun _ _ _ h => h) rfl (Or.inl ⟨by rfl, ?_⟩) hHeld ?_
        rotate_left
        · intro w' hSw; go_simp; (try with_reducible rfl)
        (try simp only [Act.put, List.setIfInBounds_toArray, List.set_cons_zero, List.set_cons_succ])
        refine takeH (i := 13) (d := some 48) (v := ?_) rfl (by kernel_rfl) (by kernel_rfl) (by kernel_rfl) (fun _ _ _ h => h) rfl (Or.inl ⟨by rfl, ?_⟩) hHeld ?_
        rotate_left
        · intro w' hSw; go_simp; (try with_reducible rfl)
        (try simp only [Act.put, List.setIfInBounds_toArray, List.set_cons_zero, List.set_cons_succ])
        refine takeH (i := 14) (d := some 49) (v := ?_) rfl (by kernel_rfl) (by kernel_rfl) (by kernel_rfl) (fun _ _ _ h => h) rfl (Or.inl ⟨by rfl, ?_⟩) hHeld ?_
        rotate_left
        · intro w' hSw; go_simp; (try with_reducible rfl)
        (try simp only [Act.put, List.setIfInBounds_toArray, List.set_cons_zero, List.set_cons_succ])
        refine takeH (i := 15) (d := some 10) (v := ?_) rfl (by kernel_rfl) (by kernel_rfl) (by kernel_rfl) (fun _ _ _ h => h) rfl (Or.inl ⟨by rfl, ?_⟩) hHeld ?_
        rotate_left
        · intro w' hSw; go_simp; (try with_reducible rfl)
        (try simp only [Act.put, List.setIfInBounds_toArray, List.set_cons_zero, List.set_cons_succ])
        refine takeH (i := 16) (d := some 11) (v := ?_) rfl (by kernel_rfl) (by kernel_rfl) (by kernel_rfl) (fun _ _ _ h => h) rfl (Or.inl ⟨by rfl, ?_⟩) hHeld ?_
        rotate_left
        · intro w' hSw; go_simp; (try with_reducible rfl)
        (try simp only [Act.put, List.setIfInBounds_toArray, List.set_cons_zero, List.set_cons_succ])
        refine wpAnyH_done (by kernel_rfl) ?_ _
        refine NoPanic.normal ?_
        have s5 := HB5.out.size
        have HXZ5 := Lib.hid (HX2.out.below HB5.out (by omega))
        have HBW5 := Lib.hid (HB2.out.trans (HB5.out.mono HB2.out.size))
        rw [← ldE_at hlt]
        by_cases hE5 : ldE L k = 0
        · have e5 : (ldE L k != 0) = false := by simp [hE5]
          obtain ⟨-, hb5⟩ := HS5.out
          obtain ⟨g0, g1, g2, g3, g4⟩ := hb5
          have HM5r := Lib.hid (show RightP (mapX (ldM L k) (L[k]).at_ (pagesI (L[k]).size) (L[k]).perm) from mapX_rightP (ldM_right L k))
          have HE5 := Lib.hid hE5
          clear hE5
          obtain ⟨E5, hE5'⟩ : ∃ E5, E5 = ldE L k := ⟨_, rfl⟩
          rw [← hE5'] at e5 ⊢
          go_wp2_with fail
          refine (rfill_any (L[k]).at_ (L[k]).data hsat hsdz HM5.out HN5.out (Nat.le_refl _) (mapX_okP (ldM_ok HWF.out k) hsat.1)).mono ?_
          rintro r w6 ⟨hb6, v, rfl, A6, c6, rfl, hM6, hn6⟩
          rw [← ldM_succ hlt] at hM6 ⊢
          have HX6 := Lib.hid (HS5.out.1.below hb6 (by omega))
          have q6 := (HX6.out.tail (mkM_len _ _ _ _ _)).2.1
          have f6 := HX6.out.frz 33
          obtain ⟨w7, h7, x7, s7, b7, o7⟩ := HX6.out.step (m' := mkM e inp A6 c6 (ldM L (k + 1))) (Mc.setMem (mkM_len e inp A' c' (ldM L k)) A6 c6 (ldM L (k + 1)))
          have HXZ6 := Lib.hid (HXZ5.out.below hb6 (by omega))
          have HM7 := Lib.hid (show Mem w7 w7.heap.size A6 c6 (ldM L (k + 1)) from mem_keep2 hM6 HX6.out (mkM_len _ _ _ _ _) HXZ6.out rfl (fun j h1 _ => by rw [← h7]; exact Below.heap_setCell _ _ _ _ h1) (by omega))
          have HN7 := Lib.hid hn6
          have HX7 := Lib.hid x7
          have HB7 := Lib.hid ((HB5.out.trans (hb6.mono HB5.out.size)).trans (b7.mono (Nat.le_refl _)))
          have HLE7 := Lib.hid (ldErr_good HLE.out HE5.out)
          clear hE5' hb6 hM6 hn6 x7 b7 o7
          go_wp2
          exact ⟨⟨k + 1, A6, c6, hlt, by go_num, HLE7, HX7, HB7, HM7, HN7⟩, by simp [intOf]; omega⟩
        · have e5 : (ldE L k != 0) = true := by simpa using hE5
          have hEE : imE e L = ldE L k := HE.out.trans (ldErr_bad HLE.out hE5 hlt)
          have HEE := Lib.hid hEE
          have HE5 := Lib.hid hE5
          obtain ⟨W6, h6, x6, s6, b6, _⟩ := HXZ5.out.lay rfl Mc.zero rfl
          have h6' : (Go.storeVar 39 ⟨w.heap.size + 1, 0, none⟩ (.agg #[.int .u64 0, .int .u64 0, .int .u64 0, .int .u64 0, .int .u64 0, .int .u64 0, .int .u64 0, .int .u64 0, .int .u64 0, .int .u64 0, .int .u64 0, .int .u64 0, .int .u64 0, .int .u64 0, .int .u64 0, .int .u64 0, .int .u64 0, .int .u64 0, .int .u64 0, .int .u64 0, .int .u64 0, .int .u64 0, .int .u64 0, .int .u64 0, .int .u64 0, .int .u64 0, .int .u64 0, .int .u64 0, .int .u64 0, .int .u64 0, .int .u64 0, .int .u64 0, .int .u64 0, .slice none 0 0, .string ⟨#[]⟩, .string ⟨#[]⟩, .int .i64 0, .int .u64 0, .int .u64 0])).run Try.prog w5 = .ok () W6 := h6
          have l6 := x6.loadVar rfl
          have HB6 := Lib.hid (HBW5.out.trans (b6.mono (by omega)))
          obtain ⟨E5, hE5'⟩ : ∃ E5, E5 = ldE L k := ⟨_, rfl⟩
          rw [← hE5'] at e5 HEE HE5 ⊢
          clear h6 x6 b6 hE5 hEE hE5'
          go_wp2
          refine bodyPost_ret (v := .tuple #[.agg Mc.zero.cells.toArray, .int .i64 E5]) ?_ rfl (LoadPost.bad HEE.out HE5.out HB6.out rfl)
          simp [results, Try.results24, go_sem, l6]
      · obtain rfl : k = L.length := by omega
        have lk := HXM.out.loadVar (mkM_len _ _ _ _ _)
        obtain ⟨Wc, hc, lc, bc⟩ := mach_out2 HXZ.out rfl (mkM_len e inp A' c' (ldM L L.length))
        have hEE : imE e L = 0 := HE.out.trans HLE.out
        have HEE := Lib.hid hEE
        have HMC := Lib.hid (mem_keep2 HMR.out HXM.out (mkM_len _ _ _ _ _) HXZ.out rfl (fun j h1 h2 => HXZ.out.lay_only rfl (mkM_len _ _ _ _ _) hc j h2) bc.size)
        have HBC := Lib.hid (HBW.out.trans (bc.mono (by omega)))
        clear hEE bc
        go_wp2
        refine bodyPost_ret (v := .tuple #[.agg (mkM e inp A' c' (ldM L L.length)).cells.toArray, .int .i64 0]) ?_ rfl (LoadPost.good HEE.out HBC.out HMC.out HNL.out rfl)
        simp [results, Try.results24, go_sem, lc]
end Go.Proofs.Ytclghfekmmcfjaa
