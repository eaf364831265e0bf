/- The reference's Load: the walk. What memory with an image holds: plain law. PlaceMay: an image that comes out may be; it can be laid out, and begins where instructions are: the walk. marlineref18.Find: the walk. The first symbol of a name: plain. What memory with an image holds, where it is granted: plain law. The bytes of instructions and of globals: plain. The word that calls main: plain. A word gives its instruction back: plain. Where main and the globals are: plain. PlaceHolds: in an image each global has its number at its place; what calls main goes there: the walk. How many codes, instructions and globals arguments of a bounded bulk hold. -/
import Derived.Test.YtajhehmkdlebbaaDoorQElLd
import Derived.Test.YtajhehmkdlebbaaDoorQPgRMap
import Derived.OrdersHeld
import Derived.Test.YtajhehmkdlebbaaDoorQPgLaw
import Derived.Test.YtajhehmkdlebbaaDoorQPlImg3
import Derived.BigQuiet
import Derived.Deep.QuietTactic
import Derived.Test.YtajhehmkdlebbaaDoorPlLaws
import Derived.Test.YtajhehmkdlebbaaDoorPlTab
import Derived.Test.YtajhehmkdlebbaaDoorQPlImg2
import Derived.Test.YtajhehmkdlebbaaDoorRefTake
import Derived.Test.YtajhehmkdlebbaaDoorPlBase
namespace Go.Proofs.YtajhehmkdlebbaaDoor
open Go.ChangeShapes Go.WideShapes Go.ChangeAt Go.RowKit Go.Deep Go.Maps Go.WideMaps
set_option maxRecDepth 100000
attribute [-go_sem] loadVar storeVar
/-- a machine is laid into a box of one -/
theorem mach_out2 {W : World} {b : Nat} {m z : Mc} (z' : MB W b z) (hz : z.x.length = 32) (hl : m.x.length = 32) : ∃ Wc, (Go.storeVar 34 ⟨b, 0, none⟩ (.agg m.cells.toArray)).run Tryd.prog W = .ok () Wc ∧ (Go.loadVar 34 ⟨b, 0, none⟩).run Tryd.prog Wc = .ok (.agg m.cells.toArray) Wc ∧ Below b W Wc := by
  obtain ⟨Wc, h1, h2, _, h4, _⟩ := z'.lay hz m hl
  exact ⟨Wc, h1, h2.loadVar hl, h4⟩
@[go_sem] theorem lvIm (a : Addr) : Go.loadVar 49 a = (do if ← isAgg 49 then pure (.agg (← loadCells a (← sizeOf 49))) else load a) := rfl
@[go_sem] theorem lvSg (a : Addr) : Go.loadVar 108 a = (do if ← isAgg 108 then pure (.agg (← loadCells a (← sizeOf 108))) else load a) := rfl
@[go_sem] theorem lvSs (a : Addr) : Go.loadVar 47 a = (do if ← isAgg 47 then pure (.agg (← loadCells a (← sizeOf 47))) else load a) := rfl
@[go_sem] theorem svSg (a : Addr) (v : Value) : Go.storeVar 108 a v = (do
  if v.cells.size ≠ (← sizeOf 108) then stuck "storeVar: the value has not the size of the variable"
  storeCells a v.cells.toList) := rfl
/-- the machine under way -/
def mkM (e : Int) (inp : ByteArray) (A : Option Addr) (c : Nat) (l : List Pg) : Mc := ⟨List.replicate 32 0, e, A, c, l, inp, ⟨#[]⟩, 0, 0, 0⟩
theorem mkM_len (e : Int) (inp : ByteArray) (A : Option Addr) (c : Nat) (l : List Pg) : (mkM e inp A c l).x.length = 32 := rfl
structure Box4 (w : World) (b : Nat) (s : Sg) : Prop where
  c0 : w.cell? ⟨b, 0, none⟩ = some (.int .u64 s.at_)
  c1 : w.cell? ⟨b, 1, none⟩ = some (.int .i64 s.perm)
  c2 : w.cell? ⟨b, 2, none⟩ = some (.string s.data)
  c3 : w.cell? ⟨b, 3, none⟩ = some (.int .u64 s.size)
  lt : b < w.heap.size
theorem Box4.new (w : World) (s : Sg) : Box4 (w.alloc (.cells #[.int .u64 s.at_, .int .i64 s.perm, .string s.data, .int .u64 s.size] 108)) w.heap.size s := by
  have h := fun i => cell_of_row _ _ i _ _ _ (heap_alloc_new w (.cells #[.int .u64 s.at_, .int .i64 s.perm, .string s.data, .int .u64 s.size] 108))
  exact ⟨h 0, h 1, h 2, h 3, by simp⟩
theorem Box4.below {w w' : World} {b B : Nat} {s : Sg} (h : Box4 w b s) (hb : Below B w w') (hB : b < B) : Box4 w' b s :=
  ⟨(hb.cell (p := ⟨b, 0, none⟩) hB).trans h.c0, (hb.cell (p := ⟨b, 1, none⟩) hB).trans h.c1, (hb.cell (p := ⟨b, 2, none⟩) hB).trans h.c2, (hb.cell (p := ⟨b, 3, none⟩) hB).trans h.c3, Nat.lt_of_lt_of_le h.lt hb.size⟩
set_option maxHeartbeats 4000000 in
theorem irload_any {A : Option Addr} {cap : Nat} {L : List Sg} {w : World} {B : Nat} (e : Int) (inp : ByteArray) (_he : 0 ≤ e ∧ e ≤ 18446744073709551615) (hL : Sgs w B A cap L) (hB : B ≤ w.heap.size) (hwf : ∀ s ∈ L, s.ok) (hlen : L.length ≤ 140737488351232) :
    Calls Tryd.prog 30 #[.agg #[.int .u64 e, .slice A L.length cap], .string inp] w (LoadPost w e L inp) := by
  obtain ⟨W0, hW0⟩ : ∃ W0, w.alloc (.cells #[.int .u64 e, .slice A L.length cap] 49) = W0 := ⟨_, rfl⟩
  have k0 : Below w.heap.size w W0 := by subst hW0; exact (Below.refl _ _).alloc (Nat.le_refl _) _
  have b0 : Box2 W0 w.heap.size e (.slice A L.length cap) := by
    subst hW0
    refine ⟨?_, ?_⟩ <;> simp [go_sem]
  have z0 : W0.heap.size = w.heap.size + 1 := by subst hW0; simp
  obtain ⟨W1, h1, s1, x1, b1, o1⟩ := mach_more W0
  rw [z0] at x1
  have HB1 := Lib.hid (k0.trans (b1.mono (by omega)))
  have HX1 := Lib.hid x1
  have HI1 := Lib.hid (b0.below b1 (by omega))
  have HL1 := Lib.hid (Sl.In.below hL (HB1.out.mono hB))
  have HWF := Lib.hid hwf
  have HL := Lib.hid hL
  clear hwf k0 b0 b1 o1 x1 hL
  obtain ⟨c0, c1⟩ := HI1.out
  go_enter Tryd.func30, Tryd.ntmps30
  go_wp2_with fail
  refine (irmay_any e HL1.out (by omega) HWF.out hlen).mono ?_
  rintro r w2 ⟨rfl, hb2⟩
  have HX2 := Lib.hid (HX1.out.below hb2 (by omega))
  have HI2 := Lib.hid (HI1.out.below hb2 (by omega))
  have HB2 := Lib.hid (HB1.out.trans (hb2.mono HB1.out.size))
  have s2 := hb2.size
  clear c0 c1 hb2
  cases hm : imayB e L with
  | false =>
    have hE : imE e L = 1 := by unfold imE; rw [hm]; rfl
    have HE := Lib.hid hE
    clear hm hE
    obtain ⟨W3, h3, x3, s3, b3, _⟩ := HX2.out.lay rfl Mc.zero rfl
    have h3' : (Go.storeVar 34 ⟨w.heap.size + 1, 0, none⟩ (.agg #[.int .u64 0, .int .u64 0, .int .u64 0, .int .u64 0, .int .u64 0, .int .u64 0, .int .u64 0, .int .u64 0, .int .u64 0, .int .u64 0, .int .u64 0, .int .u64 0, .int .u64 0, .int .u64 0, .int .u64 0, .int .u64 0, .int .u64 0, .int .u64 0, .int .u64 0, .int .u64 0, .int .u64 0, .int .u64 0, .int .u64 0, .int .u64 0, .int .u64 0, .int .u64 0, .int .u64 0, .int .u64 0, .int .u64 0, .int .u64 0, .int .u64 0, .int .u64 0, .int .u64 0, .slice none 0 0, .string ⟨#[]⟩, .string ⟨#[]⟩, .int .i64 0, .int .u64 0, .int .u64 0])).run Tryd.prog w2 = .ok () W3 := h3
    have l3 := x3.loadVar rfl
    have HB3 := Lib.hid (HB2.out.trans (b3.mono (by omega)))
    clear h3 x3 b3
    go_wp2
    refine bodyPost_ret (v := .tuple #[.agg Mc.zero.cells.toArray, .int .i64 1]) ?_ rfl (LoadPost.bad HE.out (by decide) HB3.out rfl)
    simp [results, Tryd.results30, go_sem, l3]
  | true =>
    have hmp := imayB_out hm
    have hE : imE e L = ldErr L L.length := by unfold imE; rw [hm]; rfl
    have HE := Lib.hid hE
    have HMP := Lib.hid hmp
    clear hm hE hmp
    obtain ⟨W3, h3, s3, x3, b3, o3⟩ := mach_more w2
    obtain ⟨W4, h4, x4, s4, b4, o4⟩ := x3.lay rfl (mkM e inp none 0 []) rfl
    have h4' : (Go.storeVar 34 ⟨w2.heap.size, 0, none⟩ (.agg #[.int .u64 0, .int .u64 0, .int .u64 0, .int .u64 0, .int .u64 0, .int .u64 0, .int .u64 0, .int .u64 0, .int .u64 0, .int .u64 0, .int .u64 0, .int .u64 0, .int .u64 0, .int .u64 0, .int .u64 0, .int .u64 0, .int .u64 0, .int .u64 0, .int .u64 0, .int .u64 0, .int .u64 0, .int .u64 0, .int .u64 0, .int .u64 0, .int .u64 0, .int .u64 0, .int .u64 0, .int .u64 0, .int .u64 0, .int .u64 0, .int .u64 0, .int .u64 0, .int .u64 e, .slice none 0 0, .string inp, .string ⟨#[]⟩, .int .i64 0, .int .u64 0, .int .u64 0])).run Tryd.prog W3 = .ok () W4 := h4
    have HBA := Lib.hid (b3.trans b4)
    have HX4 := Lib.hid x4
    obtain ⟨c0, c1⟩ := HI2.out
    clear h4 x3 o3 x4 b3 b4 o4
    go_wp2_with fail
    go_loopw [8] (fun i wr => ∃ (k : Nat) (A' : Option Addr) (c' : Nat), k ≤ L.length ∧ i = .int .i64 k ∧ Hid (ldErr L k = 0) ∧ Hid (MB wr w2.heap.size (mkM e inp A' c' (ldM L k))) ∧ Hid (Below w2.heap.size w2 wr) ∧ Hid (Mem wr wr.heap.size A' c' (ldM L k)) ∧ Hid (A' = none → c' = 0)) (fun i _ => L.length - (intOf i).toNat)
    case atStart => exact ⟨0, none, 0, Nat.zero_le _, rfl, rfl, HX4, HBA, ⟨Nat.le_refl 0, fun k x hk => by simp [ldM] at hk⟩, fun _ => rfl⟩
    case round =>
      clear c0 c1
      obtain ⟨k, A', c', hk, rfl, HLE, HXM, HBR, HMR, HNL⟩ := hrel
      have hI := HI2.out.below HBR.out (by omega)
      obtain ⟨c0, c1⟩ := hI
      have hxlt := HXM.out.lt
      have HXZ := Lib.hid (HX2.out.below HBR.out (by omega))
      have HBW := Lib.hid (HB2.out.trans (HBR.out.mono HB2.out.size))
      have z1 : w.heap.size < wr.heap.size := by omega
      by_cases hlt : k < L.length
      · obtain ⟨hsat, hspm, hsdz, hssz⟩ := HWF.out _ (List.getElem_mem hlt)
        have hSA := (HMP.out.2.1 k hlt _ (List.getElem?_eq_getElem hlt)).1
        obtain ⟨-, -, -, -, hsz, -⟩ := hSA
        have hpg : 1 ≤ pagesI (L[k]).size ∧ pagesI (L[k]).size ≤ 64 := by unfold pagesI; omega
        obtain ⟨b, off, rfl, hb, d0, d1, d2, d3⟩ := Sgs.sg (Sl.In.below HL.out (HBW.out.mono hB)) hlt
        have i1 : (0 : Int) ≤ (k : Int) := by omega
        have i2 : (k : Int) < (L.length : Int) := by omega
        have hBS := HBR.out.alloc HBR.out.size (.cells #[.int .u64 (L[k]).at_, .int .i64 (L[k]).perm, .string (L[k]).data, .int .u64 (L[k]).size] 108)
        have HBD := Lib.hid hBS.drew
        have HMM := Lib.hid (show Mem (wr.alloc (.cells #[.int .u64 (L[k]).at_, .int .i64 (L[k]).perm, .string (L[k]).data, .int .u64 (L[k]).size] 108)).drew _ A' c' (ldM L k) from Mem.step HMR.out ((Below.refl _ wr).alloc (Nat.le_refl _) _).drew)
        have hS0 : MB (wr.alloc (.cells #[.int .u64 (L[k]).at_, .int .i64 (L[k]).perm, .string (L[k]).data, .int .u64 (L[k]).size] 108)).drew w2.heap.size (mkM e inp A' c' (ldM L k)) ∧ Box4 (wr.alloc (.cells #[.int .u64 (L[k]).at_, .int .i64 (L[k]).perm, .string (L[k]).data, .int .u64 (L[k]).size] 108)).drew wr.heap.size L[k] := ⟨(HXM.out.alloc _).drew 1, (Box4.new wr L[k]).below ((Below.refl (wr.heap.size + 1) _).drew) (by omega)⟩
        have HS0 := Lib.hid hS0
        have e1 : (pagesI (L[k]).size * 256).tdiv 256 = pagesI (L[k]).size := by rw [Int.tdiv_eq_ediv_of_nonneg (by omega)]; omega
        have e2 : IntKind.u64.wrap (pagesI (L[k]).size) = pagesI (L[k]).size := by rw [IntKind.wrap_u64]; omega
        have e3 : pagesI (L[k]).size * 256 / 256 = pagesI (L[k]).size := by omega
        have e4 : IntKind.i64.wrap (pagesI (L[k]).size) = pagesI (L[k]).size := IntWalk.i64_in _ (by omega)
        clear hBS hS0 hspm
        go_wp2_with fail
        refine wp_region_noPanic ?_
        refine wp_region_held_drew (S := fun w' => MB w' w2.heap.size (mkM e inp A' c' (ldM L k)) ∧ Box4 w' wr.heap.size L[k]) (by kernel_rfl) HS0.out (fun hHeld => ?_)
        refine takeH (i := 0) (d := some 36) (v := ?_) rfl (by kernel_rfl) (by kernel_rfl) (by kernel_rfl) (fun _ _ _ h => h) rfl (Or.inl ⟨by rfl, ?_⟩) hHeld ?_
        rotate_left
        · intro w' hSw; go_simp; (try with_reducible rfl)
        (try simp only [Act.put, List.setIfInBounds_toArray, List.set_cons_zero, List.set_cons_succ])
        refine takeH (i := 1) (d := some 37) (v := ?_) rfl (by kernel_rfl) (by kernel_rfl) (by kernel_rfl) (fun _ _ _ h => h) rfl (Or.inl ⟨by rfl, ?_⟩) hHeld ?_
        rotate_left
        · intro w' hSw; obtain ⟨hm, ⟨c0, c1, c2, c3, -⟩⟩ := hSw; have q : w'.cell? ⟨w2.heap.size, 33, none⟩ = some (.slice A' (ldM L k).length c') := (hm.tail (mkM_len _ _ _ _ _)).2.1; go_simp; (try with_reducible rfl)
        (try simp only [Act.put, List.setIfInBounds_toArray, List.set_cons_zero, List.set_cons_succ])
        refine takeH (i := 2) (d := some 38) (v := ?_) rfl (by kernel_rfl) (by kernel_rfl) (by kernel_rfl) (fun _ _ _ h => h) rfl (Or.inl ⟨by rfl, ?_⟩) hHeld ?_
        rotate_left
        · intro w' hSw; go_simp; (try with_reducible rfl)
        (try simp only [Act.put, List.setIfInBounds_toArray, List.set_cons_zero, List.set_cons_succ])
        refine takeH (i := 3) (d := some 39) (v := ?_) rfl (by kernel_rfl) (by kernel_rfl) (by kernel_rfl) (fun _ _ _ h => h) rfl (Or.inl ⟨by rfl, ?_⟩) hHeld ?_
        rotate_left
        · intro w' hSw; obtain ⟨hm, ⟨c0, c1, c2, c3, -⟩⟩ := hSw; have q : w'.cell? ⟨w2.heap.size, 33, none⟩ = some (.slice A' (ldM L k).length c') := (hm.tail (mkM_len _ _ _ _ _)).2.1; go_simp; (try with_reducible rfl)
        (try simp only [Act.put, List.setIfInBounds_toArray, List.set_cons_zero, List.set_cons_succ])
        refine takeH (i := 4) (d := some 40) (v := ?_) rfl (by kernel_rfl) (by kernel_rfl) (by kernel_rfl) (fun _ _ _ h => h) rfl (Or.inl ⟨by rfl, ?_⟩) hHeld ?_
        rotate_left
        · intro w' hSw; go_simp; (try with_reducible rfl)
        (try simp only [Act.put, List.setIfInBounds_toArray, List.set_cons_zero, List.set_cons_succ])
        refine takeH (i := 5) (d := some 41) (v := ?_) rfl (by kernel_rfl) (by kernel_rfl) (by kernel_rfl) (fun _ _ _ h => h) rfl (Or.inl ⟨by rfl, ?_⟩) hHeld ?_
        rotate_left
        · intro w' hSw; obtain ⟨hm, ⟨c0, c1, c2, c3, -⟩⟩ := hSw; have q : w'.cell? ⟨w2.heap.size, 33, none⟩ = some (.slice A' (ldM L k).length c') := (hm.tail (mkM_len _ _ _ _ _)).2.1; go_simp; (try with_reducible rfl)
        (try simp only [Act.put, List.setIfInBounds_toArray, List.set_cons_zero, List.set_cons_succ])
        refine takeH (i := 9) (d := some 45) (v := ?_) rfl (by kernel_rfl) (by kernel_rfl) (by kernel_rfl) (fun _ _ _ h => h) rfl (Or.inl ⟨by rfl, ?_⟩) hHeld ?_
        rotate_left
        · intro w' hSw; go_simp; (try with_reducible rfl)
        (try simp only [Act.put, List.setIfInBounds_toArray, List.set_cons_zero, List.set_cons_succ])
        refine takeH (i := 10) (d := some 46) (v := ?_) rfl (by kernel_rfl) (by kernel_rfl) (by kernel_rfl) (fun _ _ _ h => h) rfl (Or.inl ⟨by rfl, ?_⟩) hHeld ?_
        rotate_left
        · intro w' hSw; obtain ⟨hm, ⟨c0, c1, c2, c3, -⟩⟩ := hSw; have q : w'.cell? ⟨w2.heap.size, 33, none⟩ = some (.slice A' (ldM L k).length c') := (hm.tail (mkM_len _ _ _ _ _)).2.1; go_simp; (try with_reducible rfl)
        (try simp only [Act.put, List.setIfInBounds_toArray, List.set_cons_zero, List.set_cons_succ])
        refine wpAnyH_ready (rs := [6]) (by kernel_rfl) (by simp) ?_
        refine AllReadyH.cons rfl (fun K hK => ?_) AllReadyH.nil
        go_simp
        go_at_call 62
        with_reducible refine (up_any (L[k]).size _ (by omega)).mono ?_
        rintro e w4 ⟨rfl, rfl⟩
        skip
        go_wp2_with fail
        refine hK.out _ _ hHeld (fun hHeld => ?_)
        clear hK K
        (try simp only [Act.put, List.setIfInBounds_toArray, List.set_cons_zero, List.set_cons_succ])
        refine takeH (i := 7) (d := some 43) (v := .int .u64 (pagesI (L[k]).size)) rfl (by kernel_rfl) (by kernel_rfl) (by kernel_rfl) (fun _ _ _ h => h) rfl (Or.inl ⟨by rfl, ?_⟩) hHeld ?_
        · intro w' hSw; go_simp
        (try simp only [Act.put, List.setIfInBounds_toArray, List.set_cons_zero, List.set_cons_succ])
        refine takeH (i := 8) (d := some 44) (v := .int .i64 (pagesI (L[k]).size)) rfl (by kernel_rfl) (by kernel_rfl) (by kernel_rfl) (fun _ _ _ h => h) rfl (Or.inl ⟨by rfl, ?_⟩) hHeld ?_
        · intro w' hSw; go_simp
        (try simp only [Act.put, List.setIfInBounds_toArray, List.set_cons_zero, List.set_cons_succ])
        refine wpAnyH_ready (rs := [11]) (by kernel_rfl) (by simp) ?_
        refine AllReadyH.cons rfl (fun K hK => ?_) AllReadyH.nil
        go_simp
        go_at_call 36
        with_reducible refine (rmap_any (L := ldM L k) (A := A') (cap := c') (L[k]).at_ (pagesI (L[k]).size) (L[k]).perm hsat HMM.out HNL.out (Nat.le_refl _) (ldM_ok HWF.out k)).mono ?_
        rintro e w5 ⟨hb5, v, rfl, hv⟩
        obtain ⟨A5, c5, rfl, hM5, hn5⟩ := hv
        have HS5 := Lib.hid (And.intro (hHeld.1.below hb5 hHeld.1.lt) (hHeld.2.below hb5 hHeld.2.lt))
        have HB5 := Lib.hid (HBD.out.trans (hb5.mono HBD.out.size))
        have HM5 := Lib.hid hM5
        have HN5 := Lib.hid hn5
        clear hb5 hM5 hn5
        go_wp2_with fail
        refine hK.out _ _ HS5.out (fun hHeld => ?_)
        clear hK K
        (try simp only [Act.put, List.setIfInBounds_toArray, List.set_cons_zero, List.set_cons_succ])
        refine takeH (i := 12) (d := some 35) (v := ?_) rfl (by kernel_rfl) (by kernel_rfl) (by kernel_rfl) (fun _ _ _ h => h) rfl (Or.inl ⟨by rfl, ?_⟩) hHeld ?_
        rotate_left
        · intro w' hSw; go_simp; (try with_reducible rfl)
        (try simp only [Act.put, List.setIfInBounds_toArray, List.set_cons_zero, List.set_cons_succ])
        refine takeH (i := 13) (d := some 48) (v := ?_) rfl (by kernel_rfl) (by kernel_rfl) (by kernel_rfl) (fun _ _ _ h => h) rfl (Or.inl ⟨by rfl, ?_⟩) hHeld ?_
        rotate_left
        · intro w' hSw; go_simp; (try with_reducible rfl)
        (try simp only [Act.put, List.setIfInBounds_toArray, List.set_cons_zero, List.set_cons_succ])
        refine takeH (i := 14) (d := some 49) (v := ?_) rfl (by kernel_rfl) (by kernel_rfl) (by kernel_rfl) (fun _ _ _ h => h) rfl (Or.inl ⟨by rfl, ?_⟩) hHeld ?_
        rotate_left
        · intro w' hSw; go_simp; (try with_reducible rfl)
        (try simp only [Act.put, List.setIfInBounds_toArray, List.set_cons_zero, List.set_cons_succ])
        refine takeH (i := 15) (d := some 10) (v := ?_) rfl (by kernel_rfl) (by kernel_rfl) (by kernel_rfl) (fun _ _ _ h => h) rfl (Or.inl ⟨by rfl, ?_⟩) hHeld ?_
        rotate_left
        · intro w' hSw; go_simp; (try with_reducible rfl)
        (try simp only [Act.put, List.setIfInBounds_toArray, List.set_cons_zero, List.set_cons_succ])
        refine takeH (i := 16) (d := some 11) (v := ?_) rfl (by kernel_rfl) (by kernel_rfl) (by kernel_rfl) (fun _ _ _ h => h) rfl (Or.inl ⟨by rfl, ?_⟩) hHeld ?_
        rotate_left
        · intro w' hSw; go_simp; (try with_reducible rfl)
        (try simp only [Act.put, List.setIfInBounds_toArray, List.set_cons_zero, List.set_cons_succ])
        refine wpAnyH_done (by kernel_rfl) ?_ _
        refine NoPanic.normal ?_
        have s5 := HB5.out.size
        have HXZ5 := Lib.hid (HX2.out.below HB5.out (by omega))
        have HBW5 := Lib.hid (HB2.out.trans (HB5.out.mono HB2.out.size))
        rw [← ldE_at hlt]
        by_cases hE5 : ldE L k = 0
        · have e5 : (ldE L k != 0) = false := by simp [hE5]
          obtain ⟨-, hb5⟩ := HS5.out
          obtain ⟨g0, g1, g2, g3, g4⟩ := hb5
          have HM5r := Lib.hid (show RightP (mapX (ldM L k) (L[k]).at_ (pagesI (L[k]).size) (L[k]).perm) from mapX_rightP (ldM_right L k))
          have HE5 := Lib.hid hE5
          clear hE5
          obtain ⟨E5, hE5'⟩ : ∃ E5, E5 = ldE L k := ⟨_, rfl⟩
          rw [← hE5'] at e5 ⊢
          go_wp2_with fail
          refine (rfill_any (L[k]).at_ (L[k]).data hsat hsdz HM5.out HN5.out (Nat.le_refl _) (mapX_okP (ldM_ok HWF.out k) hsat.1)).mono ?_
          rintro r w6 ⟨hb6, v, rfl, A6, c6, rfl, hM6, hn6⟩
          rw [← ldM_succ hlt] at hM6 ⊢
          have HX6 := Lib.hid (HS5.out.1.below hb6 (by omega))
          have q6 := (HX6.out.tail (mkM_len _ _ _ _ _)).2.1
          have f6 := HX6.out.frz 33
          obtain ⟨w7, h7, x7, s7, b7, o7⟩ := HX6.out.step (m' := mkM e inp A6 c6 (ldM L (k + 1))) (Mc.setMem (mkM_len e inp A' c' (ldM L k)) A6 c6 (ldM L (k + 1)))
          have HXZ6 := Lib.hid (HXZ5.out.below hb6 (by omega))
          have HM7 := Lib.hid (show Mem w7 w7.heap.size A6 c6 (ldM L (k + 1)) from mem_keep2 hM6 HX6.out (mkM_len _ _ _ _ _) HXZ6.out rfl (fun j h1 _ => by rw [← h7]; exact Below.heap_setCell _ _ _ _ h1) (by omega))
          have HN7 := Lib.hid hn6
          have HX7 := Lib.hid x7
          have HB7 := Lib.hid ((HB5.out.trans (hb6.mono HB5.out.size)).trans (b7.mono (Nat.le_refl _)))
          have HLE7 := Lib.hid (ldErr_good HLE.out HE5.out)
          clear hE5' hb6 hM6 hn6 x7 b7 o7
          go_wp2
          exact ⟨⟨k + 1, A6, c6, hlt, by go_num, HLE7, HX7, HB7, HM7, HN7⟩, by simp [intOf]; omega⟩
        · have e5 : (ldE L k != 0) = true := by simpa using hE5
          have hEE : imE e L = ldE L k := HE.out.trans (ldErr_bad HLE.out hE5 hlt)
          have HEE := Lib.hid hEE
          have HE5 := Lib.hid hE5
          obtain ⟨W6, h6, x6, s6, b6, _⟩ := HXZ5.out.lay rfl Mc.zero rfl
          have h6' : (Go.storeVar 34 ⟨w.heap.size + 1, 0, none⟩ (.agg #[.int .u64 0, .int .u64 0, .int .u64 0, .int .u64 0, .int .u64 0, .int .u64 0, .int .u64 0, .int .u64 0, .int .u64 0, .int .u64 0, .int .u64 0, .int .u64 0, .int .u64 0, .int .u64 0, .int .u64 0, .int .u64 0, .int .u64 0, .int .u64 0, .int .u64 0, .int .u64 0, .int .u64 0, .int .u64 0, .int .u64 0, .int .u64 0, .int .u64 0, .int .u64 0, .int .u64 0, .int .u64 0, .int .u64 0, .int .u64 0, .int .u64 0, .int .u64 0, .int .u64 0, .slice none 0 0, .string ⟨#[]⟩, .string ⟨#[]⟩, .int .i64 0, .int .u64 0, .int .u64 0])).run Tryd.prog w5 = .ok () W6 := h6
          have l6 := x6.loadVar rfl
          have HB6 := Lib.hid (HBW5.out.trans (b6.mono (by omega)))
          obtain ⟨E5, hE5'⟩ : ∃ E5, E5 = ldE L k := ⟨_, rfl⟩
          rw [← hE5'] at e5 HEE HE5 ⊢
          clear h6 x6 b6 hE5 hEE hE5'
          go_wp2
          refine bodyPost_ret (v := .tuple #[.agg Mc.zero.cells.toArray, .int .i64 E5]) ?_ rfl (LoadPost.bad HEE.out HE5.out HB6.out rfl)
          simp [results, Tryd.results30, go_sem, l6]
      · obtain rfl : k = L.length := by omega
        have lk := HXM.out.loadVar (mkM_len _ _ _ _ _)
        obtain ⟨Wc, hc, lc, bc⟩ := mach_out2 HXZ.out rfl (mkM_len e inp A' c' (ldM L L.length))
        have hEE : imE e L = 0 := HE.out.trans HLE.out
        have HEE := Lib.hid hEE
        have HMC := Lib.hid (mem_keep2 HMR.out HXM.out (mkM_len _ _ _ _ _) HXZ.out rfl (fun j h1 h2 => HXZ.out.lay_only rfl (mkM_len _ _ _ _ _) hc j h2) bc.size)
        have HBC := Lib.hid (HBW.out.trans (bc.mono (by omega)))
        clear hEE bc
        go_wp2
        refine bodyPost_ret (v := .tuple #[.agg (mkM e inp A' c' (ldM L L.length)).cells.toArray, .int .i64 0]) ?_ rfl (LoadPost.good HEE.out HBC.out HMC.out HNL.out rfl)
        simp [results, Tryd.results30, go_sem, lc]
end Go.Proofs.YtajhehmkdlebbaaDoor
namespace Go.Proofs.YtajhehmkdlebbaaDoor
open Go.ChangeShapes Go.WideShapes Go.ChangeAt Go.RowKit Go.Deep Go.Maps Go.WideMaps
section
variable {l : List Sg}
/-- all segments may be -/
def SegsP (l : List Sg) : Prop := ∀ k, k < l.length → SegAt l k
theorem SegsP.at_ (h : SegsP l) {k : Nat} (hk : k < l.length) : SegA l[k] := (h k hk _ (List.getElem?_eq_getElem hk)).1
theorem SegsP.apart (h : SegsP l) {i : Nat} : ∀ {j : Nat}, (hij : i < j) → (hj : j < l.length) → endI (l[i]'(Nat.lt_trans hij hj)) ≤ (l[j]).at_
  | j + 1, hij, hj => by
    have h1 := (h (j + 1) hj _ (List.getElem?_eq_getElem hj)).2
    rw [behI_succ (show j < l.length by omega)] at h1
    by_cases e : i = j
    · subst e; exact h1
    · have h2 := h.apart (i := i) (j := j) (by omega) (by omega)
      have h3 := (h.at_ (show j < l.length by omega))
      have h4 : (l[j]).at_ ≤ endI l[j] := by unfold endI pagesI; have := h3.2.2.2.2.1; omega
      omega
theorem fillX_mem {M : List Pg} {at_ : Int} {s : ByteArray} {p : Pg} (h : p ∈ fillX M at_ s) : ∃ q ∈ M, q.at_ = p.at_ ∧ q.perm = p.perm := by
  unfold fillX at h
  split at h
  · unfold wrL at h
    obtain ⟨q, hq, rfl⟩ := List.mem_map.1 h
    exact ⟨q, hq, rfl, rfl⟩
  · exact ⟨p, h, rfl, rfl⟩
theorem fillX_mem' {M : List Pg} {at_ : Int} {s : ByteArray} {q : Pg} (h : q ∈ M) : ∃ p ∈ fillX M at_ s, p.at_ = q.at_ ∧ p.perm = q.perm := by
  unfold fillX
  split
  · exact ⟨wrP at_ s s.size q, List.mem_map.2 ⟨q, h, rfl⟩, rfl, rfl⟩
  · exact ⟨q, h, rfl, rfl⟩
theorem mapX_mem_iff {M : List Pg} {at_ n perm : Int} (h : mapE M at_ n perm = 0) (p : Pg) : p ∈ mapX M at_ n perm ↔ p ∈ M ∨ p ∈ newL at_ perm n.toNat := by
  obtain ⟨⟨_, hm, hn, hp, _⟩, h4, h5⟩ := mapE_zero h
  rw [mapX_zero h, (mapX_perm h4 (by omega)).mem_iff, List.mem_append]
theorem ldErr_le {k n : Nat} (hkn : k ≤ n) (h : ldErr l n = 0) : ldErr l k = 0 := by
  induction n with
  | zero => obtain rfl : k = 0 := by omega
            exact h
  | succ n ih =>
    by_cases e : k = n + 1
    · subst e; exact h
    · refine ih (by omega) ?_
      change (if ldErr l n = 0 then ldE l n else ldErr l n) = 0 at h
      split at h
      · assumption
      · rename_i hn; exact absurd h hn
theorem ldE_of {n : Nat} (h : ldErr l (n + 1) = 0) : ldE l n = 0 := by
  have h0 := ldErr_le (Nat.le_succ n) h
  change (if ldErr l n = 0 then ldE l n else ldErr l n) = 0 at h
  rw [if_pos h0] at h
  exact h
/-- whose a page is -/
theorem ldM_page (hS : SegsP l) : ∀ {k : Nat}, k ≤ l.length → ldErr l k = 0 → ∀ p ∈ ldM l k, ∃ (j : Nat) (hj : j < l.length), j < k ∧ p.perm = (l[j]).perm ∧ (l[j]).at_ ≤ p.at_ ∧ p.at_ + 256 ≤ endI l[j]
  | 0, _, _, p, hp => by cases hp
  | k + 1, hk, h, p, hp => by
    have hlt : k < l.length := hk
    have h0 := ldErr_le (Nat.le_succ k) h
    have hE := ldE_of h
    rw [ldE_at hlt] at hE
    rw [ldM_succ hlt] at hp
    obtain ⟨q, hq, e1, e2⟩ := fillX_mem hp
    rw [← e1, ← e2]
    rcases (mapX_mem_iff hE q).1 hq with hq | hq
    · obtain ⟨j, hj, hjk, h1⟩ := ldM_page hS (Nat.le_of_lt hlt) h0 q hq
      exact ⟨j, hj, by omega, h1⟩
    · obtain ⟨i, hi, rfl⟩ := newL_mem hq
      have hsz := (hS.at_ hlt).2.2.2.2.1
      refine ⟨k, hlt, by omega, rfl, ?_, ?_⟩
      · simp only [newP]; omega
      · unfold endI
        have : 0 ≤ pagesI (l[k]).size := by unfold pagesI; omega
        simp only [newP]; omega
/-- each place of a segment has a page of its perm -/
theorem ldM_cover (hS : SegsP l) : ∀ {k : Nat}, k ≤ l.length → ldErr l k = 0 → ∀ {j : Nat} (hj : j < l.length), j < k → ∀ {T : Int}, (l[j]).at_ ≤ T → T < (l[j]).at_ + (l[j]).size → ∃ p ∈ ldM l k, p.perm = (l[j]).perm ∧ p.at_ ≤ T ∧ T - p.at_ < 256
  | k + 1, hk, h, j, hj, hjk, T, h1, h2 => by
    have hlt : k < l.length := hk
    have h0 := ldErr_le (Nat.le_succ k) h
    have hE := ldE_of h
    rw [ldE_at hlt] at hE
    rw [ldM_succ hlt]
    have key : ∃ q ∈ mapX (ldM l k) (l[k]).at_ (pagesI (l[k]).size) (l[k]).perm, q.perm = (l[j]).perm ∧ q.at_ ≤ T ∧ T - q.at_ < 256 := by
      by_cases e : j = k
      · subst e
        refine ⟨newP (l[j]).at_ (l[j]).perm ((T - (l[j]).at_) / 256).toNat, (mapX_mem_iff hE _).2 (.inr ?_), rfl, ?_, ?_⟩
        · unfold newL
          refine List.mem_map.2 ⟨_, List.mem_range.2 ?_, rfl⟩
          unfold pagesI
          omega
        · simp only [newP]; omega
        · simp only [newP]; omega
      · obtain ⟨q, hq, h3⟩ := ldM_cover hS (Nat.le_of_lt hlt) h0 hj (by omega) h1 h2
        exact ⟨q, (mapX_mem_iff hE q).2 (.inl hq), h3⟩
    obtain ⟨q, hq, h3, h4, h5⟩ := key
    obtain ⟨p, hp, e1, e2⟩ := fillX_mem' (at_ := (l[k]).at_) (s := (l[k]).data) hq
    exact ⟨p, hp, e2.trans h3, by omega, by omega⟩
theorem byteAt_off {M : List Pg} {a : Int} {q : Nat} (h0 : 0 ≤ a) (h1 : a + q ≤ 18446744073709551615) (h : (byteAt M (a + q) 0 0).isSome = true) : (byteAt M a 0 q).isSome = true := by
  have e1 : (a + (q : Int)) % 18446744073709551616 = a + q := by omega
  have e0 : (a + (q : Int) + ((0 : Nat) : Int)) % 18446744073709551616 = a + q := by omega
  cases hx : idxF M (a + q) with
  | none => rw [byteAt_far e0.symm hx] at h; cases h
  | some i => rw [byteAt_some e1.symm (by omega) hx (idxF_lt hx), grant0]; rfl
/-- each byte of a segment -/
theorem ldM_byte (hS : SegsP l) (hwf : ∀ s ∈ l, s.ok) : ∀ {k : Nat}, k ≤ l.length → ldErr l k = 0 → ∀ {j : Nat} (hj : j < l.length), j < k → ∀ {T : Int}, (l[j]).at_ ≤ T → T < (l[j]).at_ + (l[j]).size →
    byteAt (ldM l k) T 0 0 = some (if T - (l[j]).at_ < ((l[j]).data.size : Int) then byteI (l[j]).data (T - (l[j]).at_).toNat else 0)
  | k + 1, hk, h, j, hj, hjk, T, h1, h2 => by
    have hlt : k < l.length := hk
    have h0 := ldErr_le (Nat.le_succ k) h
    have hE := ldE_of h
    rw [ldE_at hlt] at hE
    rw [ldM_succ hlt]
    obtain ⟨a1, a2, a3, a4, a5, a6⟩ := hS.at_ hlt
    have w1 := (hwf _ (List.getElem_mem hlt)).1
    have wj := (hwf _ (List.getElem_mem hj)).1
    obtain ⟨b1, b2, b3, b4, b5, b6⟩ := hS.at_ hj
    have hT : 0 ≤ T ∧ T ≤ 18446744073709551615 := by omega
    have hr := ldM_right l k
    have hrx : RightP (mapX (ldM l k) (l[k]).at_ (pagesI (l[k]).size) (l[k]).perm) := mapX_rightP hr
    have hf : fillE (mapX (ldM l k) (l[k]).at_ (pagesI (l[k]).size) (l[k]).perm) (l[k]).at_ (l[k]).data = 0 := by
      unfold fillE
      rw [if_pos (rightB_in hrx)]
      rw [loadN_some_iff (fun q hq => byteAt_off w1.1 (by omega) (by
        rw [(mapX_new hr hE (T := (l[k]).at_ + q) (by omega) (by omega) (by unfold pagesI; omega)).1]; rfl))]
      rfl
    rw [fill_ok hf, byteAt_wr hrx]
    have eT : (T + ((0 : Nat) : Int)) % 18446744073709551616 = T := by omega
    rw [eT]
    by_cases e : j = k
    · subst e
      rw [(mapX_new hr hE hT h1 (by unfold pagesI; omega)).1, Option.map_some]
      congr 1
      by_cases hd : T - (l[j]).at_ < ((l[j]).data.size : Int)
      · rw [if_pos hd, if_pos (by omega)]
      · rw [if_neg hd, if_neg (by omega)]
    · have hap := hS.apart (show j < k by omega) hlt
      have hend : (l[j]).at_ + (l[j]).size ≤ endI l[j] := by unfold endI pagesI; omega
      rw [mapX_old hr hE hT (by omega), ldM_byte hS hwf (Nat.le_of_lt hlt) h0 hj (by omega) h1 h2, Option.map_some, if_neg (by omega)]
/-! ### when they are laid out -/
def pagesN (l : List Sg) : Nat → Int
  | 0 => 0
  | k + 1 => pagesN l k + match l[k]? with
    | some s => pagesI s.size
    | none => 0
theorem pagesN_succ {k : Nat} (hk : k < l.length) : pagesN l (k + 1) = pagesN l k + pagesI (l[k]).size := by
  show pagesN l k + (match l[k]? with | some s => pagesI s.size | none => 0) = _
  rw [List.getElem?_eq_getElem hk]
theorem ldM_len : ∀ {k : Nat}, k ≤ l.length → ldErr l k = 0 → ((ldM l k).length : Int) = pagesN l k
  | 0, _, _ => rfl
  | k + 1, hk, h => by
    have hlt : k < l.length := hk
    have hE := ldE_of h
    rw [ldE_at hlt] at hE
    rw [ldM_succ hlt, fillX_len, mapX_lenE hE, pagesN_succ hlt, ldM_len (Nat.le_of_lt hlt) (ldErr_le (Nat.le_succ k) h)]
theorem twice_no {M : List Pg} {at_ : Int} : ∀ {n : Nat}, (∀ p ∈ M, p.at_ + 256 ≤ at_) → twice M at_ n = false
  | 0, _ => rfl
  | n + 1, h => by
    have hx : idxF M (at_ + 256 * n) = none := atI_none fun j hj => decide_eq_false (by have := h _ (List.getElem_mem hj); omega)
    simp only [twice, twice_no h, hx]
    rfl
theorem ldE_good (hS : SegsP l) {k : Nat} (hk : k < l.length) (h : ldErr l k = 0) (hp : pagesN l (k + 1) ≤ 64) : ldE l k = 0 := by
  rw [ldE_at hk]
  obtain ⟨a1, a2, a3, a4, a5, a6⟩ := hS.at_ hk
  have hpg : 1 ≤ pagesI (l[k]).size ∧ pagesI (l[k]).size ≤ 64 := by unfold pagesI; omega
  have hlen := ldM_len (Nat.le_of_lt hk) h
  rw [pagesN_succ hk] at hp
  unfold mapE
  rw [if_pos ⟨rightB_in (ldM_right l k), a1, hpg, by omega, by omega⟩]
  rw [twice_no (fun p hpm => by
    obtain ⟨j, hj, hjk, _, _, h3⟩ := ldM_page hS (Nat.le_of_lt hk) h p hpm
    have := hS.apart hjk hk
    omega)]
  rw [if_neg (by decide), if_neg (by omega)]
theorem pagesN_mono (hS : SegsP l) {k : Nat} : ∀ {n : Nat}, k ≤ n → n ≤ l.length → pagesN l k ≤ pagesN l n
  | 0, h, _ => by obtain rfl : k = 0 := by omega
                  exact Int.le_refl _
  | n + 1, h, hn => by
    by_cases e : k = n + 1
    · subst e; exact Int.le_refl _
    · have h1 := pagesN_mono hS (show k ≤ n by omega) (by omega)
      rw [pagesN_succ (show n < l.length by omega)]
      have := (hS.at_ (show n < l.length by omega)).2.2.2.2.1
      unfold pagesI
      omega
theorem ldErr_zero (hS : SegsP l) (hp : pagesN l l.length ≤ 64) : ∀ {k : Nat}, k ≤ l.length → ldErr l k = 0
  | 0, _ => rfl
  | _ + 1, hk => ldErr_good (ldErr_zero hS hp (Nat.le_of_lt hk)) (ldE_good hS hk (ldErr_zero hS hp (Nat.le_of_lt hk)) (Int.le_trans (pagesN_mono hS hk (Nat.le_refl _)) hp))
theorem imE_zero {e : Int} (h : imE e l = 0) : IMayP e l ∧ ldErr l l.length = 0 := by
  unfold imE at h
  split at h
  · rename_i hm; exact ⟨imayB_out hm, h⟩
  · cases h
theorem imE_segs {e : Int} (h : imE e l = 0) : SegsP l := fun k hk => (imE_zero h).1.2.1 k hk
/-- where it begins a page holds instructions -/
theorem imE_entry {e : Int} (h : imE e l = 0) : ∃ p ∈ ldM l l.length, p.perm % 2 = 1 ∧ p.at_ ≤ e ∧ e - p.at_ < 256 := by
  obtain ⟨s, hs, hb⟩ := List.any_eq_true.1 (imE_zero h).1.2.2
  obtain ⟨j, hj, rfl⟩ := List.mem_iff_getElem.1 hs
  obtain ⟨h1, h2, h3⟩ := of_decide_eq_true hb
  obtain ⟨p, hp, e1, e2, e3⟩ := ldM_cover (imE_segs h) (Nat.le_refl _) (imE_zero h).2 hj hj h2 h3
  exact ⟨p, hp, by rw [e1]; exact h1, e2, e3⟩
/-- no page is written and holds instructions -/
theorem imE_page {e : Int} (h : imE e l = 0) {p : Pg} (hp : p ∈ ldM l l.length) : p.perm % 4 ≠ 3 := by
  obtain ⟨j, hj, _, e1, _⟩ := ldM_page (imE_segs h) (Nat.le_refl _) (imE_zero h).2 p hp
  rw [e1]
  exact ((imE_segs h).at_ hj).2.2.2.1
theorem imE_byte {e : Int} (h : imE e l = 0) (hwf : ∀ s ∈ l, s.ok) {j : Nat} (hj : j < l.length) {k : Nat} (hk : (k : Int) < (l[j]).size) :
    loadE (ldM l l.length) ((l[j]).at_ + k) 1 0 = 0 ∧ loadV (ldM l l.length) ((l[j]).at_ + k) 1 0 = if k < (l[j]).data.size then byteI (l[j]).data k else 0 := by
  have hb := ldM_byte (imE_segs h) hwf (Nat.le_refl _) (imE_zero h).2 hj hj (T := (l[j]).at_ + k) (by omega) (by omega)
  have e1 : (l[j]).at_ + (k : Int) - (l[j]).at_ = k := by omega
  have hr := rightB_in (ldM_right l l.length)
  rw [e1] at hb
  rw [loadE_one hr, loadV_one hr, hb]
  refine ⟨rfl, ?_⟩
  by_cases hd : k < (l[j]).data.size
  · rw [if_pos hd, if_pos (by omega)]; rfl
  · rw [if_neg hd, if_neg (by omega)]; rfl
theorem imMc_mem {e : Int} {inp : ByteArray} (h : imE e l = 0) : (imMc e l inp).mem = ldM l l.length := by unfold imMc; rw [if_pos h]
end
end Go.Proofs.YtajhehmkdlebbaaDoor
namespace Go.Proofs.YtajhehmkdlebbaaDoor.Pl
open Go.ChangeShapes Go.WideShapes Go.ChangeAt Go.RowKit Go.Deep Go.Maps Go.WideMaps Go.Proofs.YtajhehmkdlebbaaDoor
set_option maxRecDepth 100000
attribute [-go_sem] loadVar storeVar
@[go_sem] theorem svIm (a : Addr) (v : Value) : Go.storeVar 49 a v = (do
  if v.cells.size ≠ (← sizeOf 49) then stuck "storeVar: the value has not the size of the variable"
  storeCells a v.cells.toList) := rfl
theorem ImgOk.segs {L : List CodeD} {G : List GlobD} (h : ImgOk L G) (hsum : sumOps L ≤ 1048576) (hm : G.length ≤ 3518437208784) : (∀ s ∈ segL L G, s.ok) ∧ imE 65536 (segL L G) = 0 ∧ (segL L G).length ≤ 3 := by
  have h1 := text_exact hsum
  obtain ⟨h2, h3⟩ := data_exact hsum hm
  obtain ⟨h4, h5⟩ := stack_exact hsum hm
  have hbs : (bytesS (opsA L G)).size = 4 * (opsA L G).length := by
    unfold bytesS
    rw [if_pos (show (opsA L G).all OpD.may = true from List.all_eq_true.2 fun o ho => h.ops o ho), ba_size]
    simp [bytesL_len]
  have hal := opsA_len L G
  refine ⟨segL_ok h.size ⟨h1, h2, h3, h4, h5⟩ hbs hal, ?_, ?_⟩
  · unfold imE
    rw [if_pos h.may]
    have hP := imayB_out h.may
    refine ldErr_zero (fun k hk => hP.2.1 k hk) ?_ (Nat.le_refl _)
    obtain ⟨z1, z2, z3⟩ := h.size
    by_cases hg : 0 < G.length
    · have e : segL L G = [⟨65536, 5, bytesS (opsA L G), ((bytesS (opsA L G)).size : Nat)⟩, ⟨upI (textI L), 6, ⟨(globL G).toArray⟩, 8 * (G.length : Int)⟩, ⟨upI (dataI L G.length), 6, ByteArray.empty, 8192⟩] := by
        unfold segL segD; rw [if_pos hg]; rfl
      rw [e]
      change 0 + (((bytesS (opsA L G)).size : Int) + 255) / 256 + (8 * (G.length : Int) + 255) / 256 + (8192 + 255) / 256 ≤ 64
      omega
    · have e : segL L G = [⟨65536, 5, bytesS (opsA L G), ((bytesS (opsA L G)).size : Nat)⟩, ⟨upI (dataI L G.length), 6, ByteArray.empty, 8192⟩] := by
        unfold segL segD; rw [if_neg hg]; rfl
      rw [e]
      change 0 + (((bytesS (opsA L G)).size : Int) + 255) / 256 + (8192 + 255) / 256 ≤ 64
      omega
  · unfold segL segD
    split <;> simp
theorem allS_ok {w : World} {B cap gc : Nat} {A A2 : Option Addr} {L : List CodeD} {G : List GlobD} (hL : Codes w B A cap L) (hG : Globs w B A2 gc G) : ∀ s ∈ allS L G, s.ok := by
  have wf : ∀ n : Int, (Lit.int .u64 (n % 18446744073709551616)).wf = true := fun n => by
    have h0 := Int.emod_nonneg n (show (18446744073709551616 : Int) ≠ 0 by decide)
    have h1 := Int.emod_lt_of_pos n (show (0 : Int) < 18446744073709551616 by decide)
    simp only [Lit.wf, Bool.and_eq_true, decide_eq_true_eq]
    exact ⟨h0, by show _ ≤ (18446744073709551615 : Int); omega⟩
  intro s hs
  rcases List.mem_append.1 hs with hs | hs
  · obtain ⟨i, hi, rfl⟩ := List.mem_map.1 hs
    have hi := List.mem_range.1 hi
    rw [symF_at hi]
    exact ⟨(hL.2.2 _ (List.getElem_mem hi)).1, wf _⟩
  · obtain ⟨i, hi, rfl⟩ := List.mem_map.1 hs
    have hi := List.mem_range.1 hi
    rw [symG_at hi]
    exact ⟨(hG.2.2 _ (List.getElem_mem hi)).1, wf _⟩
set_option maxHeartbeats 2000000 in
theorem placemay_any {A A2 : Option Addr} {cap gc : Nat} {L : List CodeD} {G : List GlobD} {w : World} (hT : Tab w) (hL : Codes w w.heap.size A cap L) (hG : Globs w w.heap.size A2 gc G) (hsum : sumOps L ≤ 1048576) (hsok : ∀ s ∈ allS L G, s.ok) :
    Calls Tryd.prog 13 #[.slice A L.length cap, .slice A2 G.length gc] w fun r w' => r = .returned (.bool true) ∧ Below w.heap.size w w' := by
  have hlen := hL.len
  have hlenG := hG.len
  have HT := Lib.hid hT
  have HL := Lib.hid hL
  have HG := Lib.hid hG
  have HSOK := Lib.hid hsok
  clear hT hL hG hsok
  go_enter Tryd.func13, Tryd.ntmps13
  go_wp2_with fail
  refine (shown_any _).mono ?_
  rintro e w0 ⟨rfl, rfl⟩
  go_wp2_with fail
  refine (few_any HL.out (by omega)).mono ?_
  rintro e w0 ⟨rfl, rfl⟩
  obtain ⟨fw, hfw⟩ : ∃ b, b = fewB L G.length := ⟨_, rfl⟩
  rw [← hfw]
  clear hfw
  go_wp2_with fail
  refine (image_any HT.out HL.out HG.out (Nat.le_refl _) hsum HSOK.out).mono ?_
  rintro e w1 ⟨v, E, rfl, hb1, hbad, hgood⟩
  have s1 := hb1.size
  by_cases hE : E = 0
  rotate_left
  · obtain rfl := hbad hE
    have gE : (E != 0) = true := by simpa using hE
    clear hgood hbad
    cases fw <;> (go_wp2; go_ret; exact ⟨rfl, hb1.alloc hb1.size _⟩)
  subst hE
  obtain ⟨XA, xc, rfl, hS, hOK⟩ := hgood rfl
  clear hgood hbad
  cases fw with
  | false => go_wp2; go_ret; exact ⟨rfl, hb1.alloc hb1.size _⟩
  | true =>
    obtain ⟨hwf, hE0, hl3⟩ := hOK.segs hsum (by omega)
    have hmb := hOK.may
    obtain ⟨SL, hSL⟩ : ∃ SL, SL = segL L G := ⟨_, rfl⟩
    rw [← hSL] at hwf hE0 hl3 hmb hS ⊢
    clear hSL hOK
    obtain ⟨W2, hW2⟩ : ∃ W2, w1.alloc (.cells #[.int .u64 65536, .slice XA SL.length xc] 49) = W2 := ⟨_, rfl⟩
    have x2 : IB W2 w1.heap.size 65536 (.slice XA SL.length xc) := hW2 ▸ IB.new w1 _ _
    have b2 : Below w1.heap.size w1 W2 := by subst hW2; exact (Below.refl _ w1).alloc (Nat.le_refl _) _
    have s2 : W2.heap.size = w1.heap.size + 1 := by subst hW2; simp
    have HX2 := Lib.hid x2
    have HB2 := Lib.hid (hb1.trans (b2.mono s1))
    have HS2 := Lib.hid (Sl.In.below hS b2)
    have HWF := Lib.hid hwf
    have HMB := Lib.hid hmb
    have HE0 := Lib.hid hE0
    have HW2 := Lib.hid hW2
    obtain ⟨c0, c1⟩ := x2.cells
    clear hS hb1 b2 x2 hwf hmb hE0 hW2
    go_wp2_with fail
    rw [HW2.out]
    refine (irmay_any 65536 HS2.out (by omega) HWF.out (by omega)).mono ?_
    rintro e w3 ⟨rfl, hb3⟩
    rw [HMB.out]
    have s3 := hb3.size
    have HB3 := Lib.hid (HB2.out.trans (hb3.mono HB2.out.size))
    have HX3 := Lib.hid (HX2.out.below hb3 HX2.out.lt)
    have HS3 := Lib.hid (Sl.In.below HS2.out (hb3.mono (by omega)))
    clear c0 c1 hb3
    obtain ⟨c0, c1⟩ := HX3.out.cells
    go_wp2_with fail
    refine (irload_any 65536 ByteArray.empty (by decide) HS3.out (by omega) HWF.out (by omega)).mono ?_
    rintro r w4 ⟨A4, d4, rfl, hb4, hM4, hn4⟩
    rw [HE0.out]
    obtain ⟨R, hR⟩ : ∃ R, R = (imMc 65536 SL ByteArray.empty).home A4 d4 := ⟨_, rfl⟩
    rw [← hR]
    have hlR : R.x.length = 32 := by rw [hR]; exact imMc_len _ _ _
    have hpc : R.pc = 65536 := by
      rw [hR]
      unfold imMc
      rw [if_pos HE0.out]; rfl
    have HB4 := Lib.hid (HB3.out.trans (hb4.mono HB3.out.size))
    obtain ⟨W5, h5, s5, x5, b5, _⟩ := mach_more w4
    obtain ⟨W6, h6, x6, s6, b6, _⟩ := x5.lay rfl R hlR
    have HB6 := Lib.hid ((HB4.out.trans (b5.mono HB4.out.size)).trans (b6.mono HB4.out.size))
    obtain ⟨q0, -⟩ := x6.tail hlR
    rw [hpc] at q0
    clear c0 c1 hb4 hM4 hn4 hR x5 b5 x6 b6 hpc
    go_wp2
    go_ret
    exact ⟨rfl, HB6.out⟩
end Go.Proofs.YtajhehmkdlebbaaDoor.Pl
namespace Go.Proofs.YtajhehmkdlebbaaDoor.Pl
open Go.ChangeShapes Go.WideShapes Go.ChangeAt Go.RowKit Go.Deep
set_option maxRecDepth 100000
/-- r is the first symbol of a name, or below 0 -/
def FindR (S : List SymD) (n : ByteArray) (f : Bool) (r : Int) : Prop :=
  (∃ (k : Nat) (hk : k < S.length), r = k ∧ (S[k]).name = n ∧ (S[k]).fn = f ∧ ∀ j (hj : j < S.length), j < k → ¬ ((S[j]).name = n ∧ (S[j]).fn = f)) ∨ (r = -1 ∧ ∀ j (hj : j < S.length), ¬ ((S[j]).name = n ∧ (S[j]).fn = f))
set_option maxHeartbeats 1000000 in
theorem find_any {A : Option Addr} {cap : Nat} {S : List SymD} {w : World} {B : Nat} (n : ByteArray) (f : Bool) (hS : (⟨A, cap, S⟩ : Sl SymD).In w B 3 SymD.cells) (hB : B ≤ w.heap.size) (hlen : S.length ≤ 140737488351232) :
    Calls Tryd.prog 32 #[.slice A S.length cap, .string n, .bool f] w fun e w' => ∃ r : Int, e = .returned (.int .i64 r) ∧ FindR S n f r ∧ Below w.heap.size w w' := by
  have HS := Lib.hid hS
  clear hS
  go_enter Tryd.func32, Tryd.ntmps32
  go_wp2
  go_loopw [7] (fun i wr => ∃ k : Nat, k ≤ S.length ∧ i = .int .i64 k ∧ Hid (∀ j (hj : j < S.length), j < k → ¬ ((S[j]).name = n ∧ (S[j]).fn = f)) ∧ Below w.heap.size w wr) (fun i _ => S.length - (intOf i).toNat)
  case atStart => exact ⟨0, Nat.zero_le _, rfl, fun j hj h0 => absurd h0 (Nat.not_lt_zero _), Below.refl _ _⟩
  case round =>
    obtain ⟨k, hk, rfl, hno, hbw⟩ := hrel
    by_cases hlt : k < S.length
    · obtain ⟨b, off, h1, h2, h3⟩ := Sl.In.at_ (Sl.In.below HS.out (hbw.mono hB)) hlt
      subst h1
      have c0 := h3 0 _ rfl
      have c1 := h3 1 _ rfl
      have c2 := h3 2 _ rfl
      clear h3
      have i1 : (0 : Int) ≤ (k : Int) := by omega
      have i2 : (k : Int) < (S.length : Int) := by omega
      obtain ⟨nm, hnm⟩ : ∃ x, x = (S[k]).name := ⟨_, rfl⟩
      obtain ⟨fk, hfk⟩ : ∃ x, x = (S[k]).fn := ⟨_, rfl⟩
      have c0' : wr.cell? ⟨b, off + k * 3, none⟩ = some (.string nm) := by rw [hnm]; exact c0
      have c2' : wr.cell? ⟨b, off + k * 3 + 2, none⟩ = some (.bool fk) := by rw [hfk]; exact c2
      have HE := Lib.hid (And.intro hnm hfk)
      clear c0 c1 c2 hnm hfk
      by_cases hn : nm = n
      · subst hn
        by_cases hf : fk = f
        · subst hf
          have HF : Hid (FindR S nm fk k) := .inl ⟨k, hlt, rfl, HE.out.1.symm, HE.out.2.symm, hno.out⟩
          go_wp2
          go_ret
          exact ⟨k, rfl, HF.out, hbw⟩
        · have hf' : (fk == f) = false := by simpa using hf
          have HN : Hid (∀ j (hj : j < S.length), j < k + 1 → ¬ ((S[j]).name = nm ∧ (S[j]).fn = f)) := fun j hj hjk h => by
            by_cases e : j = k
            · subst e; exact hf (HE.out.2.trans h.2)
            · exact hno.out j hj (by omega) h
          go_wp2
          exact ⟨⟨k + 1, hlt, by go_num, HN, hbw⟩, by simp [intOf]; omega⟩
      · have hn2 : ¬ nm.toList = n.toList := fun h => hn (by
          rw [ByteArray.toList_eq, ByteArray.toList_eq] at h
          exact ByteArray.ext (Array.toList_inj.1 h))
        have hn' : (nm.toList == n.toList) = false := by simpa using hn2
        have HN : Hid (∀ j (hj : j < S.length), j < k + 1 → ¬ ((S[j]).name = n ∧ (S[j]).fn = f)) := fun j hj hjk h => by
          by_cases e : j = k
          · subst e; exact hn (HE.out.1.trans h.1)
          · exact hno.out j hj (by omega) h
        go_wp2
        exact ⟨⟨k + 1, hlt, by go_num, HN, hbw⟩, by simp [intOf]; omega⟩
    · obtain rfl : k = S.length := by omega
      go_wp2
      go_ret
      exact ⟨-1, rfl, .inr ⟨rfl, fun j hj => hno.out j hj hj⟩, hbw⟩
end Go.Proofs.YtajhehmkdlebbaaDoor.Pl
namespace Go.Proofs.YtajhehmkdlebbaaDoor.Pl
open Go.ChangeShapes Go.WideShapes Go.ChangeAt Go.RowKit Go.Deep
theorem firstS_at {n : ByteArray} {f : Bool} : ∀ {S : List SymD} {k : Nat} (hk : k < S.length), (S[k]).name = n → (S[k]).fn = f → (∀ j (hj : j < S.length), j < k → ¬ ((S[j]).name = n ∧ (S[j]).fn = f)) → firstS S n f = some S[k]
  | s :: S, 0, _, h1, h2, _ => by
    subst h1 h2
    exact firstS_hit s S
  | s :: S, k + 1, hk, h1, h2, h3 => by
    rw [firstS_miss (s := s) S (h3 0 (Nat.zero_lt_succ _) (Nat.zero_lt_succ _))]
    exact firstS_at (S := S) (k := k) (by simpa using hk) h1 h2 (fun j hj hjk => h3 (j + 1) (by simpa using hj) (by omega))
theorem firstS_none {n : ByteArray} {f : Bool} : ∀ {S : List SymD}, (∀ j (hj : j < S.length), ¬ ((S[j]).name = n ∧ (S[j]).fn = f)) → firstS S n f = none
  | [], _ => rfl
  | s :: S, h => by
    rw [firstS_miss (s := s) S (h 0 (Nat.zero_lt_succ _))]
    exact firstS_none fun j hj => h (j + 1) (by simpa using hj)
theorem findR_some {S : List SymD} {n : ByteArray} {f : Bool} {r : Int} (h : FindR S n f r) (hs : (firstS S n f).isSome = true) : ∃ (k : Nat) (hk : k < S.length), r = k ∧ firstS S n f = some S[k] := by
  rcases h with ⟨k, hk, rfl, h1, h2, h3⟩ | ⟨_, h⟩
  · exact ⟨k, hk, rfl, firstS_at hk h1 h2 h3⟩
  · rw [firstS_none h] at hs; cases hs
end Go.Proofs.YtajhehmkdlebbaaDoor.Pl
namespace Go.Proofs.YtajhehmkdlebbaaDoor
open Go.ChangeShapes Go.WideShapes Go.ChangeAt Go.RowKit Go.Deep Go.Maps Go.WideMaps
section
variable {l : List Sg}
theorem byteAt_add {M : List Pg} {a perm : Int} {q : Nat} (h0 : 0 ≤ a) (h1 : a + q ≤ 18446744073709551615) : byteAt M a perm q = byteAt M (a + q) perm 0 := by
  have e1 : (a + (q : Int)) % 18446744073709551616 = a + q := by omega
  have e0 : (a + (q : Int) + ((0 : Nat) : Int)) % 18446744073709551616 = a + q := by omega
  cases hx : idxF M (a + q) with
  | none => rw [byteAt_far e0.symm hx, byteAt_far e1.symm hx]
  | some i => rw [byteAt_some e1.symm (by omega) hx (idxF_lt hx), byteAt_some e0.symm (by omega) hx (idxF_lt hx)]
theorem imE_byteP {e : Int} (h : imE e l = 0) (hwf : ∀ s ∈ l, s.ok) {j : Nat} (hj : j < l.length) {T perm : Int} (h1 : (l[j]).at_ ≤ T) (h2 : T < (l[j]).at_ + (l[j]).size) (hg : ∀ p : Pg, p.perm = (l[j]).perm → grantB p perm = true) :
    byteAt (ldM l l.length) T perm 0 = some (if T - (l[j]).at_ < ((l[j]).data.size : Int) then byteI (l[j]).data (T - (l[j]).at_).toNat else 0) := by
  obtain ⟨p, hp, e1, e2, e3⟩ := ldM_cover (imE_segs h) (Nat.le_refl _) (imE_zero h).2 hj hj h1 h2
  have hb := ldM_byte (imE_segs h) hwf (Nat.le_refl _) (imE_zero h).2 hj hj h1 h2
  have hr := ldM_right l l.length
  have w1 := (hwf _ (List.getElem_mem hj)).1
  obtain ⟨b1, b2, b3, b4, b5, b6⟩ := (imE_segs h).at_ hj
  have hT : 0 ≤ T ∧ T ≤ 18446744073709551615 := by omega
  rw [byteAt_page hr hT hp ⟨e2, e3⟩, if_pos (grant0 p)] at hb
  rw [byteAt_page hr hT hp ⟨e2, e3⟩, if_pos (hg p e1)]
  exact hb
/-- n bytes of a segment, read as a number: no error, and each byte of the number is the segment's -/
theorem imE_load {e : Int} (h : imE e l = 0) (hwf : ∀ s ∈ l, s.ok) {j : Nat} (hj : j < l.length) {o n : Nat} {perm : Int} (hn : 1 ≤ n ∧ n ≤ 8) (ho : o + n ≤ (l[j]).data.size) (hg : ∀ p : Pg, p.perm = (l[j]).perm → grantB p perm = true) :
    loadE (ldM l l.length) ((l[j]).at_ + o) n perm = 0 ∧ ∃ V, loadN (ldM l l.length) ((l[j]).at_ + o) perm n = some V ∧ loadV (ldM l l.length) ((l[j]).at_ + o) n perm = V ∧ ∀ k, k < n → V / 256 ^ k % 256 = byteI (l[j]).data (o + k) := by
  have w1 := (hwf _ (List.getElem_mem hj)).1
  obtain ⟨b1, b2, b3, b4, b5, b6⟩ := (imE_segs h).at_ hj
  have hr := rightB_in (ldM_right l l.length)
  have hbyte : ∀ k, k < n → byteAt (ldM l l.length) ((l[j]).at_ + o) perm k = some (byteI (l[j]).data (o + k)) := fun k hk => by
    rw [byteAt_add (by omega) (by omega), imE_byteP h hwf hj (by omega) (by omega) hg, if_pos (by omega)]
    congr 2
    omega
  have hs : (loadN (ldM l l.length) ((l[j]).at_ + o) perm n).isSome = true := loadN_some_iff fun k hk => by rw [hbyte k hk]; rfl
  obtain ⟨V, hV⟩ := Option.isSome_iff_exists.1 hs
  have hc : (1 ≤ (n : Int) ∧ (n : Int) ≤ 8) ∧ rightB (ldM l l.length) = true := ⟨by omega, hr⟩
  refine ⟨?_, V, hV, ?_, fun k hk => ?_⟩
  · unfold loadE
    rw [if_pos hc, Int.toNat_natCast, hV]; rfl
  · unfold loadV
    rw [if_pos hc, Int.toNat_natCast, hV]; rfl
  · have h3 := loadN_digit hV k hk
    rw [hbyte k hk] at h3
    exact (Option.some.inj h3).symm
end
theorem digits_eq {V W : Int} : ∀ {n : Nat}, (∀ k, k < n → V / 256 ^ k % 256 = W / 256 ^ k % 256) → V % 256 ^ n = W % 256 ^ n
  | 0, _ => by simp [Int.emod_one]
  | n + 1, h => by rw [mod_pow_step, mod_pow_step, digits_eq (fun k hk => h k (Nat.lt_succ_of_lt hk)), h n (Nat.lt_succ_self n)]
/-- the number that so many bytes are -/
theorem imE_num {l : List Sg} {e : Int} (h : imE e l = 0) (hwf : ∀ s ∈ l, s.ok) {j : Nat} (hj : j < l.length) {o n : Nat} {perm W : Int} (hn : 1 ≤ n ∧ n ≤ 8) (ho : o + n ≤ (l[j]).data.size) (hg : ∀ p : Pg, p.perm = (l[j]).perm → grantB p perm = true)
    (hW : 0 ≤ W ∧ W < 256 ^ n) (hb : ∀ k, k < n → byteI (l[j]).data (o + k) = W / 256 ^ k % 256) :
    loadE (ldM l l.length) ((l[j]).at_ + o) n perm = 0 ∧ loadV (ldM l l.length) ((l[j]).at_ + o) n perm = W := by
  obtain ⟨h1, V, h2, h3, h4⟩ := imE_load h hwf hj hn ho hg
  refine ⟨h1, h3.trans ?_⟩
  have h5 := digits_eq (V := V) (W := W) (n := n) fun k hk => (h4 k hk).trans (hb k hk)
  obtain ⟨h6, h7⟩ := loadN_bd h2
  rwa [Int.emod_eq_of_lt h6 h7, Int.emod_eq_of_lt hW.1 hW.2] at h5
end Go.Proofs.YtajhehmkdlebbaaDoor
namespace Go.Proofs.YtajhehmkdlebbaaDoor.Pl
open Go.ChangeShapes Go.WideShapes Go.ChangeAt Go.RowKit Go.Deep Go.Proofs.YtajhehmkdlebbaaDoor
theorem flat_byte {α : Type} {c : α → List UInt8} {m : Nat} (hc : ∀ x, (c x).length = m) : ∀ {l : List α} {i : Nat} (hi : i < l.length) {k : Nat}, k < m → (l.flatMap c)[m * i + k]? = (c l[i])[k]?
  | x :: l, 0, _, k, hk => by
    simp only [List.flatMap_cons, Nat.mul_zero, Nat.zero_add, List.getElem_cons_zero]
    exact List.getElem?_append_left (by rw [hc]; exact hk)
  | x :: l, i + 1, hi, k, hk => by
    simp only [List.flatMap_cons, List.getElem_cons_succ]
    rw [List.getElem?_append_right (by rw [hc, Nat.mul_succ]; omega), hc, ← flat_byte hc (l := l) (i := i) (by simpa using hi) hk]
    congr 1
    rw [Nat.mul_succ]; omega
theorem glob_byte {G : List GlobD} {i k : Nat} (hi : i < G.length) (hk : k < 8) : byteI ⟨(globL G).toArray⟩ (8 * i + k) = (G[i]).init / 256 ^ k % 256 := by
  rw [byteI_list]
  show (((globL G)[8 * i + k]?.getD 0).toNat : Int) = _
  unfold globL
  rw [flat_byte (m := 8) (fun g => by simp [bytesV]) hi hk, ← byteI_list, bytesV_byte _ hk]
theorem ops_byte {l : List OpD} {i k : Nat} (hi : i < l.length) (hk : k < 4) : byteI ⟨(bytesL l).toArray⟩ (4 * i + k) = (l[i]).word / 256 ^ k % 256 := by
  rw [byteI_list]
  show (((bytesL l)[4 * i + k]?.getD 0).toNat : Int) = _
  unfold bytesL
  rw [flat_byte (m := 4) (fun o => by simp [bytes4]) hi hk]
  match k, hk with
  | 0, _ => simp [bytes4, byteN_toNat]
  | 1, _ => simp [bytes4, byteN_toNat]
  | 2, _ => simp [bytes4, byteN_toNat]
  | 3, _ => simp [bytes4, byteN_toNat]
end Go.Proofs.YtajhehmkdlebbaaDoor.Pl
namespace Go.Proofs.YtajhehmkdlebbaaDoor.Pl
open Go.ChangeShapes Go.WideShapes Go.ChangeAt Go.RowKit Go.Deep Go.Maps Go.WideMaps Go.Proofs.YtajhehmkdlebbaaDoor
theorem ImgOk.call {L : List CodeD} {G : List GlobD} (h : ImgOk L G) (hsum : sumOps L ≤ 1048576) (hm : G.length ≤ 3518437208784) (h2 : 2 < (opsA L G).length) :
    loadE (ldM (segL L G) (segL L G).length) 65544 4 1 = 0 ∧ loadV (ldM (segL L G) (segL L G).length) 65544 4 1 = ((opsA L G)[2]).word := by
  obtain ⟨hwf, hE, _⟩ := h.segs hsum hm
  have h0 : 0 < (segL L G).length := by unfold segL; simp
  have hS : (segL L G)[0] = ⟨65536, 5, bytesS (opsA L G), ((bytesS (opsA L G)).size : Nat)⟩ := rfl
  have hall : (opsA L G).all OpD.may = true := List.all_eq_true.2 fun o ho => h.ops o ho
  have hbs : bytesS (opsA L G) = ⟨(bytesL (opsA L G)).toArray⟩ := by unfold bytesS; rw [if_pos hall]
  have hsz : (bytesS (opsA L G)).size = 4 * (opsA L G).length := by rw [hbs, ba_size]; simp [bytesL_len]
  have hw := word_nn (List.all_eq_true.1 hall _ (List.getElem_mem h2))
  have hr := imE_num hE hwf h0 (o := 8) (n := 4) (perm := 1) (W := ((opsA L G)[2]).word) (by omega) (by rw [hS]; show 8 + 4 ≤ (bytesS (opsA L G)).size; omega)
    (fun p hp => by rw [hS] at hp; unfold grantB; rw [show p.perm = 5 from hp]; kernel_rfl) (by constructor <;> omega)
    (fun k hk => by rw [hS]; show byteI (bytesS (opsA L G)) (8 + k) = _; rw [hbs]; exact ops_byte h2 hk)
  rw [hS] at hr
  exact hr
theorem ImgOk.glob {L : List CodeD} {G : List GlobD} (h : ImgOk L G) (hsum : sumOps L ≤ 1048576) (hm : G.length ≤ 3518437208784) {i : Nat} (hi : i < G.length) (hwi : 0 ≤ (G[i]).init ∧ (G[i]).init ≤ 18446744073709551615) :
    loadE (ldM (segL L G) (segL L G).length) (upI (textI L) + ((8 * i : Nat) : Int)) 8 4 = 0 ∧ loadV (ldM (segL L G) (segL L G).length) (upI (textI L) + ((8 * i : Nat) : Int)) 8 4 = (G[i]).init := by
  obtain ⟨hwf, hE, _⟩ := h.segs hsum hm
  have e : segL L G = [⟨65536, 5, bytesS (opsA L G), ((bytesS (opsA L G)).size : Nat)⟩, ⟨upI (textI L), 6, ⟨(globL G).toArray⟩, 8 * (G.length : Int)⟩, ⟨upI (dataI L G.length), 6, ByteArray.empty, 8192⟩] := by
    unfold segL segD; rw [if_pos (by omega)]; rfl
  have h0 : 1 < (segL L G).length := by rw [e]; simp
  have hS : (segL L G)[1] = ⟨upI (textI L), 6, ⟨(globL G).toArray⟩, 8 * (G.length : Int)⟩ := by simp [e]
  have hsz : (⟨(globL G).toArray⟩ : ByteArray).size = 8 * G.length := by rw [ba_size]; simp [globL_len]
  have hr := imE_num hE hwf h0 (o := 8 * i) (n := 8) (perm := 4) (W := (G[i]).init) (by omega) (by rw [hS]; show 8 * i + 8 ≤ (⟨(globL G).toArray⟩ : ByteArray).size; omega)
    (fun p hp => by rw [hS] at hp; unfold grantB; rw [show p.perm = 6 from hp]; kernel_rfl) (by constructor <;> omega)
    (fun k hk => by rw [hS]; exact glob_byte hi hk)
  rw [hS] at hr
  exact hr
end Go.Proofs.YtajhehmkdlebbaaDoor.Pl
namespace Go.Proofs.YtajhehmkdlebbaaDoor
theorem takeV_self {k : Nat} {rd a b imm : Int} (hm : mayB k rd a b imm = true) : takeV (wordI k rd a b imm) = .agg #[.int .i64 k, .int .i64 rd, .int .i64 a, .int .i64 b, .int .i64 imm] ∧ takeE (wordI k rd a b imm) = 0 := by
  obtain ⟨_, p1, p2, p3, p4⟩ := hit_self (mayB_out hm)
  unfold takeV takeE
  rw [take_word (mayB_out hm)]
  simp only [p1, p2, p3, p4]
  exact ⟨trivial, trivial⟩
end Go.Proofs.YtajhehmkdlebbaaDoor
namespace Go.Proofs.YtajhehmkdlebbaaDoor.Pl
open Go.ChangeShapes Go.WideShapes Go.ChangeAt Go.RowKit Go.Deep Go.Maps Go.WideMaps Go.Proofs.YtajhehmkdlebbaaDoor
/-- the jump's number leads to main -/
theorem main_hit {M : Int} (h : 0 ≤ M ∧ M ≤ 18446744073709551615) :
    IntKind.u64.wrap (65544 + IntKind.u64.wrap (wrap64 (IntKind.u64.wrap (IntKind.u64.wrap (M - 65536) - 8)))) = M := by
  obtain ⟨q1, h1⟩ := u64_cong (M - 65536)
  obtain ⟨q2, h2⟩ := u64_cong (IntKind.u64.wrap (M - 65536) - 8)
  obtain ⟨q3, h3⟩ := wrap64_cong (IntKind.u64.wrap (IntKind.u64.wrap (M - 65536) - 8))
  obtain ⟨q4, h4⟩ := u64_cong (wrap64 (IntKind.u64.wrap (IntKind.u64.wrap (M - 65536) - 8)))
  rw [u64_same (y := M) (q1 + q2 + q3 + q4) (by rw [h4, h3, h2, h1]; omega)]
  omega
/-- a global's symbol -/
theorem allS_glob {L : List CodeD} {G : List GlobD} (hsum : sumOps L ≤ 1048576) (hm : G.length ≤ 3518437208784) {i : Nat} (hi : i < G.length) :
    (allS L G)[L.length + i]? = some ⟨(G[i]).name, upI (textI L) + ((8 * i : Nat) : Int), false⟩ := by
  have h1 := text_exact hsum
  obtain ⟨h2, h3⟩ := data_exact hsum hm
  have hs := symsL_at_g (L := L) hi
  rw [symG_at hi] at hs
  have he : (upI (textI L) + 8 * (i : Int)) % 18446744073709551616 = upI (textI L) + ((8 * i : Nat) : Int) := by omega
  rw [he] at hs
  exact hs
theorem glob_bd {L : List CodeD} (hsum : sumOps L ≤ 1048576) {i : Nat} (hi : i < 3518437208784) : 0 ≤ upI (textI L) + ((8 * i : Nat) : Int) ∧ upI (textI L) + ((8 * i : Nat) : Int) ≤ 18446744073709551615 := by
  have h1 := text_exact hsum
  have h2 := (data_exact hsum (m := 0) (by omega)).2
  rw [h2, h1]
  clear h1 h2
  have h3 : 0 ≤ 65556 + 4 * (sumOps L : Int) + 255 ∧ 65556 + 4 * (sumOps L : Int) + 255 ≤ 5000000 := by omega
  generalize 65556 + 4 * (sumOps L : Int) + 255 = s at h3 ⊢
  have h4 := Int.ediv_mul_le s (show (256 : Int) ≠ 0 by decide)
  have h5 : 0 ≤ s / 256 := Int.ediv_nonneg h3.1 (by decide)
  generalize s / 256 = q at h4 h5 ⊢
  omega
theorem wrap_len {a b : Nat} (h : a ≤ 2199023255488) (h2 : b ≤ 3518437208784) : IntKind.i64.wrap ((a : Int) + (b : Int)) = (a : Int) + (b : Int) := by
  rw [IntKind.wrap_i64]; omega
theorem to_len (a b : Nat) : ((a : Int) + (b : Int)).toNat = a + b := by omega
end Go.Proofs.YtajhehmkdlebbaaDoor.Pl
namespace Go.Proofs.YtajhehmkdlebbaaDoor.Pl
open Go.ChangeShapes Go.WideShapes Go.ChangeAt Go.RowKit Go.Deep Go.Maps Go.WideMaps Go.Proofs.YtajhehmkdlebbaaDoor
set_option maxRecDepth 100000
attribute [-go_sem] loadVar storeVar
@[go_sem] theorem svOp (a : Addr) (v : Value) : Go.storeVar 23 a v = (do
  if v.cells.size ≠ (← sizeOf 23) then stuck "storeVar: the value has not the size of the variable"
  storeCells a v.cells.toList) := rfl
set_option maxHeartbeats 2000000 in
theorem placeholds_any {A A2 : Option Addr} {cap gc : Nat} {L : List CodeD} {G : List GlobD} {w : World} (hT : Tab w) (hL : Codes w w.heap.size A cap L) (hG : Globs w w.heap.size A2 gc G) (hsum : sumOps L ≤ 1048576) (hsok : ∀ s ∈ allS L G, s.ok) {i : Int} (hi : -9223372036854775808 ≤ i ∧ i ≤ 9223372036854775807) :
    Calls Tryd.prog 14 #[.slice A L.length cap, .slice A2 G.length gc, .int .i64 i] w fun r w' => r = .returned (.bool true) ∧ Below w.heap.size w w' := by
  have hlen := hL.len
  have hlenG := hG.len
  have hlL : L.length ≤ 2199023255488 := by omega
  have hlG : G.length ≤ 3518437208784 := by omega
  have HT := Lib.hid hT
  have HL := Lib.hid hL
  have HG := Lib.hid hG
  have HSOK := Lib.hid hsok
  clear hT hL hG hsok
  go_enter Tryd.func14, Tryd.ntmps14
  go_wp2_with fail
  refine (shown_any _).mono ?_
  rintro e w0 ⟨rfl, rfl⟩
  go_wp2_with fail
  refine (few_any HL.out (by omega)).mono ?_
  rintro e w0 ⟨rfl, rfl⟩
  obtain ⟨fw, hfw⟩ : ∃ b, b = fewB L G.length := ⟨_, rfl⟩
  rw [← hfw]
  clear hfw
  go_wp2_with fail
  refine (image_any HT.out HL.out HG.out (Nat.le_refl _) hsum HSOK.out).mono ?_
  rintro e w1 ⟨v, E, rfl, hb1, hbad, hgood⟩
  have s1 := hb1.size
  by_cases hE : E = 0
  rotate_left
  · obtain rfl := hbad hE
    have gE : (E != 0) = true := by simpa using hE
    clear hgood hbad
    cases fw <;> (go_wp2; go_ret; exact ⟨rfl, hb1.alloc hb1.size _⟩)
  subst hE
  obtain ⟨XA, xc, rfl, hS, hOK⟩ := hgood rfl
  clear hgood hbad
  cases fw with
  | false => go_wp2; go_ret; exact ⟨rfl, hb1.alloc hb1.size _⟩
  | true =>
    obtain ⟨hwf, hE0, hl3⟩ := hOK.segs hsum (by omega)
    have hmb := hOK.may
    obtain ⟨SL, hSL⟩ : ∃ SL, SL = segL L G := ⟨_, rfl⟩
    rw [← hSL] at hwf hE0 hl3 hmb hS ⊢
    have HSL := Lib.hid hSL
    have HOK := Lib.hid hOK
    clear hSL hOK
    obtain ⟨W2, hW2⟩ : ∃ W2, w1.alloc (.cells #[.int .u64 65536, .slice XA SL.length xc] 49) = W2 := ⟨_, rfl⟩
    have x2 : IB W2 w1.heap.size 65536 (.slice XA SL.length xc) := hW2 ▸ IB.new w1 _ _
    have b2 : Below w1.heap.size w1 W2 := by subst hW2; exact (Below.refl _ w1).alloc (Nat.le_refl _) _
    have s2 : W2.heap.size = w1.heap.size + 1 := by subst hW2; simp
    have HX2 := Lib.hid x2
    have HB2 := Lib.hid (hb1.trans (b2.mono s1))
    have HS2 := Lib.hid (Sl.In.below hS b2)
    have HWF := Lib.hid hwf
    have HMB := Lib.hid hmb
    have HE0 := Lib.hid hE0
    have HW2 := Lib.hid hW2
    obtain ⟨c0, c1⟩ := x2.cells
    clear hS hb1 b2 x2 hwf hmb hE0 hW2
    go_wp2_with fail
    rw [HW2.out]
    refine (irload_any 65536 ByteArray.empty (by decide) HS2.out (by omega) HWF.out (by omega)).mono ?_
    rintro r w4 ⟨A4, d4, rfl, hb4, hM4, hn4⟩
    rw [HE0.out]
    obtain ⟨R, hR⟩ : ∃ R, R = (imMc 65536 SL ByteArray.empty).home A4 d4 := ⟨_, rfl⟩
    rw [← hR]
    have hlR : R.x.length = 32 := by rw [hR]; exact imMc_len _ _ _
    have hpc : R.pc = 65536 := by
      rw [hR]
      unfold imMc
      rw [if_pos HE0.out]; rfl
    have HB4 := Lib.hid (HB2.out.trans (hb4.mono HB2.out.size))
    obtain ⟨W5, h5, s5, x5, b5, _⟩ := mach_more w4
    obtain ⟨W6, h6, x6, s6, b6, _⟩ := x5.lay rfl R hlR
    have HB6 := Lib.hid ((HB4.out.trans (b5.mono HB4.out.size)).trans (b6.mono HB4.out.size))
    have HX6 := Lib.hid x6
    have HR := Lib.hid hR
    have HM6 := Lib.hid (show Mem W6 w4.heap.size A4 d4 (imMc 65536 SL ByteArray.empty).mem from Sl.In.below hM4 (b5.trans b6))
    clear c0 c1 hb4 hM4 hn4 hR x5 b5 x6 b6 hpc
    go_wp2_with fail
    refine (syms_read (HL.out.below HB6.out) (HG.out.below HB6.out) HB6.out.size).mono ?_
    rintro e w7 ⟨SA, sc, rfl, hS7, hb7⟩
    have HB7 := Lib.hid (HB6.out.trans (hb7.mono HB6.out.size))
    have HX7 := Lib.hid (HX6.out.below hb7 HX6.out.lt)
    have HS7 := Lib.hid (show (⟨SA, sc, allS L G⟩ : Sl SymD).In w7 w7.heap.size 3 SymD.cells from hS7)
    have hb7' := Lib.hid hb7
    clear hS7 hb7
    have hsl : (allS L G).length = L.length + G.length := symsL_len L G _ _
    have hfd := find_any ⟨#[109, 97, 105, 110]⟩ true HS7.out (Nat.le_refl _) (by omega)
    rw [hsl] at hfd
    have HFD := Lib.hid hfd
    clear hfd
    go_wp2_with fail
    refine HFD.out.mono ?_
    rintro e w8 ⟨r, rfl, hfr, hb8⟩
    obtain ⟨k, hkl, rfl, hk1⟩ := findR_some hfr HOK.out.main
    have HK1 := Lib.hid hk1
    have HB8 := Lib.hid (HB7.out.trans (hb8.mono HB7.out.size))
    have HX8 := Lib.hid (HX7.out.below hb8 HX7.out.lt)
    have HS8 := Lib.hid ((Sl.In.below HS7.out hb8).more hb8.size)
    have hmm : (imMc 65536 SL ByteArray.empty).mem = ldM SL SL.length := imMc_mem HE0.out
    have hRm : R.mem.length = (ldM SL SL.length).length ∧ R.a = A4 ∧ R.cap = d4 := by rw [HR.out, ← hmm]; exact ⟨rfl, rfl, rfl⟩
    have hq := (HX8.out.tail hlR).2.1
    rw [hRm.1, hRm.2.1, hRm.2.2] at hq
    have HM8 := Lib.hid (show Mem w8 w8.heap.size A4 d4 (ldM SL SL.length) from hmm ▸ (Sl.In.below (Sl.In.below HM6.out (hb7'.out.mono (by omega))) (hb8.mono (by have := hb7'.out.size; omega))).more (by have := hb7'.out.size; have := hb8.size; omega))
    have h2 : 2 < (opsA L G).length := by rw [opsA_len]; omega
    have HCL := Lib.hid (HOK.out.call hsum (by omega) h2)
    have HLM := Lib.hid (show (ldM SL SL.length).length ≤ 140737488351232 by have := (ldM_right SL SL.length).1; omega)
    rw [← HSL.out] at HCL
    have HRM := Lib.hid hRm
    clear hfr hk1 hb8 hmm hRm
    go_wp2_with fail
    refine (rload_any 65544 4 1 (by decide) (by decide) HM8.out (Nat.le_refl _) (ldM_ok HWF.out _) HLM.out).mono ?_
    rintro e w9 ⟨rfl, hb9⟩
    rw [HCL.out.1, HCL.out.2]
    have hmo : mayB ((29 : Nat) : Int) 1 0 0 (wrap64 (IntKind.u64.wrap (IntKind.u64.wrap (atI (firstS (allS L G) mainS true) - 65536) - 8))) = true := HOK.out.ops _ (List.getElem_mem h2)
    have hop : ((opsA L G)[2]).word = wordI ((29 : Nat) : Int) 1 0 0 (wrap64 (IntKind.u64.wrap (IntKind.u64.wrap (atI (firstS (allS L G) mainS true) - 65536) - 8))) := rfl
    rw [hop]
    have hwb := word_bd (mayB_out hmo)
    have HTV := Lib.hid (takeV_self hmo)
    obtain ⟨WD, hWD⟩ : ∃ WD, wordI ((29 : Nat) : Int) 1 0 0 (wrap64 (IntKind.u64.wrap (IntKind.u64.wrap (atI (firstS (allS L G) mainS true) - 65536) - 8))) = WD := ⟨_, rfl⟩
    rw [hWD] at hwb HTV ⊢
    have ew : IntKind.u32.wrap WD = WD := by rw [IntKind.wrap_u32]; omega
    have HB9 := Lib.hid (HB8.out.trans (hb9.mono HB8.out.size))
    have HS9 := Lib.hid ((Sl.In.below HS8.out hb9).more hb9.size)
    have HX9 := Lib.hid (HX8.out.below hb9 HX8.out.lt)
    have HM9 := Lib.hid (show Mem w9 w9.heap.size A4 d4 (ldM SL SL.length) from (Sl.In.below HM8.out hb9).more hb9.size)
    clear hb9 hq hop hmo hWD
    go_wp2_with fail
    refine (rtake_any WD w9 hwb).mono ?_
    rintro e w10 ⟨rfl, hb10⟩
    rw [HTV.out.1, HTV.out.2]
    obtain ⟨IM, hIM⟩ : ∃ IM, wrap64 (IntKind.u64.wrap (IntKind.u64.wrap (atI (firstS (allS L G) mainS true) - 65536) - 8)) = IM := ⟨_, rfl⟩
    rw [hIM]
    have hk2 : k < (allS L G).length := hkl
    have hat : atI (firstS (allS L G) mainS true) = ((allS L G)[k]).at_ := by rw [show firstS (allS L G) mainS true = _ from HK1.out]; rfl
    have hMb := u64_bd (HSOK.out _ (List.getElem_mem hk2)).2
    have hit : IntKind.u64.wrap (65544 + IntKind.u64.wrap IM) = ((allS L G)[k]).at_ := by rw [← hIM, hat]; exact main_hit hMb
    obtain ⟨M, hM⟩ : ∃ M, ((allS L G)[k]).at_ = M := ⟨_, rfl⟩
    rw [hM] at hit
    have HM10 := Lib.hid (show Mem w10 w10.heap.size A4 d4 (ldM SL SL.length) from (Sl.In.below HM9.out hb10).more hb10.size)
    have HS10 := Lib.hid ((Sl.In.below HS9.out hb10).more hb10.size)
    have HX10 := Lib.hid (HX9.out.below hb10 HX9.out.lt)
    have HB10 := Lib.hid (HB9.out.trans (hb10.mono HB9.out.size))
    obtain ⟨W11, hW11⟩ : ∃ W11, w10.alloc (.cells #[.int .i64 29, .int .i64 1, .int .i64 0, .int .i64 0, .int .i64 IM] 23) = W11 := ⟨_, rfl⟩
    have b11 : Below w10.heap.size w10 W11 := by subst hW11; exact (Below.refl _ w10).alloc (Nat.le_refl _) _
    have e0 : W11.cell? ⟨w10.heap.size, 0, none⟩ = some (.int .i64 29) := by subst hW11; exact cells_new _ [.int .i64 29, .int .i64 1, .int .i64 0, .int .i64 0, .int .i64 IM] 23 _ rfl rfl 0 (.int .i64 29) rfl
    have e4 : W11.cell? ⟨w10.heap.size, 4, none⟩ = some (.int .i64 IM) := by subst hW11; exact cells_new _ [.int .i64 29, .int .i64 1, .int .i64 0, .int .i64 0, .int .i64 IM] 23 _ rfl rfl 4 (.int .i64 IM) rfl
    have s11 : W11.heap.size = w10.heap.size + 1 := by subst hW11; simp
    have HS11 := Lib.hid (Sl.In.below HS10.out b11)
    have HM11 := Lib.hid (show Mem W11 w10.heap.size A4 d4 (ldM SL SL.length) from Sl.In.below HM10.out b11)
    have HX11 := Lib.hid (HX10.out.below b11 HX10.out.lt)
    have HB11 := Lib.hid (HB10.out.trans (b11.mono HB10.out.size))
    obtain ⟨sb, so, rfl, hsb, hsc, -⟩ := sym_cells HS11.out (List.getElem?_eq_getElem hk2)
    rw [hM] at hsc
    have HW11 := Lib.hid hW11
    clear hat hMb hIM hW11 b11 hb10
    have t0 : decide ((k : Int) < 0) = false := decide_eq_false (by omega)
    have i1 : (0 : Int) ≤ (k : Int) := by omega
    have i2 : (k : Int) < ((L.length + G.length : Nat) : Int) := by omega
    have i3 : (k : Int) < (L.length : Int) + (G.length : Int) := by omega
    clear hM HK1 HCL hk2 hkl h2 hsl
    go_wp2_with fail
    rw [HW11.out]
    go_quiet (fail)
    clear e0 e4 hit hsc t0 i1 i2 i3
    obtain ⟨W12, hW12⟩ : ∃ W12, W11.drewN nq = W12 := ⟨_, rfl⟩
    have s12 : W12.heap.size = w10.heap.size + 1 := by rw [← hW12]; exact s11
    have HBD := Lib.hid (show Below w.heap.size w W12 from hW12 ▸ below_drewN HB11.out nq)
    rw [hW12]
    by_cases hi0 : i < 0
    · have g : decide (i < 0) = true := decide_eq_true hi0
      go_wp2
      go_ret
      exact ⟨rfl, HBD.out⟩
    have g0 : decide (i < 0) = false := decide_eq_false hi0
    obtain ⟨i, rfl⟩ := Int.eq_ofNat_of_zero_le (Int.not_lt.1 hi0)
    by_cases hil : G.length ≤ i
    · have g : ((G.length : Nat) : Int) ≤ (i : Int) := by omega
      go_wp2
      go_ret
      exact ⟨rfl, HBD.out⟩
    have hlt : i < G.length := by omega
    have g1 : ¬ ((G.length : Nat) : Int) ≤ (i : Int) := by omega
    have hsd := sym_cells HS11.out (allS_glob hsum (by omega) hlt)
    obtain ⟨b', o', he, -, hsd, -⟩ := hsd
    obtain ⟨rfl, rfl⟩ : b' = sb ∧ o' = so := by
      simp only [Option.some.injEq, Addr.mk.injEq, and_true] at he
      exact ⟨he.1.symm, he.2.symm⟩
    clear he
    have hGL := HOK.out.glob hsum (by omega) hlt (u64_bd (HG.out.2.2 _ (List.getElem_mem hlt)).2.2)
    rw [← HSL.out] at hGL
    have hatb := glob_bd hsum (show i < 3518437208784 by omega)
    obtain ⟨AT, hAT⟩ : ∃ AT, upI (textI L) + ((8 * i : Nat) : Int) = AT := ⟨_, rfl⟩
    rw [hAT] at hGL hsd hatb
    have HGL := Lib.hid hGL
    obtain ⟨ab, ao, rfl, hab, hac⟩ := HG.out.1.at_ hlt
    have hci := hac 3 _ rfl
    have HCI := Lib.hid hci
    have k1 := wrap_len hlL (Nat.le_of_lt (Nat.lt_of_lt_of_le hlt hlG))
    have k2 := to_len L.length i
    have hwx := HX11.out.lt
    have HC : Hid (MB W12.drew w4.heap.size R ∧ W12.drew.cell? ⟨b', o' + (L.length + i) * 3 + 1, none⟩ = some (.int .u64 AT)) := hW12 ▸ ⟨(HX11.out.drew nq).drew 1, hsd⟩
    have HMD := Lib.hid (show Mem W12.drew w10.heap.size A4 d4 (ldM SL SL.length) from hW12 ▸ Sl.In.below HM11.out ((below_drewN (Below.refl _ W11) nq).drew))
    obtain ⟨hR1, hR2, hR3⟩ := HRM.out
    have hwz : w10.heap.size ≤ W12.drew.heap.size := by show w10.heap.size ≤ W12.heap.size; omega
    have hz1 : w4.heap.size < W12.heap.size := by omega
    have hz2 : b' < W12.heap.size := by have := hsb; omega
    have i4 : ((L.length : Nat) : Int) + (i : Int) < (L.length : Int) + (G.length : Int) := by omega
    have i5 : (0 : Int) ≤ ((L.length : Nat) : Int) + (i : Int) := by omega
    clear hGL hac hci hAT hsd hi hi0 hW12
    go_wp2_with fail
    refine wp_region_noPanic ?_
    refine wp_region_held_drew (S := fun w' => MB w' w4.heap.size R ∧ w'.cell? ⟨b', o' + (L.length + i) * 3 + 1, none⟩ = some (.int .u64 AT)) (by kernel_rfl) HC.out (fun hHeld => ?_)
    refine takeH (i := 0) (d := some 109) (v := ?_) rfl (by kernel_rfl) (by kernel_rfl) (by kernel_rfl) (fun _ _ _ h => h) rfl (Or.inl ⟨by rfl, ?_⟩) hHeld ?_
    rotate_left
    · intro w' hSw; go_simp; (try with_reducible rfl)
    (try simp only [Act.put, List.setIfInBounds_toArray, List.set_cons_zero, List.set_cons_succ])
    refine takeH (i := 1) (d := some 110) (v := ?_) rfl (by kernel_rfl) (by kernel_rfl) (by kernel_rfl) (fun _ _ _ h => h) rfl (Or.inl ⟨by rfl, ?_⟩) hHeld ?_
    rotate_left
    · intro w' hSw; obtain ⟨hm, c1⟩ := hSw; have q : w'.cell? ⟨w4.heap.size, 33, none⟩ = some (.slice A4 (ldM SL SL.length).length d4) := by have := (hm.tail hlR).2.1; rw [hR1, hR2, hR3] at this; exact this
      go_simp; (try with_reducible rfl)
    (try simp only [Act.put, List.setIfInBounds_toArray, List.set_cons_zero, List.set_cons_succ])
    refine takeH (i := 2) (d := some 111) (v := ?_) rfl (by kernel_rfl) (by kernel_rfl) (by kernel_rfl) (fun _ _ _ h => h) rfl (Or.inl ⟨by rfl, ?_⟩) hHeld ?_
    rotate_left
    · intro w' hSw; go_simp; (try with_reducible rfl)
    (try simp only [Act.put, List.setIfInBounds_toArray, List.set_cons_zero, List.set_cons_succ])
    refine takeH (i := 3) (d := some 112) (v := ?_) rfl (by kernel_rfl) (by kernel_rfl) (by kernel_rfl) (fun _ _ _ h => h) rfl (Or.inl ⟨by rfl, ?_⟩) hHeld ?_
    rotate_left
    · intro w' hSw; go_simp; (try with_reducible rfl)
    (try simp only [Act.put, List.setIfInBounds_toArray, List.set_cons_zero, List.set_cons_succ])
    refine takeH (i := 4) (d := some 113) (v := ?_) rfl (by kernel_rfl) (by kernel_rfl) (by kernel_rfl) (fun _ _ _ h => h) rfl (Or.inl ⟨by rfl, ?_⟩) hHeld ?_
    rotate_left
    · intro w' hSw; go_simp; (try with_reducible rfl)
    (try simp only [Act.put, List.setIfInBounds_toArray, List.set_cons_zero, List.set_cons_succ])
    refine takeH (i := 5) (d := some 114) (v := ?_) rfl (by kernel_rfl) (by kernel_rfl) (by kernel_rfl) (fun _ _ _ h => h) rfl (Or.inl ⟨by rfl, ?_⟩) hHeld ?_
    rotate_left
    · intro w' hSw; go_simp; (try with_reducible rfl)
    (try simp only [Act.put, List.setIfInBounds_toArray, List.set_cons_zero, List.set_cons_succ])
    refine takeH (i := 6) (d := some 115) (v := .int .i64 ((L.length : Int) + (i : Int))) rfl (by kernel_rfl) (by kernel_rfl) (by kernel_rfl) (fun _ _ _ h => h) rfl (Or.inl ⟨by rfl, ?_⟩) hHeld ?_
    · intro w' hSw; go_simp
    (try simp only [Act.put, List.setIfInBounds_toArray, List.set_cons_zero, List.set_cons_succ])
    refine takeH (i := 7) (d := some 116) (v := .pointer (some ⟨b', o' + (L.length + i) * 3, none⟩)) rfl (by kernel_rfl) (by kernel_rfl) (by kernel_rfl) (fun _ _ _ h => h) rfl (Or.inl ⟨by rfl, ?_⟩) hHeld ?_
    · intro w' hSw; go_simp
    (try simp only [Act.put, List.setIfInBounds_toArray, List.set_cons_zero, List.set_cons_succ])
    refine takeH (i := 8) (d := some 117) (v := ?_) rfl (by kernel_rfl) (by kernel_rfl) (by kernel_rfl) (fun _ _ _ h => h) rfl (Or.inl ⟨by rfl, ?_⟩) hHeld ?_
    rotate_left
    · intro w' hSw; go_simp; (try with_reducible rfl)
    (try simp only [Act.put, List.setIfInBounds_toArray, List.set_cons_zero, List.set_cons_succ])
    refine takeH (i := 9) (d := some 118) (v := ?_) rfl (by kernel_rfl) (by kernel_rfl) (by kernel_rfl) (fun _ _ _ h => h) rfl (Or.inl ⟨by rfl, ?_⟩) hHeld ?_
    rotate_left
    · intro w' hSw; obtain ⟨hm, c1⟩ := hSw; go_simp; (try with_reducible rfl)
    (try simp only [Act.put, List.setIfInBounds_toArray, List.set_cons_zero, List.set_cons_succ])
    refine wpAnyH_ready (rs := [10]) (by kernel_rfl) (by simp) ?_
    refine AllReadyH.cons rfl (fun K hK => ?_) AllReadyH.nil
    go_simp
    go_at_call 33
    with_reducible refine (rload_any (L := ldM SL SL.length) AT 8 4 hatb (by decide) HMD.out hwz (ldM_ok HWF.out _) HLM.out).mono ?_
    rintro e w13 ⟨rfl, hb13⟩
    have HB13 := Lib.hid (HBD.out.drew.trans (hb13.mono (show w.heap.size ≤ W12.heap.size from HBD.out.size)))
    have HS13 := Lib.hid (And.intro (hHeld.1.below hb13 hHeld.1.lt) ((hb13.cell (p := ⟨b', o' + (L.length + i) * 3 + 1, none⟩) hz2).trans hHeld.2))
    rw [HGL.out.1, HGL.out.2]
    clear hb13
    go_wp2_with fail
    refine hK.out _ _ HS13.out (fun hHeld => ?_)
    clear hK K
    (try simp only [Act.put, List.setIfInBounds_toArray, List.set_cons_zero, List.set_cons_succ])
    refine takeH (i := 11) (d := some 108) (v := ?_) rfl (by kernel_rfl) (by kernel_rfl) (by kernel_rfl) (fun _ _ _ h => h) rfl (Or.inl ⟨by rfl, ?_⟩) hHeld ?_
    rotate_left
    · intro w' hSw; go_simp; (try with_reducible rfl)
    (try simp only [Act.put, List.setIfInBounds_toArray, List.set_cons_zero, List.set_cons_succ])
    refine takeH (i := 12) (d := some 120) (v := ?_) rfl (by kernel_rfl) (by kernel_rfl) (by kernel_rfl) (fun _ _ _ h => h) rfl (Or.inl ⟨by rfl, ?_⟩) hHeld ?_
    rotate_left
    · intro w' hSw; go_simp; (try with_reducible rfl)
    (try simp only [Act.put, List.setIfInBounds_toArray, List.set_cons_zero, List.set_cons_succ])
    refine takeH (i := 13) (d := some 121) (v := ?_) rfl (by kernel_rfl) (by kernel_rfl) (by kernel_rfl) (fun _ _ _ h => h) rfl (Or.inl ⟨by rfl, ?_⟩) hHeld ?_
    rotate_left
    · intro w' hSw; go_simp; (try with_reducible rfl)
    (try simp only [Act.put, List.setIfInBounds_toArray, List.set_cons_zero, List.set_cons_succ])
    refine takeH (i := 14) (d := some 19) (v := ?_) rfl (by kernel_rfl) (by kernel_rfl) (by kernel_rfl) (fun _ _ _ h => h) rfl (Or.inl ⟨by rfl, ?_⟩) hHeld ?_
    rotate_left
    · intro w' hSw; go_simp; (try with_reducible rfl)
    (try simp only [Act.put, List.setIfInBounds_toArray, List.set_cons_zero, List.set_cons_succ])
    refine takeH (i := 15) (d := some 20) (v := ?_) rfl (by kernel_rfl) (by kernel_rfl) (by kernel_rfl) (fun _ _ _ h => h) rfl (Or.inl ⟨by rfl, ?_⟩) hHeld ?_
    rotate_left
    · intro w' hSw; go_simp; (try with_reducible rfl)
    (try simp only [Act.put, List.setIfInBounds_toArray, List.set_cons_zero, List.set_cons_succ])
    refine wpAnyH_done (by kernel_rfl) ?_ _
    refine NoPanic.normal ?_
    have c13 := (HB13.out.cell (p := ⟨ab, ao + i * 4 + 3, none⟩) hab).trans HCI.out
    go_wp2
    go_ret
    exact ⟨rfl, HB13.out⟩
end Go.Proofs.YtajhehmkdlebbaaDoor.Pl
namespace Go.Proofs.YtajhehmkdlebbaaDoor.Pl
open Go.ChangeShapes Go.WideShapes Go.ChangeAt Go.RowKit Go.Deep
theorem bulk_pos {H : Type} (d : DataW H) : 1 ≤ Rows.uptoBulk d := by
  cases d with
  | lit l => cases l <;> simp [Rows.uptoBulk]
  | _ => simp [Rows.uptoBulk]
/-- as Opens, and the data's bulk is no less than what is told of x -/
def OpensM {α : Type} (P : Program) (w : World) (t : TypeId) (cells : α → List Value) (good : α → Prop) (meas : α → Nat) : Prop :=
  ∀ {H : Type} (enc : TypeId × Value → H) (fuel : Nat) (cs : List Value) (y : DataW H × List MemPlace),
    DataW.trod enc P w 0 (fun _ => true) true fuel t cs = some y → (∀ n ∈ y.1.weights P t, n ≤ reachBytes) → ∃ x, cs = cells x ∧ good x ∧ meas x ≤ Rows.uptoBulk y.1
theorem Opens.one {α : Type} {P : Program} {w : World} {t : TypeId} {cells : α → List Value} {good : α → Prop} (h : Opens P w t cells good) : OpensM P w t cells good (fun _ => 1) := by
  intro H enc fuel cs y h1 h2
  obtain ⟨x, h3, h4⟩ := h enc fuel cs y h1 h2
  exact ⟨x, h3, h4, bulk_pos _⟩
def sumM {α : Type} (meas : α → Nat) : List α → Nat
  | [] => 0
  | x :: l => meas x + sumM meas l
theorem sumM_append {α : Type} (meas : α → Nat) : ∀ (l m : List α), sumM meas (l ++ m) = sumM meas l + sumM meas m
  | [], m => by simp [sumM]
  | x :: l, m => by simp only [List.cons_append, sumM, sumM_append meas l m]; omega
theorem bulkAll_append {H : Type} : ∀ (l m : List (DataW H)), Rows.uptoBulkAll (l ++ m) = Rows.uptoBulkAll l + Rows.uptoBulkAll m
  | [], m => by simp [Rows.uptoBulkAll]
  | x :: l, m => by simp only [List.cons_append, Rows.uptoBulkAll, bulkAll_append l m]; omega
theorem sumM_le {α H : Type} (meas : α → Nat) (D : Nat → DataW H) : ∀ q (l : List α), l.length = q → (∀ k x, l[k]? = some x → meas x ≤ Rows.uptoBulk (D k)) → sumM meas l ≤ Rows.uptoBulkAll ((List.range q).map D) := by
  intro q
  induction q with
  | zero => intro l hl _; obtain rfl := List.eq_nil_of_length_eq_zero hl; simp [sumM, Rows.uptoBulkAll]
  | succ q ih =>
    intro l hl h
    obtain ⟨m, x, rfl⟩ : ∃ m x, l = m ++ [x] := by
      rcases List.eq_nil_or_concat l with rfl | ⟨m, x, rfl⟩
      · simp at hl
      · exact ⟨m, x, by simp⟩
    have hm : m.length = q := by simpa using hl
    have h1 := ih m hm (fun k y hk => h k y (by rw [List.getElem?_append_left ((List.getElem?_eq_some_iff.1 hk).1)]; exact hk))
    have h2 := h q x (by rw [List.getElem?_append_right (by omega), hm]; simp)
    rw [sumM_append, List.range_succ, List.map_append, bulkAll_append]
    simp only [sumM, List.map_cons, List.map_nil, Rows.uptoBulkAll]
    omega
section
variable {P : Program} {w : World} {t e : TypeId}
theorem opens_sliceM {α : Type} {cells : α → List Value} {good : α → Prop} {meas : α → Nat} {size bytes : Nat} (ht : P.underlying t = some (.slice e)) (hC : P.cellsOf e = size) (hB : P.bytesOf e = bytes) (hs : 1 ≤ size)
    (hlen : ∀ x, (cells x).length = size) (hel : OpensM P w e cells good meas) :
    OpensM P w t (fun s : Sl α => [s.v]) (Sl.Good w w.heap.size size bytes cells good) (fun s => sumM meas s.l) := by
  intro H enc fuel cs y h hw
  rcases open_slice ht h with ⟨rfl, rfl⟩ | ⟨a, len, cap, m, n, D, Pl, rfl, _, hl, hm, hmm, rfl, hx⟩
  · exact ⟨⟨none, 0, []⟩, rfl, ⟨⟨by simp, fun k x hk => by simp at hk⟩, by simp, by simp, by simp⟩, by simp [sumM]⟩
  · simp only [if_true] at hmm
    subst hmm
    have hwt : ∀ i, i < m → ∀ q ∈ (D i).weights P e, q ≤ reachBytes := by
      intro i hi q hq
      refine hw q ?_
      simp only [DataW.weights, ht, List.mem_cons, List.mem_append]
      by_cases hil : i < len
      · exact .inr (.inl (weights_elem (List.mem_map.2 ⟨i, List.mem_range.2 hil, rfl⟩) q hq))
      · exact .inr (.inr (weights_elem (List.mem_map.2 ⟨i - len, List.mem_range.2 (by omega), by rw [show len + (i - len) = i by omega]⟩) q hq))
    have hcells : ∀ i, i < m → ∃ x, (∃ cs', w.cells? 0 (a.add (i * P.cellsOf e)) (P.cellsOf e) = some cs' ∧ cs' = cells x) ∧ good x ∧ meas x ≤ Rows.uptoBulk (D i) := by
      intro i hi
      obtain ⟨cs', h1, h2⟩ := hx i hi
      obtain ⟨x, h3, h4, h5⟩ := hel enc n cs' _ h2 (hwt i hi)
      exact ⟨x, ⟨cs', h1, h3⟩, h4, h5⟩
    have hcap : m * bytes ≤ 140737488351232 := by
      have := hw (m * bytes) (by
        simp only [DataW.weights, ht, List.mem_cons]
        left
        simp only [List.length_map, List.length_range, hB]
        rw [show len + (m - len) = m by omega])
      simpa [reachBytes] using this
    have main : ∀ q, q ≤ m → ∃ l : List α, l.length = q ∧ (∀ k x, l[k]? = some x → (∃ cs', w.cells? 0 (a.add (k * P.cellsOf e)) (P.cellsOf e) = some cs' ∧ cs' = cells x) ∧ good x ∧ meas x ≤ Rows.uptoBulk (D k)) := by
      intro q
      induction q with
      | zero => exact fun _ => ⟨[], rfl, fun k x hk => by simp at hk⟩
      | succ q ih =>
        intro hq
        obtain ⟨l, h1, h2⟩ := ih (by omega)
        obtain ⟨x, hx'⟩ := hcells q (by omega)
        refine ⟨l ++ [x], by simp [h1], fun k z hk => ?_⟩
        by_cases hkq : k < q
        · rw [List.getElem?_append_left (by omega)] at hk
          exact h2 k z hk
        · rw [List.getElem?_append_right (by omega)] at hk
          have : k = q := by
            have hlt : k - l.length < 1 := by
              have := (List.getElem?_eq_some_iff.1 hk).1
              simpa using this
            omega
          subst this
          rw [h1] at hk
          simp at hk
          subst hk
          exact hx'
    obtain ⟨l, h1, h2⟩ := main len hl
    refine ⟨⟨some a, m, l⟩, by simp [Sl.v, h1], ⟨⟨by rw [h1]; exact hl, fun k x hk => ?_⟩, hcap, hm, fun x hx' => ?_⟩, ?_⟩
    · obtain ⟨⟨cs', hc, rfl⟩, _⟩ := h2 k x hk
      obtain ⟨_, hlen', hat⟩ := World.cells?_some hc
      rw [hC] at hc hat hlen'
      have hkl : k < l.length := (List.getElem?_eq_some_iff.1 hk).1
      obtain ⟨⟨cs0, hc0, rfl⟩, _⟩ := h2 0 _ (List.getElem?_eq_getElem (by omega))
      obtain ⟨_, hlen0, hat0⟩ := World.cells?_some hc0
      rw [hC] at hat0
      have h00 := hat0 0 (by omega)
      rw [hC] at hlen0
      rw [List.getElem?_eq_getElem (by omega)] at h00
      have ha0 : (a.add (0 * size)).add 0 = a := by simp [Addr.add]
      rw [ha0] at h00
      obtain ⟨hb, hsp⟩ := cell_block_lt h00
      obtain ⟨b, off, sp⟩ := a
      simp only at hsp hb
      subst hsp
      refine ⟨b, off, rfl, hb, fun j u hu => ?_⟩
      have hj : j < size := by
        have := (List.getElem?_eq_some_iff.1 hu).1
        rw [hlen x] at this; exact this
      have := hat j hj
      rw [hu] at this
      rw [← this]
      congr 1
      unfold Addr.add
      by_cases e1 : k * size = 0 <;> by_cases e2 : j = 0 <;> simp [e1, e2, Nat.add_assoc]
    · obtain ⟨k, hk⟩ := List.getElem?_of_mem hx'
      exact (h2 k x hk).2.1
    · have := sumM_le meas D len l h1 (fun k x hk => (h2 k x hk).2.2)
      simp only [Rows.uptoBulk]
      omega
end
theorem bulk_mem {H : Type} : ∀ {l : List (DataW H)} {d : DataW H}, d ∈ l → Rows.uptoBulk d ≤ Rows.uptoBulkAll l
  | x :: l, d, h => by
    simp only [Rows.uptoBulkAll]
    rcases List.mem_cons.1 h with rfl | h
    · omega
    · have := bulk_mem h; omega
theorem sumM_one {α : Type} : ∀ l : List α, sumM (fun _ => 1) l = l.length
  | [] => rfl
  | _ :: l => by simp only [sumM, sumM_one l, List.length_cons]; omega
theorem sumM_ops : ∀ l : List CodeD, sumM (fun c => c.ops.l.length) l = sumOps l
  | [] => rfl
  | _ :: l => by simp only [sumM, sumOps, sumM_ops l]
section
variable {w : World}
theorem opens_opsM : OpensM Tryd.prog w 71 (fun s : Sl OpD => [s.v]) (Sl.Good w w.heap.size 5 40 OpD.cells OpD.ok) (fun s => s.l.length) := by
  intro H enc fuel cs y h hw
  obtain ⟨x, h1, h2, h3⟩ := opens_sliceM (P := Tryd.prog) (w := w) Tryd.underlying71 pcells23 (bytes := 40) (by kernel_rfl) (by omega) (fun _ => rfl) (Opens.one opens_op) enc fuel cs y h hw
  exact ⟨x, h1, h2, by have h4 : sumM (fun _ => 1) x.l ≤ Rows.uptoBulk y.1 := h3; rw [sumM_one] at h4; exact h4⟩
theorem opens_codeM : OpensM Tryd.prog w 91 CodeD.cells (CodeD.In w w.heap.size) (fun c => c.ops.l.length) := by
  intro H enc fuel cs y h hw
  obtain ⟨x, h1, h2⟩ := opens_code enc fuel cs y h hw
  refine ⟨x, h1, h2, ?_⟩
  obtain ⟨ys, n, _, rfl, hlen, hyl, hf⟩ := DataW.trod_struct Tryd.underlying91 h
  have h4 := hf 1 _ rfl
  have hyl3 : ys.length = 3 := hyl
  have hys : ys[1]? = some (ys[1]'(by omega)) := List.getElem?_eq_getElem (by omega)
  have hc1 : Tryd.prog.cellsOf 71 = 1 := by kernel_rfl
  rw [hys, h1] at h4
  have h5 : DataW.trod enc Tryd.prog w 0 (fun _ => true) true n 71 [x.ops.v] = some (ys[1]'(by omega)) := by
    have h6 : DataW.trod enc Tryd.prog w 0 (fun _ => true) true n 71 (List.take (Tryd.prog.cellsOf 71) (List.drop 1 x.cells)) = some (ys[1]'(by omega)) := h4
    rw [hc1] at h6
    exact h6
  obtain ⟨z, h7, _, h8⟩ := opens_opsM enc n _ _ h5 (fun q hq => hw q (by
    simp only [DataW.weights, Tryd.underlying91]
    exact DataW.weights_mem_each (j := 1) (d := (ys[1]'(by omega)).1) rfl (by simp [hys]) q hq))
  have h9 : x.ops.l.length = z.l.length := by
    have h10 : x.ops.v = z.v := by simpa using h7
    unfold Sl.v at h10
    injection h10
  show x.ops.l.length ≤ Rows.uptoBulk (DataW.agg (List.map (fun x => x.fst) ys))
  have hm := bulk_mem (l := List.map (fun x => x.fst) ys) (d := (ys[1]'(by omega)).1) (List.mem_map.2 ⟨_, List.getElem_mem (by omega), rfl⟩)
  have h8' : z.l.length ≤ Rows.uptoBulk (ys[1]'(by omega)).1 := h8
  simp only [Rows.uptoBulk]
  omega
theorem opens_codesM : OpensM Tryd.prog w 44 (fun s : Sl CodeD => [s.v]) (Sl.Good w w.heap.size 3 64 CodeD.cells (CodeD.In w w.heap.size)) (fun s => sumOps s.l) := by
  intro H enc fuel cs y h hw
  obtain ⟨x, h1, h2, h3⟩ := opens_sliceM (P := Tryd.prog) (w := w) Tryd.underlying44 pcells91 (bytes := 64) (by kernel_rfl) (by omega) (fun _ => rfl) opens_codeM enc fuel cs y h hw
  exact ⟨x, h1, h2, by have h4 : sumM (fun c => c.ops.l.length) x.l ≤ Rows.uptoBulk y.1 := h3; rw [sumM_ops] at h4; exact h4⟩
end
theorem arg_sliceM {α H : Type} {P : Program} {w : World} {enc : TypeId × Value → H} {t e : TypeId} {v : Value} {d : DataW H} {p : List MemPlace} {r : Reach} {base : Nat} {g : Sl α → Prop} {m : Sl α → Nat} (ht : P.underlying t = some (.slice e)) (ho : OpensM P w t (fun s : Sl α => [s.v]) g m) (hv : Value.okWide P w r base t v) (h : DataW.Trod enc P w 0 (fun _ => true) true t v d p) (hw : ∀ n ∈ d.weights P t, n ≤ reachBytes) : ∃ s : Sl α, v = s.v ∧ g s ∧ m s ≤ Rows.uptoBulk d := by
  obtain ⟨a, len, cap, rfl⟩ := okWide_slice ht hv
  obtain ⟨fuel, hf⟩ := h
  obtain ⟨s, h1, h2, h3⟩ := ho enc fuel _ _ hf hw
  exact ⟨s, by simpa [Value.cells] using h1, h2, h3⟩
end Go.Proofs.YtajhehmkdlebbaaDoor.Pl
