/- page.Fill, page.Store. page.Store. The reference's put. The reference's Store. page.Same and the reference's: are two memories the same? -/
import Derived.Test.YtajhehmkdlebbaaDoorQPgSet
import Derived.Laws.StructEq
namespace Go.Proofs.YtajhehmkdlebbaaDoor
open Go.ChangeShapes Go.WideShapes Go.ChangeAt Go.RowKit Go.Deep Go.Maps Go.WideMaps
set_option maxRecDepth 100000
theorem MemV.of {w : World} {B : Nat} {A : Option Addr} {cap : Nat} {L : List Pg} (hL : Mem w B A cap L) (hA : A = none → cap = 0) (hB : B ≤ w.heap.size) : MemV w (.slice A L.length cap) L := ⟨A, cap, rfl, hL.more hB, hA⟩
theorem MemV.below {w w' : World} {v : Value} {L : List Pg} (h : MemV w v L) (hb : Below w.heap.size w w') : MemV w' v L := by
  obtain ⟨A, cap, rfl, h1, h2⟩ := h
  exact ⟨A, cap, rfl, (Sl.In.below h1 hb).more hb.size, h2⟩
noncomputable def fillE (l : List Pg) (at_ : Int) (s : ByteArray) : Int := if rightB l = true then (if (loadN l at_ 0 s.size).isSome then 0 else 8) else 1
noncomputable def fillX (l : List Pg) (at_ : Int) (s : ByteArray) : List Pg := if rightB l = true ∧ (loadN l at_ 0 s.size).isSome = true then wrL l at_ s s.size else l
def bytesV (v : Int) (n : Nat) : ByteArray := ⟨((List.range n).map fun i => UInt8.ofNat ((v / 256 ^ i) % 256).toNat).toArray⟩
noncomputable def storeX (l : List Pg) (at_ n v : Int) : List Pg := if ((1 ≤ n ∧ n ≤ 8) ∧ rightB l = true) ∧ (loadN l at_ 2 n.toNat).isSome = true then wrL l at_ (bytesV v n.toNat) n.toNat else l
theorem bytesV_size (v : Int) (n : Nat) : (bytesV v n).size = n := by rw [ba_size]; simp [bytesV]
end Go.Proofs.YtajhehmkdlebbaaDoor
namespace Go.Proofs.YtajhehmkdlebbaaDoor
open Go.ChangeShapes Go.WideShapes Go.ChangeAt Go.RowKit Go.Deep Go.Maps Go.WideMaps
set_option maxRecDepth 100000
/-- the first k of a number's eight bytes, noughts behind -/
def eightL (v : Int) (k : Nat) : List UInt8 := (List.range 8).map fun i => if i < k then UInt8.ofNat ((v / 256 ^ i) % 256).toNat else 0
theorem eightL_len (v : Int) (k : Nat) : (eightL v k).length = 8 := by simp [eightL]
theorem eightL_take (v : Int) {n : Nat} (hn : n ≤ 8) : (eightL v 8).take n = (bytesV v n).data.toList := by
  refine List.ext_getElem? fun i => ?_
  rw [List.getElem?_take]
  by_cases h : i < n
  · rw [if_pos h]
    simp [eightL, bytesV, h, show i < 8 by omega]
  · rw [if_neg h, List.getElem?_eq_none (by rw [← ba_size, bytesV_size]; omega)]
theorem BytesAt.store {w : World} {b k : Nat} {l : List UInt8} (h : BytesAt w b l) (x : UInt8) : BytesAt (w.setCell ⟨b, k, none⟩ (.int .u8 (x.toNat : Int))) b (l.set k x) := by
  intro j hj
  have hj' : j < l.length := by simpa using hj
  obtain ⟨h1, h2⟩ := h j hj'
  refine ⟨?_, by rw [World.frozen?_setCell]; exact h2⟩
  by_cases e : k = j
  · subst e
    rw [World.cell?_setCell_same _ _ _ h1]
    simp
  · have hne : (⟨b, k, none⟩ : Addr) ≠ ⟨b, j, none⟩ := fun he => e (by cases he; rfl)
    rw [World.cell?_setCell_other _ _ _ _ hne, h1]
    simp [e]
theorem eightL_set (v : Int) {k : Nat} (hk : k < 8) : (eightL v k).set k (UInt8.ofNat ((v / 256 ^ k) % 256).toNat) = eightL v (k + 1) := by
  refine List.ext_getElem? fun i => ?_
  rw [List.getElem?_set]
  simp only [eightL, List.getElem?_map, List.length_map, List.length_range]
  by_cases h : k = i
  · subst h
    simp [hk]
  · simp only [h, if_false]
    by_cases h8 : i < 8
    · simp only [List.getElem?_range h8, Option.map_some, Option.some.injEq]
      by_cases h2 : i < k
      · rw [if_pos h2, if_pos (by omega)]
      · rw [if_neg h2, if_neg (by omega)]
    · simp [h8]
theorem eight_new (w : World) (v : Int) (t : TypeId) : BytesAt (w.alloc (.cells #[.int .u8 0, .int .u8 0, .int .u8 0, .int .u8 0, .int .u8 0, .int .u8 0, .int .u8 0, .int .u8 0] t)) w.heap.size (eightL v 0) := by
  intro j hj
  rw [eightL_len] at hj
  have hz : (eightL v 0)[j]'(by rw [eightL_len]; exact hj) = 0 := by simp [eightL]
  rw [hz]
  refine ⟨?_, frozen_of_row _ _ _ _ _ (heap_alloc_new w _)⟩
  rw [cell_of_row _ _ _ _ _ _ (heap_alloc_new w _)]
  match j, hj with
  | 0, _ => rfl
  | 1, _ => rfl
  | 2, _ => rfl
  | 3, _ => rfl
  | 4, _ => rfl
  | 5, _ => rfl
  | 6, _ => rfl
  | 7, _ => rfl
theorem byte_val (x : Int) : ((UInt8.ofNat (x % 256).toNat).toNat : Int) = x % 256 := by
  rw [UInt8.toNat_ofNat']; omega
theorem pow_8k (k : Nat) : (2 : Int) ^ (8 * k) = 256 ^ k := by rw [Int.pow_mul]; rfl
theorem BytesAt.take {w : World} {b : Nat} {l : List UInt8} (h : BytesAt w b l) (n : Nat) : BytesAt w b (l.take n) := by
  intro j hj
  rw [List.length_take] at hj
  rw [List.getElem_take]
  exact h j (by omega)
set_option maxHeartbeats 1000000 in
theorem store_any {A : Option Addr} {cap : Nat} {L : List Pg} {w : World} {B : Nat} (at_ n v : Int) (hat : 0 ≤ at_ ∧ at_ ≤ 18446744073709551615)
    (hL : Mem w B A cap L) (hA : A = none → cap = 0) (hB : B ≤ w.heap.size) (hwf : ∀ p ∈ L, p.ok) (hlen : L.length ≤ 140737488351232) :
    Calls Tryd.prog 45 #[.slice A L.length cap, .int .u64 at_, .int .i64 n, .int .u64 v] w fun e w' => Below w.heap.size w w' ∧ ∃ u, e = .returned (.tuple #[u, .int .i64 (loadE L at_ n 2)]) ∧ MemV w' u (storeX L at_ n v) := by
  by_cases hc : (1 ≤ n ∧ n ≤ 8) ∧ rightB L = true
  · obtain ⟨⟨h1, h8⟩, hR⟩ := hc
    obtain ⟨N, rfl⟩ := Int.eq_ofNat_of_zero_le (show 0 ≤ n by omega)
    obtain ⟨ok, hok⟩ : ∃ ok, ok = (loadN L at_ 2 (bytesV v N).size).isSome := ⟨_, rfl⟩
    obtain ⟨X, hX0⟩ : ∃ X, X = (if ok then wrL L at_ (bytesV v N) (bytesV v N).size else L) := ⟨_, rfl⟩
    have hE : loadE L at_ N 2 = if ok then 0 else 6 := by unfold loadE; rw [if_pos ⟨⟨h1, h8⟩, hR⟩, hok, bytesV_size, Int.toNat_natCast]
    have hX : storeX L at_ N v = X := by
      unfold storeX; rw [hX0, hok, bytesV_size, Int.toNat_natCast]
      by_cases h : (loadN L at_ 2 N).isSome = true
      · rw [if_pos ⟨⟨⟨h1, h8⟩, hR⟩, h⟩, if_pos h]
      · rw [if_neg (fun h' => h h'.2), if_neg h]
    have HOK : Hid ((loadN L at_ 2 (bytesV v N).size).isSome = ok) := hok.symm
    have HX0 : Hid (X = if ok then wrL L at_ (bytesV v N) (bytesV v N).size else L) := hX0
    have HE := Lib.hid hE
    have HX := Lib.hid hX
    have HR := Lib.hid hR
    have HA := Lib.hid hA
    have HWF := Lib.hid hwf
    clear hE hX hR hok hX0 hA hwf
    go_enter Tryd.func45, Tryd.ntmps45
    go_wp2_with fail
    refine (right_any hL hB HWF.out hlen).mono ?_
    rintro e w1 ⟨rfl, hb1⟩
    rw [HR.out]
    go_wp2
    go_loopw [26] (fun i wr => ∃ k : Nat, k ≤ 8 ∧ i = .int .i64 k ∧ BytesAt wr w1.heap.size (eightL v k) ∧ Below w1.heap.size w1 wr) (fun i _ => 8 - (intOf i).toNat)
    case atStart => exact ⟨0, Nat.zero_le _, rfl, eight_new _ _ _, (Below.refl _ _).alloc (Nat.le_refl _) _⟩
    case round =>
      obtain ⟨k, hk, rfl, hba, hbw⟩ := hrel
      have hHBA := Lib.hid hba
      by_cases hlt : k < 8
      · obtain ⟨c0, c1⟩ := hba k (by rw [eightL_len]; exact hlt)
        clear hba
        have i1 : (0 : Int) ≤ (k : Int) := by omega
        have i2 : (k : Int) < 8 := by omega
        go_wp2
        have hst := hHBA.out.store (k := k) (UInt8.ofNat ((v / 256 ^ k) % 256).toNat)
        rw [eightL_set v hlt, byte_val, ← pow_8k] at hst
        exact ⟨⟨k + 1, by omega, by go_num, hst, hbw.setCell (p := ⟨w1.heap.size, k, none⟩) (Nat.le_refl _) _⟩, by simp [intOf]; omega⟩
      · obtain rfl : k = 8 := by omega
        have hstr := run_bytes_str (P := Tryd.prog) wr 86 9 5 w1.heap.size 8 ((eightL v 8).take N) Tryd.underlying86 Tryd.underlying5 Tryd.underlying9 (hba.take N) N (by rw [List.length_take, eightL_len]; omega)
        rw [eightL_take v (by omega)] at hstr
        have hbs : (⟨(bytesV v N).data.toList.toArray⟩ : ByteArray) = bytesV v N := rfl
        rw [hbs] at hstr
        have hs1 := hbw.size
        have HS1 := Lib.hid hs1
        clear hba hbs
        go_wp2_with fail
        have hLr := Sl.In.below hL ((hb1.trans (hbw.mono hb1.size)).mono hB)
        have hbr := hb1.trans (hbw.mono hb1.size)
        refine (set_any ok X at_ 2 (bytesV v N) HOK HX0 hat (by rw [bytesV_size]; omega) (rightB_out HR.out) hLr HA.out (Nat.le_trans hB hbr.size) HWF.out).mono ?_
        rintro e w2 ⟨hb2, u, rfl, hu⟩
        have hbb := hbr.trans (hb2.mono hbr.size)
        cases ok with
        | true =>
          go_wp2
          go_ret2
          rw [HE.out, HX.out]
          exact ⟨hbb, u, rfl, hu⟩
        | false =>
          go_wp2
          go_ret2
          rw [HE.out, HX.out, HX0.out]
          exact ⟨hbb, _, rfl, MemV.of (Sl.In.below hL (hbb.mono hB)) HA.out (Nat.le_trans hB hbb.size)⟩
  · have hE : loadE L at_ n 2 = 1 := by unfold loadE; rw [if_neg hc]
    have hX : storeX L at_ n v = L := by unfold storeX; rw [if_neg (fun h => hc h.1)]
    have HE := Lib.hid hE
    have HX := Lib.hid hX
    have hcc : n < 1 ∨ (1 ≤ n ∧ 8 < n) ∨ ((1 ≤ n ∧ n ≤ 8) ∧ rightB L = false) := by
      by_cases c1 : 1 ≤ n
      · by_cases c2 : n ≤ 8
        · exact .inr (.inr ⟨⟨c1, c2⟩, by cases h : rightB L; rfl; exact absurd ⟨⟨c1, c2⟩, h⟩ hc⟩)
        · exact .inr (.inl ⟨c1, by omega⟩)
      · exact .inl (by omega)
    have HL := Lib.hid hL
    have HWF := Lib.hid hwf
    have HA := Lib.hid hA
    clear hc hE hX hL hwf hA
    rcases hcc with c | ⟨c, c'⟩ | ⟨⟨c, c'⟩, hR⟩
    · go_enter Tryd.func45, Tryd.ntmps45
      go_wp2
      go_ret2
      rw [HE.out, HX.out]
      exact ⟨Below.refl _ _, _, rfl, MemV.of HL.out HA.out hB⟩
    · go_enter Tryd.func45, Tryd.ntmps45
      go_wp2
      go_ret2
      rw [HE.out, HX.out]
      exact ⟨Below.refl _ _, _, rfl, MemV.of HL.out HA.out hB⟩
    · have HR := Lib.hid hR
      clear hR
      go_enter Tryd.func45, Tryd.ntmps45
      go_wp2_with fail
      refine (right_any HL.out hB HWF.out hlen).mono ?_
      rintro e w1 ⟨rfl, hb1⟩
      rw [HR.out]
      go_wp2
      go_ret2
      rw [HE.out, HX.out]
      exact ⟨hb1, _, rfl, MemV.of (Sl.In.below HL.out (hb1.mono hB)) HA.out (Nat.le_trans hB hb1.size)⟩
end Go.Proofs.YtajhehmkdlebbaaDoor
namespace Go.Proofs.YtajhehmkdlebbaaDoor
open Go.ChangeShapes Go.WideShapes Go.ChangeAt Go.RowKit Go.Deep Go.Maps Go.WideMaps
set_option maxRecDepth 100000
/-- memory with a byte in page i, o bytes behind its beginning -/
def putL (l : List Pg) (i o : Nat) (x : UInt8) : List Pg := l.modify i (fun p => { p with data := spl p.data o [x] })
theorem spl_one {d : ByteArray} {o : Nat} (h : o + 1 ≤ d.size) (x : UInt8) : (⟨(d.data.toList.set o x).toArray⟩ : ByteArray) = spl d o [x] := by
  refine ba_ext fun j => ?_
  rw [spl_at (by simpa using h)]
  simp only [List.getElem?_set, List.length_singleton]
  rw [ba_size] at h
  by_cases e : o = j
  · subst e
    rw [if_pos rfl, if_pos (by omega), if_pos (by omega)]; simp
  · rw [if_neg e, if_neg (by omega)]
/-- '[]byte(d)', a byte stored, 'string(b)' -/
theorem byte_made (w1 : World) (d : ByteArray) (hd : d.size = 256) {o : Nat} (ho : o < 256) (x : UInt8) :
    ∃ C W6, (convert 9 86 (.string d)).run Tryd.prog w1 = .ok (.slice (some ⟨w1.heap.size, 0, none⟩) 256 C) W6 ∧ Below w1.heap.size w1 W6 ∧ (∃ u, W6.cell? ⟨w1.heap.size, o, none⟩ = some (.int .u8 u)) ∧ W6.frozen? ⟨w1.heap.size, o, none⟩ = false ∧
      (convert 86 9 (.slice (some ⟨w1.heap.size, 0, none⟩) 256 C)).run Tryd.prog (W6.setCell ⟨w1.heap.size, o, none⟩ (.int .u8 (x.toNat : Int))) = .ok (.string (spl d o [x])) (W6.setCell ⟨w1.heap.size, o, none⟩ (.int .u8 (x.toNat : Int))) := by
  have hcv := run_bytes_of_string (P := Tryd.prog) w1 9 86 5 d Tryd.underlying9 Tryd.underlying86 Tryd.underlying5
  have hba := bytesAt_new w1.drew d (grownCap w1 d.size 0 5) 5
  have hdl : d.data.toList.length = 256 := by rw [← ba_size]; exact hd
  obtain ⟨k1, k2⟩ := hba o (by rw [hdl]; exact ho)
  have hba2 := hba.store (k := o) x
  have hstr := run_bytes_str (P := Tryd.prog) _ 86 9 5 w1.drew.heap.size (grownCap w1 d.size 0 5) _ Tryd.underlying86 Tryd.underlying5 Tryd.underlying9 hba2 256 (by rw [List.length_set, hdl])
  rw [spl_one (by omega) x] at hstr
  rw [hd] at hcv k1 k2 hstr
  exact ⟨_, _, hcv, ((Below.refl w1.heap.size w1).drew).alloc (Nat.le_refl _) _, ⟨_, k1⟩, k2, hstr⟩
set_option maxHeartbeats 1000000 in
theorem put_any {A : Option Addr} {cap : Nat} {L : List Pg} {w : World} {B : Nat} (to : Int) (x : UInt8) (i : Nat) (hto : 0 ≤ to ∧ to ≤ 18446744073709551615) (hi : idxF L to = some i) (hR : RightP L)
    (hL : Mem w B A cap L) (hwf : ∀ p ∈ L, p.ok) :
    Calls Tryd.prog 70 #[.slice A L.length cap, .int .u64 to, .int .u8 (x.toNat : Int)] w fun e w' => Below w.heap.size w w' ∧ ∃ v, e = .returned v ∧ OwnV w' w.heap.size v (putL L i (to - ((L[i]?).map Pg.at_).getD 0).toNat x) := by
  have hlen : L.length ≤ 140737488351232 := by have := hR.1; omega
  have hil := idxF_lt hi
  have hih := idxF_has hi hil
  have hds := right_size hR hil
  have hat := (hwf _ (List.getElem_mem hil)).1
  have HI := Lib.hid (atI_some hi)
  rw [List.getElem?_eq_getElem hil, Option.map_some, Option.getD_some]
  obtain ⟨o, ho⟩ := Int.eq_ofNat_of_zero_le (show 0 ≤ to - (L[i]).at_ by omega)
  rw [ho, Int.toNat_natCast]
  have hol : o < 256 := by omega
  have hwr : IntKind.u64.wrap (to - (L[i]).at_) = (o : Int) := by rw [IntKind.wrap_u64]; omega
  obtain ⟨b, off, rfl, hb, c0, c1, c2⟩ := Mem.pg hL hil
  obtain ⟨i0, hi0, hz0, hz1, hz2⟩ := info_parts Tryd.info41
  have HL := Lib.hid (Sl.In.flat pgCells_len (by omega) hL)
  have h1 : ∀ u ∈ L.flatMap Pg.cells, u.oneCell' = true := fun u hu => by
    obtain ⟨y, _, hy⟩ := List.mem_flatMap.1 hu
    exact Pg.one y u hy
  have H1 := Lib.hid h1
  have HLL := Lib.hid hL
  have HWF := Lib.hid hwf
  have HR := Lib.hid hR
  have HO := Lib.hid ho
  clear h1 hL hwf hR hih ho hi c0 c1 c2
  go_enter Tryd.func70, Tryd.ntmps70
  go_wp2_with fail
  refine (at_any to hto HLL.out HWF.out hlen).mono ?_
  rintro e w2 ⟨rfl, rfl⟩
  rw [HI.out]
  go_wp2_with
    (at_builtin
     refine wpList_append_own_wide _ rfl (.tmp 13) (.tmp 14) 32 rfl w.heap.size 41 i0 _ 3 32 Tryd.underlying32 hi0 hz0 hz1 hz2 rfl (by omega) _ 0 _ rfl (World.ownsRow_made w #[] 0 (Nat.le_refl _) (Nat.zero_le _) (by simp)) ⟨b, off, none⟩ L.length cap _ rfl (flat_len pgCells_len L) ?_ H1.out ?_ ?_ ?_ ?_
     rotate_right
     intro v1 w1 hown hg _
     have hw1 : Below w.heap.size w w1 := ((Below.refl _ _).alloc (Nat.le_refl _) _).grown hg (by simp) (fun k hk => Nat.le_of_eq (Option.some.inj hk))
     rw [Nat.zero_add, List.nil_append] at hown
     obtain ⟨A1, k1, rfl⟩ := own_form hown
     obtain ⟨g, rfl⟩ := own_some hown (by omega)
     have hgl := hown.lt g rfl
     have hca : w1.cell? ⟨g, i * 3, none⟩ = some (.int .u64 (L[i]).at_) := (hown.cellAt (i * 3) (by omega)).trans (flat_at (j := 0) pgCells_len (List.getElem?_eq_getElem hil) rfl)
     have hcd : w1.cell? ⟨g, i * 3 + 2, none⟩ = some (.string (L[i]).data) := (hown.cellAt (i * 3 + 2) (by omega)).trans (flat_at pgCells_len (List.getElem?_eq_getElem hil) rfl)
     obtain ⟨C, W6, hcv, hb6, ⟨uc, k1c⟩, k1f, hstr⟩ := byte_made w1 (L[i]).data hds hol x
     have g1 := (hb6.cell (p := ⟨g, i * 3, none⟩) hgl.2).trans hca
     have g2 := (hb6.cell (p := ⟨g, i * 3 + 2, none⟩) hgl.2).trans hcd
     have own6 := own_below hown hb6
     have g3 : W6.frozen? ⟨g, i * 3 + 2, none⟩ = false := own6.frozenAt _
     have HW1 := Lib.hid hw1
     have HOWN := Lib.hid own6
     have HGL := Lib.hid hgl
     have HB6 := Lib.hid hb6
     have o1 : (0 : Int) ≤ (o : Int) := by omega
     have o2 : (o : Int) < 256 := by omega
     have i1 : (0 : Int) ≤ (i : Int) := by omega
     have i2 : (i : Int) < (L.length : Int) := by omega
     have hgne : g ≠ w1.heap.size := by omega
     clear hown hg hgl hb6 own6 hw1 hca)
  go_ret
  have hw1 := HW1.out
  have hgl := HGL.out
  have hs1 := hw1.size
  refine ⟨((hw1.trans (HB6.out.mono hs1)).setCell (p := ⟨w1.heap.size, o, none⟩) hs1 _).setCell (p := ⟨g, i * 3 + 2, none⟩) hgl.1 _, _, rfl, ?_⟩
  · have h5 := ((HOWN.out.kept (grownBy_setCell1 W6 w1.heap.size o (.int .u8 (x.toNat : Int))) (.inr fun e => hgne (Option.some.inj e))).stored (i * 3 + 2) (.string (spl (L[i]).data o [x]))).1
    rw [flat_set (fun d => spl d o [x]) hil] at h5
    unfold OwnV putL
    rw [List.length_modify]
    exact h5
  case refine_1 =>
    intro j u hu
    have := HL.out j u hu
    exact ((((Below.refl w.heap.size w).alloc (Nat.le_refl _) _).cell (p := (⟨b, off, none⟩ : Addr).add j) (cell_block_lt this).1)).trans this
  case refine_2 => unfold maxLen; have := HR.out.1; omega
  case refine_3 => have := HR.out.1; omega
  case refine_4 => simp
theorem grant0 (p : Pg) : grantB p 0 = true := by
  unfold grantB
  have : bits .and .i64 p.perm 0 = 0 := by unfold bits; simp [IntWalk.i64_in]
  rw [this]; rfl
theorem wrL_at (L : List Pg) (at_ : Int) (s : ByteArray) (k i : Nat) : (((wrL L at_ s k)[i]?).map Pg.at_).getD 0 = ((L[i]?).map Pg.at_).getD 0 := by
  rw [wrL_get?]; cases L[i]? <;> rfl
theorem put_wr {L : List Pg} (hR : RightP L) {T at_ : Int} {k i : Nat} {s : ByteArray} (hi : idxF L T = some i) (hT : T = at_ + k) (hk : k < s.size) : putL (wrL L at_ s k) i (T - (((wrL L at_ s k)[i]?).map Pg.at_).getD 0).toNat s[k] = wrL L at_ s (k + 1) := by
  have hil := idxF_lt hi
  have hih := idxF_has hi hil
  rw [wrL_at, List.getElem?_eq_getElem hil, Option.map_some, Option.getD_some]
  have := wrL_spl hR hil (at_ := at_) (s := s) (n := k) (n' := k + 1) (o := (T - (L[i]).at_).toNat) (by omega) (by omega) (by omega) (by omega)
  rw [← this]
  unfold putL
  have e : List.take (k + 1 - k) (List.drop k s.data.toList) = [s[k]] := by
    have hkl : k < s.data.toList.length := by rw [← ba_size]; exact hk
    rw [show k + 1 - k = 1 by omega, List.drop_eq_getElem_cons hkl]
    rfl
  rw [e]
set_option maxHeartbeats 2000000 in
theorem rfill_any {A : Option Addr} {cap : Nat} {L : List Pg} {w : World} {B : Nat} (at_ : Int) (s : ByteArray) (hat : 0 ≤ at_ ∧ at_ ≤ 18446744073709551615) (hs : s.size ≤ 140737488351232)
    (hL : Mem w B A cap L) (hA : A = none → cap = 0) (hB : B ≤ w.heap.size) (hwf : ∀ p ∈ L, p.ok) :
    Calls Tryd.prog 37 #[.slice A L.length cap, .int .u64 at_, .string s] w fun e w' => Below w.heap.size w w' ∧ ∃ v, e = .returned (.tuple #[v, .int .i64 (fillE L at_ s)]) ∧ MemV w' v (fillX L at_ s) := by
  cases hR : rightB L with
  | false =>
    have hE : fillE L at_ s = 1 := by unfold fillE; rw [hR]; rfl
    have hX : fillX L at_ s = L := by unfold fillX; rw [if_neg (by rw [hR]; simp)]
    have HE := Lib.hid hE
    have HX := Lib.hid hX
    have HR := Lib.hid hR
    clear hE hX hR
    go_enter Tryd.func37, Tryd.ntmps37
    go_wp2_with fail
    refine (rright_any hL hB hwf).mono ?_
    rintro e w1 ⟨rfl, hb1⟩
    rw [HR.out]
    go_wp2
    go_ret2
    rw [HE.out, HX.out]
    exact ⟨hb1, _, rfl, MemV.of (Sl.In.below hL (hb1.mono hB)) hA (Nat.le_trans hB hb1.size)⟩
  | true =>
    have hRP := rightB_out hR
    have hlen : L.length ≤ 140737488351232 := by have := hRP.1; omega
    have hE : fillE L at_ s = if (loadN L at_ 0 s.size).isSome then 0 else 8 := by unfold fillE; rw [if_pos hR]
    have hX : fillX L at_ s = if (loadN L at_ 0 s.size).isSome then wrL L at_ s s.size else L := by
      unfold fillX
      by_cases h : (loadN L at_ 0 s.size).isSome = true
      · rw [if_pos ⟨hR, h⟩, if_pos h]
      · rw [if_neg (fun h' => h h'.2), if_neg h]
    have HE := Lib.hid hE
    have HX := Lib.hid hX
    have HR := Lib.hid hR
    have HRP := Lib.hid hRP
    have HA := Lib.hid hA
    have HWF := Lib.hid hwf
    have HL := Lib.hid hL
    clear hE hX hR hRP hA hwf hL
    go_enter Tryd.func37, Tryd.ntmps37
    go_wp2_with fail
    refine (rright_any HL.out hB HWF.out).mono ?_
    rintro e w1 ⟨rfl, hb1⟩
    rw [HR.out]
    go_wp2
    go_loopw [9, 10] (fun v i wr => ∃ k : Nat, k ≤ s.size ∧ i = .int .i64 k ∧ Hid (MemV wr v (wrL L at_ s k)) ∧ Hid ((loadN L at_ 0 k).isSome = true) ∧ Below w.heap.size w wr) (fun _ i _ => s.size - (intOf i).toNat)
    case atStart => exact ⟨0, Nat.zero_le _, rfl, by show MemV _ _ _; rw [wrL_zero]; exact MemV.of (Sl.In.below HL.out (hb1.mono hB)) HA.out (Nat.le_trans hB hb1.size), rfl, hb1⟩
    case round =>
      obtain ⟨k, hk, rfl, hmv, hok, hbw⟩ := hrel
      by_cases hlt : k < s.size
      · have hso := hbw.size
        obtain ⟨T, hT⟩ : ∃ T, T = IntKind.u64.wrap (at_ + (k : Int)) := ⟨_, rfl⟩
        have hT2 : T = (at_ + k) % 18446744073709551616 := by rw [hT, IntKind.wrap_u64]
        have hTb : 0 ≤ T ∧ T ≤ 18446744073709551615 := by omega
        have HT2 := Lib.hid hT2
        have hTr : IntKind.u64.wrap (at_ + (k : Int)) = T := hT.symm
        have hLr := Sl.In.below HL.out (hbw.mono hB)
        have HLR := Lib.hid hLr
        clear hT hT2 hLr
        have hnone : byteAt L at_ 0 k = none → Hid (fillE L at_ s = 8 ∧ fillX L at_ s = L) := fun hby => by
          have hN := loadN_none (l := L) (at_ := at_) (perm := 0) (n := k + 1) (by simp only [loadN, hby]; cases loadN L at_ 0 k <;> rfl) (show k + 1 ≤ s.size by omega)
          show _ ∧ _
          rw [HE.out, HX.out, hN]
          exact ⟨rfl, rfl⟩
        cases hx : idxF L T with
        | none =>
          have hN := hnone (byteAt_far HT2.out hx)
          have HI := Lib.hid (atI_no hx)
          clear hx hnone
          go_wp2_with (go_at_call 64; refine (at_any T hTb HLR.out HWF.out hlen).mono ?_; rintro e w2 ⟨rfl, rfl⟩; rw [HI.out])
          go_ret2
          rw [hN.out.1, hN.out.2]
          exact ⟨hbw, _, rfl, MemV.of HLR.out HA.out (Nat.le_trans hB hso)⟩
        | some i =>
          have hil := idxF_lt hx
          have HI := Lib.hid (atI_some hx)
          by_cases hlow : T < at_
          · have hN := hnone (byteAt_low HT2.out hlow)
            clear hx hnone
            go_wp2_with (go_at_call 64; refine (at_any T hTb HLR.out HWF.out hlen).mono ?_; rintro e w2 ⟨rfl, rfl⟩; rw [HI.out])
            go_ret2
            rw [hN.out.1, hN.out.2]
            exact ⟨hbw, _, rfl, MemV.of HLR.out HA.out (Nat.le_trans hB hso)⟩
          · have hby := byteAt_some (perm := 0) HT2.out (show at_ ≤ T by omega) hx hil
            rw [grant0, if_pos rfl] at hby
            have hTe : T = at_ + k := by have := HT2.out; omega
            have hok' : Hid ((loadN L at_ 0 (k + 1)).isSome = true) := by
              show _ = _
              have h1 := hok.out
              simp only [loadN, hby]
              cases h2 : loadN L at_ 0 k with
              | none => rw [h2] at h1; cases h1
              | some u => rfl
            obtain ⟨A1, c1, rfl, hm1, hm2⟩ := hmv.out
            have hcon := put_any T s[k] i hTb (by rw [wrL_idx]; exact hx) (wrL_right HRP.out at_ s k) hm1 (wrL_ok HWF.out at_ s k)
            rw [put_wr HRP.out hx hTe hlt, wrL_len] at hcon
            have HCON := Lib.hid hcon
            have hLl : (wrL L at_ s k).length = L.length := wrL_len _ _ _ _
            have HTE := Lib.hid hTe
            have hss : (k : Int) < (s.size : Int) := by omega
            clear hx hnone hby hcon hm1 hm2 hmv hTe
            rw [hLl]
            clear hLl
            go_wp2_with (first
              | (go_at_call 64; refine (at_any T hTb HLR.out HWF.out hlen).mono ?_; rintro e w2 ⟨rfl, rfl⟩; rw [HI.out])
              | (go_at_call 70; refine HCON.out.mono ?_; rintro e w3 ⟨hb3, v3, rfl, hown3⟩))
            exact ⟨⟨k + 1, hlt, by go_num, hown3.mem, hok', hbw.trans (hb3.mono hso)⟩, by simp [intOf]; omega⟩
      · obtain rfl : k = s.size := by omega
        obtain ⟨A1, c1, rfl, hm1, hm2⟩ := hmv.out
        go_wp2
        go_ret2
        rw [HE.out, HX.out, hok.out]
        exact ⟨hbw, _, rfl, hmv.out⟩
end Go.Proofs.YtajhehmkdlebbaaDoor
namespace Go.Proofs.YtajhehmkdlebbaaDoor
open Go.ChangeShapes Go.WideShapes Go.ChangeAt Go.RowKit Go.Deep Go.Maps Go.WideMaps
set_option maxRecDepth 100000
theorem bytesV_at (v : Int) {n k : Nat} (h : k < (bytesV v n).size) : (((bytesV v n)[k]).toNat : Int) = v / 256 ^ k % 256 := by
  have : (bytesV v n)[k] = UInt8.ofNat ((v / 256 ^ k) % 256).toNat := by
    show ((bytesV v n).data)[k] = _
    simp [bytesV]
  rw [this, byte_val]
theorem div_step (v : Int) (k : Nat) : v / 256 ^ k / 256 = v / 256 ^ (k + 1) := by
  rw [Int.pow_succ, Int.ediv_ediv, if_neg (fun h => absurd h.1 (Int.not_lt.2 (Int.le_of_lt (pow256_pos k)))), Int.sub_zero]
set_option maxHeartbeats 2000000 in
theorem rstore_any {A : Option Addr} {cap : Nat} {L : List Pg} {w : World} {B : Nat} (at_ n v : Int) (hat : 0 ≤ at_ ∧ at_ ≤ 18446744073709551615) (hv : 0 ≤ v ∧ v ≤ 18446744073709551615)
    (hL : Mem w B A cap L) (hA : A = none → cap = 0) (hB : B ≤ w.heap.size) (hwf : ∀ p ∈ L, p.ok) (hlen : L.length ≤ 140737488351232) :
    Calls Tryd.prog 47 #[.slice A L.length cap, .int .u64 at_, .int .i64 n, .int .u64 v] w fun e w' => Below w.heap.size w w' ∧ ∃ u, e = .returned (.tuple #[u, .int .i64 (loadE L at_ n 2)]) ∧ MemV w' u (storeX L at_ n v) := by
  by_cases hc : (1 ≤ n ∧ n ≤ 8) ∧ rightB L = true
  · obtain ⟨⟨h1, h8⟩, hR⟩ := hc
    obtain ⟨N, rfl⟩ := Int.eq_ofNat_of_zero_le (show 0 ≤ n by omega)
    have hRP := rightB_out hR
    have hE : loadE L at_ N 2 = if (loadN L at_ 2 N).isSome then 0 else 6 := by unfold loadE; rw [if_pos ⟨⟨h1, h8⟩, hR⟩, Int.toNat_natCast]
    have hX : storeX L at_ N v = if (loadN L at_ 2 N).isSome then wrL L at_ (bytesV v N) N else L := by
      unfold storeX; rw [Int.toNat_natCast]
      by_cases h : (loadN L at_ 2 N).isSome = true
      · rw [if_pos ⟨⟨⟨h1, h8⟩, hR⟩, h⟩, if_pos h]
      · rw [if_neg (fun h' => h h'.2), if_neg h]
    have HE := Lib.hid hE
    have HX := Lib.hid hX
    have HR := Lib.hid hR
    have HRP := Lib.hid hRP
    have HA := Lib.hid hA
    have HWF := Lib.hid hwf
    have HL := Lib.hid hL
    clear hE hX hR hRP hA hwf hL
    go_enter Tryd.func47, Tryd.ntmps47
    go_wp2_with fail
    refine (rright_any HL.out hB HWF.out).mono ?_
    rintro e w1 ⟨rfl, hb1⟩
    rw [HR.out]
    go_wp2
    go_loopw [3, 11, 12] (fun v' o i wr => ∃ (k : Nat) (V : Int), k ≤ N ∧ i = .int .i64 k ∧ v' = .int .u64 V ∧ Hid (V = v / 256 ^ k) ∧ (0 ≤ V ∧ V ≤ 18446744073709551615) ∧ Hid (MemV wr o (wrL L at_ (bytesV v N) k)) ∧ Hid ((loadN L at_ 2 k).isSome = true) ∧ Below w.heap.size w wr) (fun _ _ i _ => N - (intOf i).toNat)
    case atStart => exact ⟨0, v, Nat.zero_le _, rfl, rfl, by show v = v / 256 ^ 0; simp, hv, by show MemV _ _ _; rw [wrL_zero]; exact MemV.of (Sl.In.below HL.out (hb1.mono hB)) HA.out (Nat.le_trans hB hb1.size), rfl, hb1⟩
    case round =>
      obtain ⟨k, V, hk, rfl, rfl, hVe, hVb, hmv, hok, hbw⟩ := hrel
      by_cases hlt : k < N
      · have hso := hbw.size
        obtain ⟨T, hT⟩ : ∃ T, T = IntKind.u64.wrap (at_ + (k : Int)) := ⟨_, rfl⟩
        have hT2 : T = (at_ + k) % 18446744073709551616 := by rw [hT, IntKind.wrap_u64]
        have hTb : 0 ≤ T ∧ T ≤ 18446744073709551615 := by omega
        have HT2 := Lib.hid hT2
        have hTr : IntKind.u64.wrap (at_ + (k : Int)) = T := hT.symm
        have hLr := Sl.In.below HL.out (hbw.mono hB)
        have HLR := Lib.hid hLr
        clear hT hT2
        have hnone : byteAt L at_ 2 k = none → Hid (loadE L at_ N 2 = 6 ∧ storeX L at_ N v = L) := fun hby => by
          have hN := loadN_none (l := L) (at_ := at_) (perm := 2) (n := k + 1) (by simp only [loadN, hby]; cases loadN L at_ 2 k <;> rfl) (show k + 1 ≤ N by omega)
          show _ ∧ _
          rw [HE.out, HX.out, hN]
          exact ⟨rfl, rfl⟩
        cases hx : idxF L T with
        | none =>
          have hN := hnone (byteAt_far HT2.out hx)
          have HI := Lib.hid (atI_no hx)
          clear hx hnone hLr
          go_wp2_with (go_at_call 64; refine (at_any T hTb HLR.out HWF.out hlen).mono ?_; rintro e w2 ⟨rfl, rfl⟩; rw [HI.out])
          go_ret2
          rw [hN.out.1, hN.out.2]
          exact ⟨hbw, _, rfl, MemV.of HLR.out HA.out (Nat.le_trans hB hso)⟩
        | some i =>
          have hil := idxF_lt hx
          have HI := Lib.hid (atI_some hx)
          by_cases hlow : T < at_
          · have hN := hnone (byteAt_low HT2.out hlow)
            clear hx hnone hLr
            go_wp2_with (go_at_call 64; refine (at_any T hTb HLR.out HWF.out hlen).mono ?_; rintro e w2 ⟨rfl, rfl⟩; rw [HI.out])
            go_ret2
            rw [hN.out.1, hN.out.2]
            exact ⟨hbw, _, rfl, MemV.of HLR.out HA.out (Nat.le_trans hB hso)⟩
          · obtain ⟨b, off, rfl, hb, c0, c1, c2⟩ := Mem.pg hLr hil
            have hbz : b < wr.heap.size := by omega
            have hby := byteAt_some (perm := 2) HT2.out (show at_ ≤ T by omega) hx hil
            have i3 : (0 : Int) ≤ (i : Int) := by omega
            have i4 : (i : Int) < (L.length : Int) := by omega
            cases hg : grantB L[i] 2
            · rw [hg] at hby
              have hN := hnone hby
              have HG := Lib.hid hg
              clear hx hnone hby hg hLr
              go_wp2_with (first
                | (go_at_call 64; refine (at_any T hTb HLR.out HWF.out hlen).mono ?_; rintro e w2 ⟨rfl, rfl⟩; rw [HI.out])
                | (go_at_call 65; refine (grants_any L[i] 2 _).mono ?_; rintro e w3 ⟨rfl, hb3⟩; rw [HG.out]))
              go_ret2
              rw [hN.out.1, hN.out.2]
              have hb4 := hbw.trans (hb3.mono hso)
              exact ⟨hb4, _, rfl, MemV.of (Sl.In.below HL.out (hb4.mono hB)) HA.out (Nat.le_trans hB hb4.size)⟩
            · rw [hg, if_pos rfl] at hby
              have hTe : T = at_ + k := by have := HT2.out; omega
              have hok' : Hid ((loadN L at_ 2 (k + 1)).isSome = true) := by
                show _ = _
                have h1 := hok.out
                simp only [loadN, hby]
                cases h2 : loadN L at_ 2 k with
                | none => rw [h2] at h1; cases h1
                | some u => rfl
              obtain ⟨A1, c1', rfl, hm1, hm2⟩ := hmv.out
              have HM1 := Lib.hid hm1
              have hks : k < (bytesV v N).size := by rw [bytesV_size]; exact hlt
              have hcon : ∀ w3, Below wr.heap.size wr w3 → Calls Tryd.prog 70 #[.slice A1 L.length c1', .int .u64 T, .int .u8 (V % 256)] w3 fun e w' => Below w3.heap.size w3 w' ∧ ∃ u, e = .returned u ∧ OwnV w' w3.heap.size u (wrL L at_ (bytesV v N) (k + 1)) := fun w3 hb3 => by
                have hcon := put_any T (bytesV v N)[k] i hTb (by rw [wrL_idx]; exact hx) (wrL_right HRP.out at_ (bytesV v N) k) (Sl.In.below HM1.out hb3) (wrL_ok HWF.out at_ (bytesV v N) k)
                rw [put_wr HRP.out hx hTe hks, wrL_len, bytesV_at v hks, ← hVe.out] at hcon
                exact hcon
              have HCON := Lib.hid hcon
              have hLl : (wrL L at_ (bytesV v N) k).length = L.length := wrL_len _ _ _ _
              have HTE := Lib.hid hTe
              have HG := Lib.hid hg
              clear hx hnone hby hcon hm1 hm2 hmv hTe hg hLr
              rw [hLl]
              clear hLl
              go_wp2_with (first
                | (go_at_call 64; refine (at_any T hTb HLR.out HWF.out hlen).mono ?_; rintro e w2 ⟨rfl, rfl⟩; rw [HI.out])
                | (go_at_call 65; refine (grants_any L[i] 2 _).mono ?_; rintro e w3 ⟨rfl, hb3⟩; rw [HG.out])
                | (go_at_call 70; refine (HCON.out _ hb3).mono ?_; rintro e w4 ⟨hb4, v3, rfl, hown3⟩))
              have hbb := hbw.trans ((hb3.trans (hb4.mono hb3.size)).mono hso)
              exact ⟨⟨k + 1, V / 256, hlt, by go_num, rfl, by show _ = _; rw [hVe.out, div_step], by omega, hown3.mem, hok', hbb⟩, by simp [intOf]; omega⟩
      · obtain rfl : k = N := by omega
        obtain ⟨A1, c1, rfl, hm1, hm2⟩ := hmv.out
        go_wp2
        go_ret2
        rw [HE.out, HX.out, hok.out]
        exact ⟨hbw, _, rfl, hmv.out⟩
  · have hE : loadE L at_ n 2 = 1 := by unfold loadE; rw [if_neg hc]
    have hX : storeX L at_ n v = L := by unfold storeX; rw [if_neg (fun h => hc h.1)]
    have HE := Lib.hid hE
    have HX := Lib.hid hX
    have hcc : n < 1 ∨ (1 ≤ n ∧ 8 < n) ∨ ((1 ≤ n ∧ n ≤ 8) ∧ rightB L = false) := by
      by_cases c1 : 1 ≤ n
      · by_cases c2 : n ≤ 8
        · exact .inr (.inr ⟨⟨c1, c2⟩, by cases h : rightB L; rfl; exact absurd ⟨⟨c1, c2⟩, h⟩ hc⟩)
        · exact .inr (.inl ⟨c1, by omega⟩)
      · exact .inl (by omega)
    have HL := Lib.hid hL
    have HWF := Lib.hid hwf
    have HA := Lib.hid hA
    clear hc hE hX hL hwf hA
    rcases hcc with c | ⟨c, c'⟩ | ⟨⟨c, c'⟩, hR⟩
    · go_enter Tryd.func47, Tryd.ntmps47
      go_wp2_with fail
      refine (rright_any HL.out hB HWF.out).mono ?_
      rintro e w1 ⟨rfl, hb1⟩
      go_wp2
      go_ret2
      rw [HE.out, HX.out]
      exact ⟨hb1, _, rfl, MemV.of (Sl.In.below HL.out (hb1.mono hB)) HA.out (Nat.le_trans hB hb1.size)⟩
    · go_enter Tryd.func47, Tryd.ntmps47
      go_wp2_with fail
      refine (rright_any HL.out hB HWF.out).mono ?_
      rintro e w1 ⟨rfl, hb1⟩
      go_wp2
      go_ret2
      rw [HE.out, HX.out]
      exact ⟨hb1, _, rfl, MemV.of (Sl.In.below HL.out (hb1.mono hB)) HA.out (Nat.le_trans hB hb1.size)⟩
    · have HR := Lib.hid hR
      clear hR
      go_enter Tryd.func47, Tryd.ntmps47
      go_wp2_with fail
      refine (rright_any HL.out hB HWF.out).mono ?_
      rintro e w1 ⟨rfl, hb1⟩
      rw [HR.out]
      go_wp2
      go_ret2
      rw [HE.out, HX.out]
      exact ⟨hb1, _, rfl, MemV.of (Sl.In.below HL.out (hb1.mono hB)) HA.out (Nat.le_trans hB hb1.size)⟩
end Go.Proofs.YtajhehmkdlebbaaDoor
namespace Go.Proofs.YtajhehmkdlebbaaDoor
open Go.ChangeShapes Go.WideShapes Go.ChangeAt Go.RowKit Go.Deep Go.Maps Go.WideMaps
set_option maxRecDepth 100000
noncomputable instance (x y : Pg) : Decidable (x = y) := Classical.propDecidable _
noncomputable instance (x y : List Pg) : Decidable (x = y) := Classical.propDecidable _
noncomputable def eqPg (x y : Pg) : Bool := decide (x = y)
noncomputable def sameB (a b : List Pg) : Bool := decide (a = b)
theorem data_toList {a b : ByteArray} : a.toList = b.toList ↔ a = b := by
  rw [ByteArray.toList_eq, ByteArray.toList_eq]
  constructor
  · intro h; cases a; cases b; simpa using h
  · rintro rfl; rfl
theorem neqPg (x y : Pg) (w : World) : (binOp .neq 41 (.agg #[.int .u64 x.at_, .int .i64 x.perm, .string x.data]) (.agg #[.int .u64 y.at_, .int .i64 y.perm, .string y.data])).run Tryd.prog w = .ok (.bool (!eqPg x y)) w := by
  have u1 := Tryd.underlying24
  have u2 := Tryd.underlying3
  have u3 := Tryd.underlying9
  have a1 := Tryd.isAgg24
  have a2 := Tryd.isAgg3
  have a3 := Tryd.isAgg9
  have z1 := Tryd.sizeOf24
  have z2 := Tryd.sizeOf3
  have z3 := Tryd.sizeOf9
  have hS : Tryd.prog.underlying 41 = some (.struct (Tryd.prog.fieldsOf 41)) := by kernel_rfl
  have hp : Tryd.prog.stoodInHeld 41 = false := by kernel_rfl
  rw [run_neq_struct, show (10000 : Nat) = 9999 + 1 from rfl, run_equalIn_agg w 9999 41 _ _ hS hp]
  simp only [Program.fieldsOf, Tryd.underlying41]
  go_simp
  have he : eqPg x y = (decide (x.at_ = y.at_) && decide (x.perm = y.perm) && decide (x.data.toList = y.data.toList)) := by
    unfold eqPg
    cases x with
    | mk a p d => cases y with
      | mk a' p' d' =>
        simp only [Pg.mk.injEq, data_toList]
        by_cases h1 : a = a' <;> by_cases h2 : p = p' <;> by_cases h3 : d = d' <;> simp [h1, h2, h3]
  rw [he]
  by_cases h1 : x.at_ = y.at_ <;> by_cases h2 : x.perm = y.perm <;> by_cases h3 : x.data.toList = y.data.toList <;> simp [h1, h2, h3]
/-- two memories part at a page -/
theorem same_part {a b : List Pg} {k : Nat} (ha : k < a.length) (hb : k < b.length) (h : a[k] ≠ b[k]) : sameB a b = false :=
  decide_eq_false fun e => h (by subst e; rfl)
theorem same_all {a b : List Pg} (hl : a.length = b.length) (h : ∀ k : Nat, ∀ ha : k < a.length, ∀ hb : k < b.length, a[k] = b[k]) : sameB a b = true :=
  decide_eq_true (List.ext_getElem hl h)
theorem same_len {a b : List Pg} (hl : a.length ≠ b.length) : sameB a b = false := decide_eq_false fun e => hl (by rw [e])
set_option maxHeartbeats 1000000 in
theorem rsame_any {A A' : Option Addr} {cap cap' : Nat} {L L' : List Pg} {w : World} {B B' : Nat} (hL : Mem w B A cap L) (hL' : Mem w B' A' cap' L') (hB : B ≤ w.heap.size) (hB' : B' ≤ w.heap.size) (hlen : L.length ≤ 140737488351232) :
    Calls Tryd.prog 40 #[.slice A L.length cap, .slice A' L'.length cap'] w fun e w' => e = .returned (.bool (sameB L L')) ∧ Below w.heap.size w w' := by
  by_cases hl : L.length = L'.length
  · have HL := Lib.hid hl
    have hl2 : (L'.length : Int) = L.length := by omega
    go_enter Tryd.func40, Tryd.ntmps40
    rw [← hl]
    clear hl hl2
    go_wp2
    go_loopw [5] (fun i wr => ∃ k : Nat, k ≤ L.length ∧ i = .int .i64 k ∧ Below w.heap.size w wr ∧ Hid (∀ j : Nat, ∀ ha : j < L.length, ∀ hb : j < L'.length, j < k → L[j] = L'[j])) (fun i _ => L.length - (intOf i).toNat)
    case atStart => exact ⟨0, Nat.zero_le _, rfl, Below.refl _ _, fun j _ _ hj => absurd hj (Nat.not_lt_zero _)⟩
    case round =>
      obtain ⟨k, hk, rfl, hbw, hno⟩ := hrel
      by_cases hlt : k < L.length
      · have hlt' : k < L'.length := by have := HL.out; omega
        obtain ⟨b, off, rfl, hb, c0, c1, c2⟩ := Mem.pg (Sl.In.below hL (hbw.mono hB)) hlt
        obtain ⟨b', off', rfl, hb', d0, d1, d2⟩ := Mem.pg (Sl.In.below hL' (hbw.mono hB')) hlt'
        have hne := neqPg L[k] L'[k]
        have i1 : (0 : Int) ≤ (k : Int) := by omega
        have i2 : (k : Int) < (L.length : Int) := by omega
        cases heq : eqPg L[k] L'[k]
        · rw [heq] at hne
          have HR := Lib.hid (same_part hlt hlt' (of_decide_eq_false heq))
          clear heq
          go_wp2
          go_quiet (fail)
          go_wp2
          go_ret
          rw [HR.out]
          exact ⟨rfl, below_drewN hbw _⟩
        · rw [heq] at hne
          have he : L[k] = L'[k] := of_decide_eq_true heq
          have HE := Lib.hid he
          clear he
          clear heq
          go_wp2
          go_quiet (fail)
          go_wp2
          exact ⟨⟨k + 1, hlt, by go_num, below_drewN hbw _, fun j ha hb hj => by
            by_cases e : j = k
            · subst e; exact HE.out
            · exact hno.out j ha hb (by omega)⟩, by simp [intOf]; omega⟩
      · obtain rfl : k = L.length := by omega
        have HR := Lib.hid (same_all HL.out (fun j ha hb => hno.out j ha hb ha))
        go_wp2
        go_ret
        rw [HR.out]
        exact ⟨rfl, hbw⟩
  · have HR := Lib.hid (same_len hl)
    have hne : ((L.length : Int) != (L'.length : Int)) = true := by simp; omega
    go_enter Tryd.func40, Tryd.ntmps40
    go_wp2
    go_ret
    rw [HR.out]
    exact ⟨rfl, Below.refl _ _⟩
end Go.Proofs.YtajhehmkdlebbaaDoor
