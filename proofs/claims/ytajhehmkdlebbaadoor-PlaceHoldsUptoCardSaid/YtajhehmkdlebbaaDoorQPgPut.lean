/- The reference's put. -/
import Derived.Test.YtajhehmkdlebbaaDoorQPgStore
namespace Go.Proofs.YtajhehmkdlebbaaDoor
open Go.ChangeShapes Go.WideShapes Go.ChangeAt Go.RowKit Go.Deep Go.Maps Go.WideMaps
set_option maxRecDepth 100000
/-- memory with a byte in page i, o bytes behind its beginning -/
def putL (l : List Pg) (i o : Nat) (x : UInt8) : List Pg := l.modify i (fun p => { p with data := spl p.data o [x] })
theorem spl_one {d : ByteArray} {o : Nat} (h : o + 1 ≤ d.size) (x : UInt8) : (⟨(d.data.toList.set o x).toArray⟩ : ByteArray) = spl d o [x] := by
  refine ba_ext fun j => ?_
  rw [spl_at (by simpa using h)]
  simp only [List.getElem?_set, List.length_singleton]
  rw [ba_size] at h
  by_cases e : o = j
  · subst e
    rw [if_pos rfl, if_pos (by omega), if_pos (by omega)]; simp
  · rw [if_neg e, if_neg (by omega)]
/-- '[]byte(d)', a byte stored, 'string(b)' -/
theorem byte_made (w1 : World) (d : ByteArray) (hd : d.size = 256) {o : Nat} (ho : o < 256) (x : UInt8) :
    ∃ C W6, (convert 9 86 (.string d)).run Tryd.prog w1 = .ok (.slice (some ⟨w1.heap.size, 0, none⟩) 256 C) W6 ∧ Below w1.heap.size w1 W6 ∧ (∃ u, W6.cell? ⟨w1.heap.size, o, none⟩ = some (.int .u8 u)) ∧ W6.frozen? ⟨w1.heap.size, o, none⟩ = false ∧
      (convert 86 9 (.slice (some ⟨w1.heap.size, 0, none⟩) 256 C)).run Tryd.prog (W6.setCell ⟨w1.heap.size, o, none⟩ (.int .u8 (x.toNat : Int))) = .ok (.string (spl d o [x])) (W6.setCell ⟨w1.heap.size, o, none⟩ (.int .u8 (x.toNat : Int))) := by
  have hcv := run_bytes_of_string (P := Tryd.prog) w1 9 86 5 d Tryd.underlying9 Tryd.underlying86 Tryd.underlying5
  have hba := bytesAt_new w1.drew d (grownCap w1 d.size 0 5) 5
  have hdl : d.data.toList.length = 256 := by rw [← ba_size]; exact hd
  obtain ⟨k1, k2⟩ := hba o (by rw [hdl]; exact ho)
  have hba2 := hba.store (k := o) x
  have hstr := run_bytes_str (P := Tryd.prog) _ 86 9 5 w1.drew.heap.size (grownCap w1 d.size 0 5) _ Tryd.underlying86 Tryd.underlying5 Tryd.underlying9 hba2 256 (by rw [List.length_set, hdl])
  rw [spl_one (by omega) x] at hstr
  rw [hd] at hcv k1 k2 hstr
  exact ⟨_, _, hcv, ((Below.refl w1.heap.size w1).drew).alloc (Nat.le_refl _) _, ⟨_, k1⟩, k2, hstr⟩
set_option maxHeartbeats 1000000 in
theorem put_any {A : Option Addr} {cap : Nat} {L : List Pg} {w : World} {B : Nat} (to : Int) (x : UInt8) (i : Nat) (hto : 0 ≤ to ∧ to ≤ 18446744073709551615) (hi : idxF L to = some i) (hR : RightP L)
    (hL : Mem w B A cap L) (hwf : ∀ p ∈ L, p.ok) :
    Calls Tryd.prog 70 #[.slice A L.length cap, .int .u64 to, .int .u8 (x.toNat : Int)] w fun e w' => Below w.heap.size w w' ∧ ∃ v, e = .returned v ∧ OwnV w' w.heap.size v (putL L i (to - ((L[i]?).map Pg.at_).getD 0).toNat x) := by
  have hlen : L.length ≤ 140737488351232 := by have := hR.1; omega
  have hil := idxF_lt hi
  have hih := idxF_has hi hil
  have hds := right_size hR hil
  have hat := (hwf _ (List.getElem_mem hil)).1
  have HI := Lib.hid (atI_some hi)
  rw [List.getElem?_eq_getElem hil, Option.map_some, Option.getD_some]
  obtain ⟨o, ho⟩ := Int.eq_ofNat_of_zero_le (show 0 ≤ to - (L[i]).at_ by omega)
  rw [ho, Int.toNat_natCast]
  have hol : o < 256 := by omega
  have hwr : IntKind.u64.wrap (to - (L[i]).at_) = (o : Int) := by rw [IntKind.wrap_u64]; omega
  obtain ⟨b, off, rfl, hb, c0, c1, c2⟩ := Mem.pg hL hil
  obtain ⟨i0, hi0, hz0, hz1, hz2⟩ := info_parts Tryd.info41
  have HL := Lib.hid (Sl.In.flat pgCells_len (by omega) hL)
  have h1 : ∀ u ∈ L.flatMap Pg.cells, u.oneCell' = true := fun u hu => by
    obtain ⟨y, _, hy⟩ := List.mem_flatMap.1 hu
    exact Pg.one y u hy
  have H1 := Lib.hid h1
  have HLL := Lib.hid hL
  have HWF := Lib.hid hwf
  have HR := Lib.hid hR
  have HO := Lib.hid ho
  clear h1 hL hwf hR hih ho hi c0 c1 c2
  go_enter Tryd.func70, Tryd.ntmps70
  go_wp2_with fail
  refine (at_any to hto HLL.out HWF.out hlen).mono ?_
  rintro e w2 ⟨rfl, rfl⟩
  rw [HI.out]
  go_wp2_with
    (at_builtin
     refine wpList_append_own_wide _ rfl (.tmp 13) (.tmp 14) 32 rfl w.heap.size 41 i0 _ 3 32 Tryd.underlying32 hi0 hz0 hz1 hz2 rfl (by omega) _ 0 _ rfl (World.ownsRow_made w #[] 0 (Nat.le_refl _) (Nat.zero_le _) (by simp)) ⟨b, off, none⟩ L.length cap _ rfl (flat_len pgCells_len L) ?_ H1.out ?_ ?_ ?_ ?_
     rotate_right
     intro v1 w1 hown hg _
     have hw1 : Below w.heap.size w w1 := ((Below.refl _ _).alloc (Nat.le_refl _) _).grown hg (by simp) (fun k hk => Nat.le_of_eq (Option.some.inj hk))
     rw [Nat.zero_add, List.nil_append] at hown
     obtain ⟨A1, k1, rfl⟩ := own_form hown
     obtain ⟨g, rfl⟩ := own_some hown (by omega)
     have hgl := hown.lt g rfl
     have hca : w1.cell? ⟨g, i * 3, none⟩ = some (.int .u64 (L[i]).at_) := (hown.cellAt (i * 3) (by omega)).trans (flat_at (j := 0) pgCells_len (List.getElem?_eq_getElem hil) rfl)
     have hcd : w1.cell? ⟨g, i * 3 + 2, none⟩ = some (.string (L[i]).data) := (hown.cellAt (i * 3 + 2) (by omega)).trans (flat_at pgCells_len (List.getElem?_eq_getElem hil) rfl)
     obtain ⟨C, W6, hcv, hb6, ⟨uc, k1c⟩, k1f, hstr⟩ := byte_made w1 (L[i]).data hds hol x
     have g1 := (hb6.cell (p := ⟨g, i * 3, none⟩) hgl.2).trans hca
     have g2 := (hb6.cell (p := ⟨g, i * 3 + 2, none⟩) hgl.2).trans hcd
     have own6 := own_below hown hb6
     have g3 : W6.frozen? ⟨g, i * 3 + 2, none⟩ = false := own6.frozenAt _
     have HW1 := Lib.hid hw1
     have HOWN := Lib.hid own6
     have HGL := Lib.hid hgl
     have HB6 := Lib.hid hb6
     have o1 : (0 : Int) ≤ (o : Int) := by omega
     have o2 : (o : Int) < 256 := by omega
     have i1 : (0 : Int) ≤ (i : Int) := by omega
     have i2 : (i : Int) < (L.length : Int) := by omega
     have hgne : g ≠ w1.heap.size := by omega
     clear hown hg hgl hb6 own6 hw1 hca)
  go_ret
  have hw1 := HW1.out
  have hgl := HGL.out
  have hs1 := hw1.size
  refine ⟨((hw1.trans (HB6.out.mono hs1)).setCell (p := ⟨w1.heap.size, o, none⟩) hs1 _).setCell (p := ⟨g, i * 3 + 2, none⟩) hgl.1 _, _, rfl, ?_⟩
  · have h5 := ((HOWN.out.kept (grownBy_setCell1 W6 w1.heap.size o (.int .u8 (x.toNat : Int))) (.inr fun e => hgne (Option.some.inj e))).stored (i * 3 + 2) (.string (spl (L[i]).data o [x]))).1
    rw [flat_set (fun d => spl d o [x]) hil] at h5
    unfold OwnV putL
    rw [List.length_modify]
    exact h5
  case refine_1 =>
    intro j u hu
    have := HL.out j u hu
    exact ((((Below.refl w.heap.size w).alloc (Nat.le_refl _) _).cell (p := (⟨b, off, none⟩ : Addr).add j) (cell_block_lt this).1)).trans this
  case refine_2 => unfold maxLen; have := HR.out.1; omega
  case refine_3 => have := HR.out.1; omega
  case refine_4 => simp
theorem grant0 (p : Pg) : grantB p 0 = true := by
  unfold grantB
  have : bits .and .i64 p.perm 0 = 0 := by unfold bits; simp [IntWalk.i64_in]
  rw [this]; rfl
theorem wrL_at (L : List Pg) (at_ : Int) (s : ByteArray) (k i : Nat) : (((wrL L at_ s k)[i]?).map Pg.at_).getD 0 = ((L[i]?).map Pg.at_).getD 0 := by
  rw [wrL_get?]; cases L[i]? <;> rfl
theorem put_wr {L : List Pg} (hR : RightP L) {T at_ : Int} {k i : Nat} {s : ByteArray} (hi : idxF L T = some i) (hT : T = at_ + k) (hk : k < s.size) : putL (wrL L at_ s k) i (T - (((wrL L at_ s k)[i]?).map Pg.at_).getD 0).toNat s[k] = wrL L at_ s (k + 1) := by
  have hil := idxF_lt hi
  have hih := idxF_has hi hil
  rw [wrL_at, List.getElem?_eq_getElem hil, Option.map_some, Option.getD_some]
  have := wrL_spl hR hil (at_ := at_) (s := s) (n := k) (n' := k + 1) (o := (T - (L[i]).at_).toNat) (by omega) (by omega) (by omega) (by omega)
  rw [← this]
  unfold putL
  have e : List.take (k + 1 - k) (List.drop k s.data.toList) = [s[k]] := by
    have hkl : k < s.data.toList.length := by rw [← ba_size]; exact hk
    rw [show k + 1 - k = 1 by omega, List.drop_eq_getElem_cons hkl]
    rfl
  rw [e]
set_option maxHeartbeats 2000000 in
theorem rfill_any {A : Option Addr} {cap : Nat} {L : List Pg} {w : World} {B : Nat} (at_ : Int) (s : ByteArray) (hat : 0 ≤ at_ ∧ at_ ≤ 18446744073709551615) (hs : s.size ≤ 140737488351232)
    (hL : Mem w B A cap L) (hA : A = none → cap = 0) (hB : B ≤ w.heap.size) (hwf : ∀ p ∈ L, p.ok) :
    Calls Tryd.prog 37 #[.slice A L.length cap, .int .u64 at_, .string s] w fun e w' => Below w.heap.size w w' ∧ ∃ v, e = .returned (.tuple #[v, .int .i64 (fillE L at_ s)]) ∧ MemV w' v (fillX L at_ s) := by
  cases hR : rightB L with
  | false =>
    have hE : fillE L at_ s = 1 := by unfold fillE; rw [hR]; rfl
    have hX : fillX L at_ s = L := by unfold fillX; rw [if_neg (by rw [hR]; simp)]
    have HE := Lib.hid hE
    have HX := Lib.hid hX
    have HR := Lib.hid hR
    clear hE hX hR
    go_enter Tryd.func37, Tryd.ntmps37
    go_wp2_with fail
    refine (rright_any hL hB hwf).mono ?_
    rintro e w1 ⟨rfl, hb1⟩
    rw [HR.out]
    go_wp2
    go_ret2
    rw [HE.out, HX.out]
    exact ⟨hb1, _, rfl, MemV.of (Sl.In.below hL (hb1.mono hB)) hA (Nat.le_trans hB hb1.size)⟩
  | true =>
    have hRP := rightB_out hR
    have hlen : L.length ≤ 140737488351232 := by have := hRP.1; omega
    have hE : fillE L at_ s = if (loadN L at_ 0 s.size).isSome then 0 else 8 := by unfold fillE; rw [if_pos hR]
    have hX : fillX L at_ s = if (loadN L at_ 0 s.size).isSome then wrL L at_ s s.size else L := by
      unfold fillX
      by_cases h : (loadN L at_ 0 s.size).isSome = true
      · rw [if_pos ⟨hR, h⟩, if_pos h]
      · rw [if_neg (fun h' => h h'.2), if_neg h]
    have HE := Lib.hid hE
    have HX := Lib.hid hX
    have HR := Lib.hid hR
    have HRP := Lib.hid hRP
    have HA := Lib.hid hA
    have HWF := Lib.hid hwf
    have HL := Lib.hid hL
    clear hE hX hR hRP hA hwf hL
    go_enter Tryd.func37, Tryd.ntmps37
    go_wp2_with fail
    refine (rright_any HL.out hB HWF.out).mono ?_
    rintro e w1 ⟨rfl, hb1⟩
    rw [HR.out]
    go_wp2
    go_loopw [9, 10] (fun v i wr => ∃ k : Nat, k ≤ s.size ∧ i = .int .i64 k ∧ Hid (MemV wr v (wrL L at_ s k)) ∧ Hid ((loadN L at_ 0 k).isSome = true) ∧ Below w.heap.size w wr) (fun _ i _ => s.size - (intOf i).toNat)
    case atStart => exact ⟨0, Nat.zero_le _, rfl, by show MemV _ _ _; rw [wrL_zero]; exact MemV.of (Sl.In.below HL.out (hb1.mono hB)) HA.out (Nat.le_trans hB hb1.size), rfl, hb1⟩
    case round =>
      obtain ⟨k, hk, rfl, hmv, hok, hbw⟩ := hrel
      by_cases hlt : k < s.size
      · have hso := hbw.size
        obtain ⟨T, hT⟩ : ∃ T, T = IntKind.u64.wrap (at_ + (k : Int)) := ⟨_, rfl⟩
        have hT2 : T = (at_ + k) % 18446744073709551616 := by rw [hT, IntKind.wrap_u64]
        have hTb : 0 ≤ T ∧ T ≤ 18446744073709551615 := by omega
        have HT2 := Lib.hid hT2
        have hTr : IntKind.u64.wrap (at_ + (k : Int)) = T := hT.symm
        have hLr := Sl.In.below HL.out (hbw.mono hB)
        have HLR := Lib.hid hLr
        clear hT hT2 hLr
        have hnone : byteAt L at_ 0 k = none → Hid (fillE L at_ s = 8 ∧ fillX L at_ s = L) := fun hby => by
          have hN := loadN_none (l := L) (at_ := at_) (perm := 0) (n := k + 1) (by simp only [loadN, hby]; cases loadN L at_ 0 k <;> rfl) (show k + 1 ≤ s.size by omega)
          show _ ∧ _
          rw [HE.out, HX.out, hN]
          exact ⟨rfl, rfl⟩
        cases hx : idxF L T with
        | none =>
          have hN := hnone (byteAt_far HT2.out hx)
          have HI := Lib.hid (atI_no hx)
          clear hx hnone
          go_wp2_with (go_at_call 64; refine (at_any T hTb HLR.out HWF.out hlen).mono ?_; rintro e w2 ⟨rfl, rfl⟩; rw [HI.out])
          go_ret2
          rw [hN.out.1, hN.out.2]
          exact ⟨hbw, _, rfl, MemV.of HLR.out HA.out (Nat.le_trans hB hso)⟩
        | some i =>
          have hil := idxF_lt hx
          have HI := Lib.hid (atI_some hx)
          by_cases hlow : T < at_
          · have hN := hnone (byteAt_low HT2.out hlow)
            clear hx hnone
            go_wp2_with (go_at_call 64; refine (at_any T hTb HLR.out HWF.out hlen).mono ?_; rintro e w2 ⟨rfl, rfl⟩; rw [HI.out])
            go_ret2
            rw [hN.out.1, hN.out.2]
            exact ⟨hbw, _, rfl, MemV.of HLR.out HA.out (Nat.le_trans hB hso)⟩
          · have hby := byteAt_some (perm := 0) HT2.out (show at_ ≤ T by omega) hx hil
            rw [grant0, if_pos rfl] at hby
            have hTe : T = at_ + k := by have := HT2.out; omega
            have hok' : Hid ((loadN L at_ 0 (k + 1)).isSome = true) := by
              show _ = _
              have h1 := hok.out
              simp only [loadN, hby]
              cases h2 : loadN L at_ 0 k with
              | none => rw [h2] at h1; cases h1
              | some u => rfl
            obtain ⟨A1, c1, rfl, hm1, hm2⟩ := hmv.out
            have hcon := put_any T s[k] i hTb (by rw [wrL_idx]; exact hx) (wrL_right HRP.out at_ s k) hm1 (wrL_ok HWF.out at_ s k)
            rw [put_wr HRP.out hx hTe hlt, wrL_len] at hcon
            have HCON := Lib.hid hcon
            have hLl : (wrL L at_ s k).length = L.length := wrL_len _ _ _ _
            have HTE := Lib.hid hTe
            have hss : (k : Int) < (s.size : Int) := by omega
            clear hx hnone hby hcon hm1 hm2 hmv hTe
            rw [hLl]
            clear hLl
            go_wp2_with (first
              | (go_at_call 64; refine (at_any T hTb HLR.out HWF.out hlen).mono ?_; rintro e w2 ⟨rfl, rfl⟩; rw [HI.out])
              | (go_at_call 70; refine HCON.out.mono ?_; rintro e w3 ⟨hb3, v3, rfl, hown3⟩))
            exact ⟨⟨k + 1, hlt, by go_num, hown3.mem, hok', hbw.trans (hb3.mono hso)⟩, by simp [intOf]; omega⟩
      · obtain rfl : k = s.size := by omega
        obtain ⟨A1, c1, rfl, hm1, hm2⟩ := hmv.out
        go_wp2
        go_ret2
        rw [HE.out, HX.out, hok.out]
        exact ⟨hbw, _, rfl, hmv.out⟩
end Go.Proofs.YtajhehmkdlebbaaDoor
