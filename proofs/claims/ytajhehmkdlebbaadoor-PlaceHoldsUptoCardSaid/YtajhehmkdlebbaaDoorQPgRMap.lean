/- The reference's Map. -/
import Derived.Test.YtajhehmkdlebbaaDoorQPgLaw
import Derived.Laws.OwnMore
namespace Go.Proofs.YtajhehmkdlebbaaDoor
open Go.ChangeShapes Go.WideShapes Go.ChangeAt Go.RowKit Go.Deep Go.Maps Go.WideMaps
set_option maxRecDepth 100000
theorem low_take {l : List Pg} (h : RightP l) {at_ : Int} {k : Nat} (h1 : ∀ j : Nat, ∀ hj : j < l.length, j < k → (l[j]).at_ < at_) (h2 : ∀ hk : k < l.length, at_ ≤ (l[k]).at_) : lowL l at_ = l.take k := by
  have e : l = l.take k ++ l.drop k := (List.take_append_drop k l).symm
  unfold lowL
  rw [e, List.filter_append, List.take_append_drop]
  have f1 : (l.take k).filter (fun p => decide (p.at_ < at_)) = l.take k := by
    rw [List.filter_eq_self]
    intro p hp
    obtain ⟨j, hj, rfl⟩ := List.getElem_of_mem hp
    rw [List.length_take] at hj
    rw [List.getElem_take]
    exact decide_eq_true (h1 j (by omega) (by omega))
  have f2 : (l.drop k).filter (fun p => decide (p.at_ < at_)) = [] := by
    rw [List.filter_eq_nil_iff]
    intro p hp
    obtain ⟨j, hj, rfl⟩ := List.getElem_of_mem hp
    rw [List.length_drop] at hj
    rw [List.getElem_drop]
    have h3 := h2 (by omega)
    have h4 : (l[k]).at_ ≤ (l[k + j]).at_ := by
      by_cases e0 : j = 0
      · subst e0; exact Int.le_refl _
      · exact Int.le_of_lt (right_lt h (show k < k + j by omega) (by omega))
    simp only [decide_eq_true_eq]
    omega
  rw [f1, f2, List.append_nil]
theorem high_step {l : List Pg} {at_ : Int} {k : Nat} (hk : k < l.length) : highL (l.take (k + 1)) at_ = highL (l.take k) at_ ++ (if at_ < (l[k]).at_ then [l[k]] else []) := by
  unfold highL
  rw [List.take_add_one, List.getElem?_eq_getElem hk, List.filter_append]
  congr 1
  by_cases h : at_ < (l[k]).at_ <;> simp [h]
/-- 'string(make([]byte, 256))' -/
theorem zeros_made : ∃ Z : Array Value, (∀ w : World, (Instr.makeSlice 86 (.int .i64 256) (.int .i64 256)).run Tryd.prog w = .ok (.slice (some ⟨w.heap.size, 0, none⟩) 256 256) (w.alloc (.cells Z 5))) ∧
    (∀ w : World, (convert 86 9 (.slice (some ⟨w.heap.size, 0, none⟩) 256 256)).run Tryd.prog (w.alloc (.cells Z 5)) = .ok (.string (zerosB 256)) (w.alloc (.cells Z 5))) := by
  obtain ⟨i0, hi0, hz0, hz1, hz2⟩ := info_parts (show (Tryd.prog.info? 5).map (fun i => (i.zero, i.size, i.bytes)) = some (some (.int .u8 0), 1, 1) by kernel_rfl)
  refine ⟨madeCells (Value.int .u8 0).cells 256, fun w => ?_, fun w => ?_⟩
  · have := run_make (P := Tryd.prog) w 86 5 i0 (.int .u8 0) Tryd.underlying86 hi0 hz0 .i64 .i64 256 256 (by omega) (by omega) (by rw [hz2]; omega) (by omega)
    rw [hz1] at this
    exact this
  · refine run_bytes_str (P := Tryd.prog) _ 86 9 5 w.heap.size 256 (List.replicate 256 0) Tryd.underlying86 Tryd.underlying5 Tryd.underlying9 ?_ 256 (by rw [List.length_replicate])
    intro j hj
    rw [List.length_replicate] at hj
    refine ⟨?_, frozen_of_row _ _ _ _ _ (heap_alloc_new w _)⟩
    rw [cell_of_row _ _ _ _ _ _ (heap_alloc_new w _)]
    have h1 : (Array.range 256)[j]? = some j := by rw [Array.getElem?_range, if_pos hj]
    simp only [madeCells, Array.getElem?_map, h1, Option.map_some, List.getElem_replicate, Value.cells]
    have : j % 1 = 0 := Nat.mod_one j
    simp [this]
set_option maxHeartbeats 2000000 in
theorem rmap_bad_any {A : Option Addr} {cap : Nat} {L : List Pg} {w : World} {B : Nat} (at_ n perm : Int) (hat : 0 ≤ at_ ∧ at_ ≤ 18446744073709551615) (hno : ¬ mapOk L at_ n perm)
    (hL : Mem w B A cap L) (hA : A = none → cap = 0) (hB : B ≤ w.heap.size) (hwf : ∀ p ∈ L, p.ok) :
    Calls Tryd.prog 36 #[.slice A L.length cap, .int .u64 at_, .int .i64 n, .int .i64 perm] w fun e w' => Below w.heap.size w w' ∧ ∃ v, e = .returned (.tuple #[v, .int .i64 (mapE L at_ n perm)]) ∧ MemV w' v (mapX L at_ n perm) := by
  have hE : mapE L at_ n perm = 1 := by unfold mapE; rw [if_neg hno]
  have hX : mapX L at_ n perm = L := by unfold mapX; rw [hE]; rfl
  have HE := Lib.hid hE
  have HX := Lib.hid hX
  have HA := Lib.hid hA
  have HL := Lib.hid hL
  have HWF := Lib.hid hwf
  have hcc := map_bad hno
  clear hE hX hA hL hwf hno
  rcases hcc with hR | ⟨hR, hcc⟩
  · have HR := Lib.hid hR
    clear hR
    go_enter Tryd.func36, Tryd.ntmps36
    go_wp2_with fail
    refine (rright_any HL.out hB HWF.out).mono ?_
    rintro e w1 ⟨rfl, hb1⟩
    rw [HR.out]
    go_wp2
    go_ret2
    rw [HE.out, HX.out]
    exact ⟨hb1, _, rfl, MemV.of (Sl.In.below HL.out (hb1.mono hB)) HA.out (Nat.le_trans hB hb1.size)⟩
  · have HR := Lib.hid hR
    clear hR
    rcases hcc with c | ⟨c0, c | ⟨c1, c | ⟨c2, c | ⟨c3, c | ⟨c4, c⟩⟩⟩⟩⟩
    · have e1 : (at_ % 256 != 0) = true := by simpa using c
      clear c
      go_enter Tryd.func36, Tryd.ntmps36
      go_wp2_with fail
      refine (rright_any HL.out hB HWF.out).mono ?_
      rintro e w1 ⟨rfl, hb1⟩
      rw [HR.out]
      go_wp2
      go_ret2
      rw [HE.out, HX.out]
      exact ⟨hb1, _, rfl, MemV.of (Sl.In.below HL.out (hb1.mono hB)) HA.out (Nat.le_trans hB hb1.size)⟩
    · have e1 : (at_ % 256 != 0) = false := by simpa using c0
      clear c0
      go_enter Tryd.func36, Tryd.ntmps36
      go_wp2_with fail
      refine (rright_any HL.out hB HWF.out).mono ?_
      rintro e w1 ⟨rfl, hb1⟩
      rw [HR.out]
      go_wp2
      go_ret2
      rw [HE.out, HX.out]
      exact ⟨hb1, _, rfl, MemV.of (Sl.In.below HL.out (hb1.mono hB)) HA.out (Nat.le_trans hB hb1.size)⟩
    · have e1 : (at_ % 256 != 0) = false := by simpa using c0
      clear c0
      go_enter Tryd.func36, Tryd.ntmps36
      go_wp2_with fail
      refine (rright_any HL.out hB HWF.out).mono ?_
      rintro e w1 ⟨rfl, hb1⟩
      rw [HR.out]
      go_wp2
      go_ret2
      rw [HE.out, HX.out]
      exact ⟨hb1, _, rfl, MemV.of (Sl.In.below HL.out (hb1.mono hB)) HA.out (Nat.le_trans hB hb1.size)⟩
    · have e1 : (at_ % 256 != 0) = false := by simpa using c0
      clear c0
      go_enter Tryd.func36, Tryd.ntmps36
      go_wp2_with fail
      refine (rright_any HL.out hB HWF.out).mono ?_
      rintro e w1 ⟨rfl, hb1⟩
      rw [HR.out]
      go_wp2
      go_ret2
      rw [HE.out, HX.out]
      exact ⟨hb1, _, rfl, MemV.of (Sl.In.below HL.out (hb1.mono hB)) HA.out (Nat.le_trans hB hb1.size)⟩
    · have e1 : (at_ % 256 != 0) = false := by simpa using c0
      clear c0
      go_enter Tryd.func36, Tryd.ntmps36
      go_wp2_with fail
      refine (rright_any HL.out hB HWF.out).mono ?_
      rintro e w1 ⟨rfl, hb1⟩
      rw [HR.out]
      go_wp2
      go_ret2
      rw [HE.out, HX.out]
      exact ⟨hb1, _, rfl, MemV.of (Sl.In.below HL.out (hb1.mono hB)) HA.out (Nat.le_trans hB hb1.size)⟩
    · have e1 : (at_ % 256 != 0) = false := by simpa using c0
      have e2 : IntKind.u64.wrap (at_ / 256 + n) = at_ / 256 + n := by rw [IntKind.wrap_u64]; omega
      have e3 : 72057594037927936 < at_ / 256 + n := by omega
      have e4 : at_.tdiv 256 = at_ / 256 := Int.tdiv_eq_ediv_of_nonneg hat.1
      clear c c0
      go_enter Tryd.func36, Tryd.ntmps36
      go_wp2_with fail
      refine (rright_any HL.out hB HWF.out).mono ?_
      rintro e w1 ⟨rfl, hb1⟩
      rw [HR.out]
      go_wp2
      go_ret2
      rw [HE.out, HX.out]
      exact ⟨hb1, _, rfl, MemV.of (Sl.In.below HL.out (hb1.mono hB)) HA.out (Nat.le_trans hB hb1.size)⟩
set_option maxHeartbeats 8000000 in
theorem rmap_good {A : Option Addr} {cap : Nat} {L : List Pg} {w : World} {B : Nat} (at_ perm : Int) (N : Nat) (hat : 0 ≤ at_ ∧ at_ ≤ 18446744073709551615) (hok : mapOk L at_ N perm)
    (hL : Mem w B A cap L) (hA : A = none → cap = 0) (hB : B ≤ w.heap.size) (hwf : ∀ p ∈ L, p.ok) :
    Calls Tryd.prog 36 #[.slice A L.length cap, .int .u64 at_, .int .i64 (N : Int), .int .i64 perm] w fun e w' => Below w.heap.size w w' ∧ ∃ v, e = .returned (.tuple #[v, .int .i64 (mapE L at_ N perm)]) ∧ MemV w' v (mapX L at_ N perm) := by
  obtain ⟨hR, h256, ⟨n1, n64⟩, ⟨p0, p7⟩, hend⟩ := id hok
  have hRP := rightB_out hR
  have hl64 := hRP.1
  have hlen : L.length ≤ 140737488351232 := by omega
  obtain ⟨i0, hi0, hz0, hz1, hz2⟩ := info_parts Tryd.info41
  obtain ⟨Z, hmk, hcv⟩ := zeros_made
  have hE : mapE L at_ N perm = (if twice L at_ N then 9 else if 64 < L.length + N then 4 else 0) := by unfold mapE; rw [if_pos hok, Int.toNat_natCast]
  have HE := Lib.hid hE
  have HR := Lib.hid hR
  have HRP := Lib.hid hRP
  have HA := Lib.hid hA
  have HL := Lib.hid hL
  have HWF := Lib.hid hwf
  have H256 := Lib.hid h256
  have e1 : (at_ % 256 != 0) = false := by simpa using h256
  have e2 : IntKind.u64.wrap (at_ / 256 + N) = at_ / 256 + N := by rw [IntKind.wrap_u64]; omega
  have e3 : at_ / 256 + N ≤ 72057594037927936 := by omega
  have e4 : at_.tdiv 256 = at_ / 256 := Int.tdiv_eq_ediv_of_nonneg hat.1
  have b1 : decide ((N : Int) < 1) = false := decide_eq_false (by omega)
  have b2 : decide (64 < (N : Int)) = false := decide_eq_false (by omega)
  have b3 : decide (perm < 0) = false := decide_eq_false (by omega)
  have b4 : decide (7 < perm) = false := decide_eq_false (by omega)
  clear hE hok hR hRP hA hL hwf h256
  go_enter Tryd.func36, Tryd.ntmps36
  go_wp2_with fail
  refine (rright_any HL.out hB HWF.out).mono ?_
  rintro e w1 ⟨rfl, hb1⟩
  rw [HR.out]
  go_wp2
  clear b1 b2 b3 b4 e2 e3 e4
  go_loopw [11] (fun i wr => ∃ k : Nat, k ≤ N ∧ i = .int .i64 k ∧ Hid (twice L at_ k = false) ∧ Below w.heap.size w wr) (fun i _ => N - (intOf i).toNat)
  case atStart => exact ⟨0, Nat.zero_le _, rfl, rfl, hb1⟩
  case round =>
    obtain ⟨k, hk, rfl, htw, hbw⟩ := hrel
    by_cases hlt : k < N
    · obtain ⟨T, hTe⟩ : ∃ T, T = at_ + 256 * (k : Int) := ⟨_, rfl⟩
      have hTT : at_ + 256 * (k : Int) = T := hTe.symm
      have hTb : 0 ≤ T ∧ T ≤ 18446744073709551615 := by omega
      have ha1 : at_ + 256 * (k : Int) ≤ 18446744073709551615 := by omega
      have HTE := Lib.hid hTe
      clear hTe
      cases hx : idxF L T with
      | none =>
        have HI := Lib.hid (atI_no hx)
        have htw' : Hid (twice L at_ (k + 1) = false) := by
          show _ = _
          simp only [twice, htw.out, Bool.false_or]
          rw [hTT, hx]; rfl
        clear hx
        go_wp2_with fail
        refine (at_any T hTb (Sl.In.below HL.out (hbw.mono hB)) HWF.out hlen).mono ?_
        rintro e w2 ⟨rfl, rfl⟩
        rw [HI.out]
        clear hTT
        go_wp2
        exact ⟨⟨k + 1, hlt, by go_num, htw', hbw⟩, by simp [intOf]; omega⟩
      | some i =>
        have HI := Lib.hid (atI_some hx)
        have htw' : Hid (mapE L at_ N perm = 9 ∧ mapX L at_ N perm = L) := by
          have h9 : mapE L at_ N perm = 9 := by
            rw [HE.out, twice_true (k := k) (by rw [hTT, hx]; rfl) hlt]; rfl
          refine ⟨h9, ?_⟩
          unfold mapX; rw [h9]; rfl
        clear hx
        go_wp2_with fail
        refine (at_any T hTb (Sl.In.below HL.out (hbw.mono hB)) HWF.out hlen).mono ?_
        rintro e w2 ⟨rfl, rfl⟩
        rw [HI.out]
        clear hTT
        go_wp2
        go_ret2
        rw [htw'.out.1, htw'.out.2]
        exact ⟨hbw, _, rfl, MemV.of (Sl.In.below HL.out (hbw.mono hB)) HA.out (Nat.le_trans hB hbw.size)⟩
    · obtain rfl : k = N := by omega
      by_cases hbig : 64 < L.length + k
      · have h4 : mapE L at_ k perm = 4 := by rw [HE.out, htw.out, if_pos hbig]; rfl
        have HEE : Hid (mapE L at_ k perm = 4 ∧ mapX L at_ k perm = L) := by
          refine ⟨h4, ?_⟩
          unfold mapX; rw [h4]; rfl
        clear h4
        go_wp2
        go_ret2
        rw [HEE.out.1, HEE.out.2]
        exact ⟨hbw, _, rfl, MemV.of (Sl.In.below HL.out (hbw.mono hB)) HA.out (Nat.le_trans hB hbw.size)⟩
      · have h4 : mapE L at_ k perm = 0 := by rw [HE.out, htw.out, if_neg hbig]; rfl
        have HEE : Hid (mapE L at_ k perm = 0 ∧ mapX L at_ k perm = lowL L at_ ++ (newL at_ perm k ++ highL L at_)) := by
          refine ⟨h4, ?_⟩
          unfold mapX; rw [h4, if_pos rfl, Int.toNat_natCast]
        clear h4
        go_wp2
        go_loopw [12, 13] (fun o i wr => ∃ j : Nat, j ≤ L.length ∧ i = .int .i64 j ∧ Hid (wr.ownsRow w.heap.size 41 3 o j ((L.take j).flatMap Pg.cells)) ∧ Hid (∀ q : Nat, ∀ hq : q < L.length, q < j → (L[q]).at_ < at_) ∧ Below w.heap.size w wr) (fun _ i _ => L.length - (intOf i).toNat)
        case atStart => exact ⟨0, Nat.zero_le _, rfl, World.ownsRow_nil _ _ _ _, fun q _ hq => absurd hq (Nat.not_lt_zero _), hbw⟩
        case round =>
          obtain ⟨j, hj, rfl, hown, hlow, hbw⟩ := hrel
          have hso := hbw.size
          obtain ⟨oa, oc, rfl⟩ := own_form hown.out
          have hLr := Sl.In.below HL.out (hbw.mono hB)
          have hstop : (∀ hk : j < L.length, at_ ≤ (L[j]).at_) → Hid (lowL L at_ = L.take j) := fun h => low_take HRP.out hlow.out h
          by_cases hjl : j < L.length
          · obtain ⟨b, off, rfl, hb, c0, c1, c2⟩ := Mem.pg hLr hjl
            have i1 : (0 : Int) ≤ (j : Int) := by omega
            have i2 : (j : Int) < (L.length : Int) := by omega
            clear hLr
            by_cases hat2 : (L[j]).at_ < at_
            · have hlow' : Hid (∀ q : Nat, ∀ hq : q < L.length, q < j + 1 → (L[q]).at_ < at_) := fun q hq hqj => by
                by_cases e : q = j
                · subst e; exact hat2
                · exact hlow.out q hq (by omega)
              have d1 : decide ((L[j]).at_ < at_) = true := decide_eq_true hat2
              clear hstop
              go_wp2_with
                (at_builtin
                 refine wpList_append_own_wide _ rfl (.tmp 84) (.tmp 89) 32 rfl w.heap.size 41 i0 _ 3 32 Tryd.underlying32 hi0 hz0 hz1 hz2 rfl (by omega) _ j _ rfl (hown.out.alloc _) ⟨wr.heap.size, 0, none⟩ 1 1 _ rfl rfl (cells_new wr (L[j]).cells 41 _ rfl rfl) (Pg.one _) ?_ ?_ ?_ ?_
                 rotate_right
                 intro v5 w5 hown5 hg5 _)
              have hown6 : Hid (w5.ownsRow w.heap.size 41 3 v5 (j + 1) ((L.take (j + 1)).flatMap Pg.cells)) := by
                show World.ownsRow _ _ _ _ _ _ _
                rw [List.take_add_one, List.getElem?_eq_getElem hjl]
                exact one_more hown5
              have hB6 : Below w.heap.size w w5 := (hbw.alloc (by omega) _).grown hg5 (by simp; omega) (fun j hj => (hown.out.lt j hj).1)
              exact ⟨⟨j + 1, hjl, by go_num, hown6, hlow', hB6⟩, by simp [intOf]; omega⟩
              case refine_1 => unfold maxLen; omega
              case refine_2 => omega
              case refine_3 => first | omega | (simp; omega)
            · have hL2 := hstop (fun _ => by omega)
              have d1 : decide ((L[j]).at_ < at_) = false := decide_eq_false hat2
              clear hstop
              go_wp2
              clear hlow c0 c1 c2 i1 i2
              go_loopw [12, 14] (fun o i wr => ∃ q : Nat, q ≤ k ∧ i = .int .i64 q ∧ Hid (wr.ownsRow w.heap.size 41 3 o (j + q) ((L.take j ++ newL at_ perm q).flatMap Pg.cells)) ∧ Below w.heap.size w wr) (fun _ i _ => k - (intOf i).toNat)
              case atStart =>
                refine ⟨0, Nat.zero_le _, rfl, ?_, hbw⟩
                have : newL at_ perm 0 = [] := rfl
                show World.ownsRow _ _ _ _ _ _ _
                rw [this, List.append_nil]
                exact hown.out
              case round =>
                clear hown hbw hso
                obtain ⟨q, hq, rfl, hown, hbw⟩ := hrel
                have hso := hbw.size
                obtain ⟨oa, oc, rfl⟩ := own_form hown.out
                by_cases hql : q < k
                · obtain ⟨T, hTe⟩ : ∃ T, T = at_ + 256 * (q : Int) := ⟨_, rfl⟩
                  have hTT : at_ + 256 * (q : Int) = T := hTe.symm
                  have ha1 : at_ + 256 * (q : Int) ≤ 18446744073709551615 := by omega
                  have hPe : newP at_ perm q = ⟨T, perm, zerosB 256⟩ := by unfold newP; rw [hTT]
                  have HPE := Lib.hid hPe
                  clear hTe hPe
                  go_wp2_with
                    (at_builtin
                     refine wpList_append_own_wide _ rfl (.tmp 96) (.tmp 106) 32 rfl w.heap.size 41 i0 _ 3 32 Tryd.underlying32 hi0 hz0 hz1 hz2 rfl (by omega) _ (j + q) _ rfl ((hown.out.alloc _).alloc _) ⟨wr.heap.size + 1, 0, none⟩ 1 1 _ rfl rfl (cells_new (wr.alloc (.cells Z 5)) (Pg.mk T perm (zerosB 256)).cells 41 _ (by simp) (by simp [Pg.cells])) (Pg.one _) ?_ ?_ ?_ ?_
                     rotate_right
                     intro v5 w5 hown5 hg5 _)
                  have hown6 : Hid (w5.ownsRow w.heap.size 41 3 v5 (j + (q + 1)) ((L.take j ++ newL at_ perm (q + 1)).flatMap Pg.cells)) := by
                    show World.ownsRow _ _ _ _ _ _ _
                    rw [newL_succ, ← List.append_assoc, HPE.out]
                    exact one_more hown5
                  have hB6 : Below w.heap.size w w5 := ((hbw.alloc (by omega) _).alloc (by simp; omega) _).grown hg5 (by simp; omega) (fun j hj => (hown.out.lt j hj).1)
                  exact ⟨⟨q + 1, hql, by go_num, hown6, hB6⟩, by simp [intOf]; omega⟩
                  case refine_1 => unfold maxLen; omega
                  case refine_2 => omega
                  case refine_3 => first | omega | (simp; omega)
                · obtain rfl : q = k := by omega
                  go_wp2
                  go_loopw [12, 15] (fun o i wr => ∃ y m : Nat, y ≤ L.length ∧ i = .int .i64 y ∧ m ≤ j + q + y ∧ Hid ((L.take j ++ (newL at_ perm q ++ highL (L.take y) at_)).length = m) ∧ Hid (wr.ownsRow w.heap.size 41 3 o m ((L.take j ++ (newL at_ perm q ++ highL (L.take y) at_)).flatMap Pg.cells)) ∧ Below w.heap.size w wr) (fun _ i _ => L.length - (intOf i).toNat)
                  case atStart =>
                    have h0 : highL (L.take 0) at_ = [] := rfl
                    refine ⟨0, j + q, Nat.zero_le _, rfl, Nat.le_refl _, ?_, ?_, hbw⟩
                    · show _ = _
                      rw [h0, List.append_nil, List.length_append, newL_len, List.length_take]; omega
                    · show World.ownsRow _ _ _ _ _ _ _
                      rw [h0, List.append_nil]; exact hown.out
                  case round =>
                    clear hown hbw hso
                    obtain ⟨y, m, hy, rfl, hm, hml, hown, hbw⟩ := hrel
                    have hso := hbw.size
                    obtain ⟨oa, oc, rfl⟩ := own_form hown.out
                    have hLr := Sl.In.below HL.out (hbw.mono hB)
                    by_cases hyl : y < L.length
                    · obtain ⟨b', off', h', hb', c0, c1, c2⟩ := Mem.pg hLr hyl
                      obtain ⟨rfl, rfl⟩ : b = b' ∧ off = off' := by simpa using h'
                      have i1 : (0 : Int) ≤ (y : Int) := by omega
                      have i2 : (y : Int) < (L.length : Int) := by omega
                      have hst := high_step (at_ := at_) hyl
                      clear hLr
                      by_cases hat2 : at_ < (L[y]).at_
                      · rw [if_pos hat2] at hst
                        have HST := Lib.hid hst
                        clear hst
                        go_wp2_with
                          (at_builtin
                           refine wpList_append_own_wide _ rfl (.tmp 121) (.tmp 126) 32 rfl w.heap.size 41 i0 _ 3 32 Tryd.underlying32 hi0 hz0 hz1 hz2 rfl (by omega) _ m _ rfl (hown.out.alloc _) ⟨wr.heap.size, 0, none⟩ 1 1 _ rfl rfl (cells_new wr (L[y]).cells 41 _ rfl rfl) (Pg.one _) ?_ ?_ ?_ ?_
                           rotate_right
                           intro v5 w5 hown5 hg5 _)
                        have hml' : Hid ((L.take j ++ (newL at_ perm q ++ highL (L.take (y + 1)) at_)).length = m + 1) := by
                          show _ = _
                          rw [HST.out, ← List.append_assoc, ← List.append_assoc, List.length_append, List.append_assoc, hml.out]; rfl
                        have hown6 : Hid (w5.ownsRow w.heap.size 41 3 v5 (m + 1) ((L.take j ++ (newL at_ perm q ++ highL (L.take (y + 1)) at_)).flatMap Pg.cells)) := by
                          show World.ownsRow _ _ _ _ _ _ _
                          rw [HST.out, ← List.append_assoc, ← List.append_assoc]
                          refine one_more ?_
                          rw [List.append_assoc]
                          exact hown5
                        have hB6 : Below w.heap.size w w5 := (hbw.alloc (by omega) _).grown hg5 (by simp; omega) (fun j hj => (hown.out.lt j hj).1)
                        exact ⟨⟨y + 1, m + 1, hyl, by go_num, by omega, hml', hown6, hB6⟩, by simp [intOf]; omega⟩
                        case refine_1 => unfold maxLen; omega
                        case refine_2 => omega
                        case refine_3 => first | omega | (simp; omega)
                      · rw [if_neg hat2, List.append_nil] at hst
                        have HST := Lib.hid hst
                        clear hst
                        go_wp2
                        exact ⟨⟨y + 1, m, hyl, by go_num, by omega, by show _ = _; rw [HST.out]; exact hml.out, by show World.ownsRow _ _ _ _ _ _ _; rw [HST.out]; exact hown.out, hbw⟩, by simp [intOf]; omega⟩
                    · obtain rfl : y = L.length := by omega
                      clear hLr
                      go_wp2
                      go_ret2
                      rw [HEE.out.1, HEE.out.2, hL2.out]
                      have h1 := hml.out
                      have h2 := hown.out
                      simp only [List.take_length] at h1 h2 ⊢
                      refine ⟨hbw, _, rfl, OwnV.mem (base := w.heap.size) ?_⟩
                      unfold OwnV
                      rw [h1]; exact h2
          · have hL2 := hstop (fun h => absurd h hjl)
            obtain rfl : j = L.length := by omega
            clear hstop hLr
            go_wp2
            clear hlow
            go_loopw [12, 14] (fun o i wr => ∃ q : Nat, q ≤ k ∧ i = .int .i64 q ∧ Hid (wr.ownsRow w.heap.size 41 3 o (L.length + q) ((L.take L.length ++ newL at_ perm q).flatMap Pg.cells)) ∧ Below w.heap.size w wr) (fun _ i _ => k - (intOf i).toNat)
            case atStart =>
              refine ⟨0, Nat.zero_le _, rfl, ?_, hbw⟩
              have : newL at_ perm 0 = [] := rfl
              show World.ownsRow _ _ _ _ _ _ _
              rw [this, List.append_nil]
              exact hown.out
            case round =>
              clear hown hbw hso
              obtain ⟨q, hq, rfl, hown, hbw⟩ := hrel
              have hso := hbw.size
              obtain ⟨oa, oc, rfl⟩ := own_form hown.out
              by_cases hql : q < k
              · obtain ⟨T, hTe⟩ : ∃ T, T = at_ + 256 * (q : Int) := ⟨_, rfl⟩
                have hTT : at_ + 256 * (q : Int) = T := hTe.symm
                have ha1 : at_ + 256 * (q : Int) ≤ 18446744073709551615 := by omega
                have hPe : newP at_ perm q = ⟨T, perm, zerosB 256⟩ := by unfold newP; rw [hTT]
                have HPE := Lib.hid hPe
                clear hTe hPe
                go_wp2_with
                  (at_builtin
                   refine wpList_append_own_wide _ rfl (.tmp 96) (.tmp 106) 32 rfl w.heap.size 41 i0 _ 3 32 Tryd.underlying32 hi0 hz0 hz1 hz2 rfl (by omega) _ (L.length + q) _ rfl ((hown.out.alloc _).alloc _) ⟨wr.heap.size + 1, 0, none⟩ 1 1 _ rfl rfl (cells_new (wr.alloc (.cells Z 5)) (Pg.mk T perm (zerosB 256)).cells 41 _ (by simp) (by simp [Pg.cells])) (Pg.one _) ?_ ?_ ?_ ?_
                   rotate_right
                   intro v5 w5 hown5 hg5 _)
                have hown6 : Hid (w5.ownsRow w.heap.size 41 3 v5 (L.length + (q + 1)) ((L.take L.length ++ newL at_ perm (q + 1)).flatMap Pg.cells)) := by
                  show World.ownsRow _ _ _ _ _ _ _
                  rw [newL_succ, ← List.append_assoc, HPE.out]
                  exact one_more hown5
                have hB6 : Below w.heap.size w w5 := ((hbw.alloc (by omega) _).alloc (by simp; omega) _).grown hg5 (by simp; omega) (fun j hj => (hown.out.lt j hj).1)
                exact ⟨⟨q + 1, hql, by go_num, hown6, hB6⟩, by simp [intOf]; omega⟩
                case refine_1 => unfold maxLen; omega
                case refine_2 => omega
                case refine_3 => first | omega | (simp; omega)
              · obtain rfl : q = k := by omega
                go_wp2
                go_loopw [12, 15] (fun o i wr => ∃ y m : Nat, y ≤ L.length ∧ i = .int .i64 y ∧ m ≤ L.length + q + y ∧ Hid ((L.take L.length ++ (newL at_ perm q ++ highL (L.take y) at_)).length = m) ∧ Hid (wr.ownsRow w.heap.size 41 3 o m ((L.take L.length ++ (newL at_ perm q ++ highL (L.take y) at_)).flatMap Pg.cells)) ∧ Below w.heap.size w wr) (fun _ i _ => L.length - (intOf i).toNat)
                case atStart =>
                  have h0 : highL (L.take 0) at_ = [] := rfl
                  refine ⟨0, L.length + q, Nat.zero_le _, rfl, Nat.le_refl _, ?_, ?_, hbw⟩
                  · show _ = _
                    rw [h0, List.append_nil, List.length_append, newL_len, List.length_take]; omega
                  · show World.ownsRow _ _ _ _ _ _ _
                    rw [h0, List.append_nil]; exact hown.out
                case round =>
                  clear hown hbw hso
                  obtain ⟨y, m, hy, rfl, hm, hml, hown, hbw⟩ := hrel
                  have hso := hbw.size
                  obtain ⟨oa, oc, rfl⟩ := own_form hown.out
                  have hLr := Sl.In.below HL.out (hbw.mono hB)
                  by_cases hyl : y < L.length
                  · obtain ⟨b, off, rfl, hb, c0, c1, c2⟩ := Mem.pg hLr hyl
                    have i1 : (0 : Int) ≤ (y : Int) := by omega
                    have i2 : (y : Int) < (L.length : Int) := by omega
                    have hst := high_step (at_ := at_) hyl
                    clear hLr
                    by_cases hat2 : at_ < (L[y]).at_
                    · rw [if_pos hat2] at hst
                      have HST := Lib.hid hst
                      clear hst
                      go_wp2_with
                        (at_builtin
                         refine wpList_append_own_wide _ rfl (.tmp 121) (.tmp 126) 32 rfl w.heap.size 41 i0 _ 3 32 Tryd.underlying32 hi0 hz0 hz1 hz2 rfl (by omega) _ m _ rfl (hown.out.alloc _) ⟨wr.heap.size, 0, none⟩ 1 1 _ rfl rfl (cells_new wr (L[y]).cells 41 _ rfl rfl) (Pg.one _) ?_ ?_ ?_ ?_
                         rotate_right
                         intro v5 w5 hown5 hg5 _)
                      have hml' : Hid ((L.take L.length ++ (newL at_ perm q ++ highL (L.take (y + 1)) at_)).length = m + 1) := by
                        show _ = _
                        rw [HST.out, ← List.append_assoc, ← List.append_assoc, List.length_append, List.append_assoc, hml.out]; rfl
                      have hown6 : Hid (w5.ownsRow w.heap.size 41 3 v5 (m + 1) ((L.take L.length ++ (newL at_ perm q ++ highL (L.take (y + 1)) at_)).flatMap Pg.cells)) := by
                        show World.ownsRow _ _ _ _ _ _ _
                        rw [HST.out, ← List.append_assoc, ← List.append_assoc]
                        refine one_more ?_
                        rw [List.append_assoc]
                        exact hown5
                      have hB6 : Below w.heap.size w w5 := (hbw.alloc (by omega) _).grown hg5 (by simp; omega) (fun j hj => (hown.out.lt j hj).1)
                      exact ⟨⟨y + 1, m + 1, hyl, by go_num, by omega, hml', hown6, hB6⟩, by simp [intOf]; omega⟩
                      case refine_1 => unfold maxLen; omega
                      case refine_2 => omega
                      case refine_3 => first | omega | (simp; omega)
                    · rw [if_neg hat2, List.append_nil] at hst
                      have HST := Lib.hid hst
                      clear hst
                      go_wp2
                      exact ⟨⟨y + 1, m, hyl, by go_num, by omega, by show _ = _; rw [HST.out]; exact hml.out, by show World.ownsRow _ _ _ _ _ _ _; rw [HST.out]; exact hown.out, hbw⟩, by simp [intOf]; omega⟩
                  · obtain rfl : y = L.length := by omega
                    clear hLr
                    go_wp2
                    go_ret2
                    rw [HEE.out.1, HEE.out.2, hL2.out]
                    have h1 := hml.out
                    have h2 := hown.out
                    simp only [List.take_length] at h1 h2 ⊢
                    refine ⟨hbw, _, rfl, OwnV.mem (base := w.heap.size) ?_⟩
                    unfold OwnV
                    rw [h1]; exact h2
theorem rmap_any {A : Option Addr} {cap : Nat} {L : List Pg} {w : World} {B : Nat} (at_ n perm : Int) (hat : 0 ≤ at_ ∧ at_ ≤ 18446744073709551615)
    (hL : Mem w B A cap L) (hA : A = none → cap = 0) (hB : B ≤ w.heap.size) (hwf : ∀ p ∈ L, p.ok) :
    Calls Tryd.prog 36 #[.slice A L.length cap, .int .u64 at_, .int .i64 n, .int .i64 perm] w fun e w' => Below w.heap.size w w' ∧ ∃ v, e = .returned (.tuple #[v, .int .i64 (mapE L at_ n perm)]) ∧ MemV w' v (mapX L at_ n perm) := by
  by_cases hok : mapOk L at_ n perm
  · obtain ⟨N, rfl⟩ := Int.eq_ofNat_of_zero_le (show 0 ≤ n by have := hok.2.2.1.1; omega)
    exact rmap_good at_ perm N hat hok hL hA hB hwf
  · exact rmap_bad_any at_ n perm hat hok hL hA hB hwf
end Go.Proofs.YtajhehmkdlebbaaDoor
