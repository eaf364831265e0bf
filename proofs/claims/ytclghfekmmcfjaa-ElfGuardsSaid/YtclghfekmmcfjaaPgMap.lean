/- page.Map. -/
import Derived.Test.YtclghfekmmcfjaaPgMapP
import Derived.Test.YtclghfekmmcfjaaPgSort
import Derived.Test.YtclghfekmmcfjaaPgRep
namespace Go.Proofs.Ytclghfekmmcfjaa
open Go.ChangeShapes Go.WideShapes Go.ChangeAt Go.RowKit Go.Deep Go.Maps Go.WideMaps
set_option maxRecDepth 100000
set_option maxHeartbeats 2000000 in
theorem map_bad_any {A : Option Addr} {cap : Nat} {L : List Pg} {w : World} {B : Nat} (at_ n perm : Int) (hat : 0 ≤ at_ ∧ at_ ≤ 18446744073709551615) (hno : ¬ mapOk L at_ n perm)
    (hL : Mem w B A cap L) (hA : A = none → cap = 0) (hB : B ≤ w.heap.size) (hwf : ∀ p ∈ L, p.ok) (hlen : L.length ≤ 140737488351232) :
    Calls Try.prog 29 #[.slice A L.length cap, .int .u64 at_, .int .i64 n, .int .i64 perm] w fun e w' => Below w.heap.size w w' ∧ ∃ v, e = .returned (.tuple #[v, .int .i64 (mapE L at_ n perm)]) ∧ MemV w' v (mapX L at_ n perm) := by
  have hE : mapE L at_ n perm = 1 := by unfold mapE; rw [if_neg hno]
  have hX : mapX L at_ n perm = L := by unfold mapX; rw [hE]; rfl
  have HE := Lib.hid hE
  have HX := Lib.hid hX
  have HA := Lib.hid hA
  have HL := Lib.hid hL
  have HWF := Lib.hid hwf
  have hcc := map_bad hno
  clear hE hX hA hL hwf hno
  rcases hcc with hR | ⟨hR, hcc⟩
  · have HR := Lib.hid hR
    clear hR
    go_enter Try.func29, Try.ntmps29
    go_wp2_with fail
    refine (right_any HL.out hB HWF.out hlen).mono ?_
    rintro e w1 ⟨rfl, hb1⟩
    rw [HR.out]
    go_wp2
    go_ret2
    rw [HE.out, HX.out]
    exact ⟨hb1, _, rfl, MemV.of (Sl.In.below HL.out (hb1.mono hB)) HA.out (Nat.le_trans hB hb1.size)⟩
  · have HR := Lib.hid hR
    clear hR
    have hE0 : (at_ % 256 = 0 ∧ n ≤ 64 ∧ 18446744073709551616 < at_ + 256 * n) → IntKind.u64.wrap (IntKind.u64.wrap (at_ + n * 256) - 1) = at_ + n * 256 - 18446744073709551617 := by
      intro h; rw [IntKind.wrap_u64, IntKind.wrap_u64]; omega
    rcases hcc with c | ⟨c0, c | ⟨c1, c | ⟨c2, c | ⟨c3, c | ⟨c4, c⟩⟩⟩⟩⟩
    · have e1 : (at_ % 256 != 0) = true := by simpa using c
      clear c hE0
      go_enter Try.func29, Try.ntmps29
      go_wp2_with fail
      refine (right_any HL.out hB HWF.out hlen).mono ?_
      rintro e w1 ⟨rfl, hb1⟩
      rw [HR.out]
      go_wp2
      go_ret2
      rw [HE.out, HX.out]
      exact ⟨hb1, _, rfl, MemV.of (Sl.In.below HL.out (hb1.mono hB)) HA.out (Nat.le_trans hB hb1.size)⟩
    · have e1 : (at_ % 256 != 0) = false := by simpa using c0
      clear c0 hE0
      go_enter Try.func29, Try.ntmps29
      go_wp2_with fail
      refine (right_any HL.out hB HWF.out hlen).mono ?_
      rintro e w1 ⟨rfl, hb1⟩
      rw [HR.out]
      go_wp2
      go_ret2
      rw [HE.out, HX.out]
      exact ⟨hb1, _, rfl, MemV.of (Sl.In.below HL.out (hb1.mono hB)) HA.out (Nat.le_trans hB hb1.size)⟩
    · have e1 : (at_ % 256 != 0) = false := by simpa using c0
      clear c0 hE0
      go_enter Try.func29, Try.ntmps29
      go_wp2_with fail
      refine (right_any HL.out hB HWF.out hlen).mono ?_
      rintro e w1 ⟨rfl, hb1⟩
      rw [HR.out]
      go_wp2
      go_ret2
      rw [HE.out, HX.out]
      exact ⟨hb1, _, rfl, MemV.of (Sl.In.below HL.out (hb1.mono hB)) HA.out (Nat.le_trans hB hb1.size)⟩
    · have e1 : (at_ % 256 != 0) = false := by simpa using c0
      clear c0 hE0
      go_enter Try.func29, Try.ntmps29
      go_wp2_with fail
      refine (right_any HL.out hB HWF.out hlen).mono ?_
      rintro e w1 ⟨rfl, hb1⟩
      rw [HR.out]
      go_wp2
      go_ret2
      rw [HE.out, HX.out]
      exact ⟨hb1, _, rfl, MemV.of (Sl.In.below HL.out (hb1.mono hB)) HA.out (Nat.le_trans hB hb1.size)⟩
    · have e1 : (at_ % 256 != 0) = false := by simpa using c0
      clear c0 hE0
      go_enter Try.func29, Try.ntmps29
      go_wp2_with fail
      refine (right_any HL.out hB HWF.out hlen).mono ?_
      rintro e w1 ⟨rfl, hb1⟩
      rw [HR.out]
      go_wp2
      go_ret2
      rw [HE.out, HX.out]
      exact ⟨hb1, _, rfl, MemV.of (Sl.In.below HL.out (hb1.mono hB)) HA.out (Nat.le_trans hB hb1.size)⟩
    · have e1 : (at_ % 256 != 0) = false := by simpa using c0
      have hE1 := hE0 ⟨c0, c2, c⟩
      have e2 : at_ + n * 256 - 18446744073709551617 < at_ := by omega
      clear c0 hE0
      go_enter Try.func29, Try.ntmps29
      go_wp2_with fail
      refine (right_any HL.out hB HWF.out hlen).mono ?_
      rintro e w1 ⟨rfl, hb1⟩
      rw [HR.out]
      go_wp2
      go_ret2
      rw [HE.out, HX.out]
      exact ⟨hb1, _, rfl, MemV.of (Sl.In.below HL.out (hb1.mono hB)) HA.out (Nat.le_trans hB hb1.size)⟩
set_option maxHeartbeats 4000000 in
theorem map_good {A : Option Addr} {cap : Nat} {L : List Pg} {w : World} {B : Nat} (at_ perm : Int) (N : Nat) (hat : 0 ≤ at_ ∧ at_ ≤ 18446744073709551615) (hok : mapOk L at_ N perm)
    (hL : Mem w B A cap L) (hA : A = none → cap = 0) (hB : B ≤ w.heap.size) (hwf : ∀ p ∈ L, p.ok) :
    Calls Try.prog 29 #[.slice A L.length cap, .int .u64 at_, .int .i64 (N : Int), .int .i64 perm] w fun e w' => Below w.heap.size w w' ∧ ∃ v, e = .returned (.tuple #[v, .int .i64 (mapE L at_ N perm)]) ∧ MemV w' v (mapX L at_ N perm) := by
  obtain ⟨hR, h256, ⟨n1, n64⟩, ⟨p0, p7⟩, hend⟩ := id hok
  have hRP := rightB_out hR
  have hlen : L.length ≤ 140737488351232 := by have := hRP.1; omega
  obtain ⟨i0, hi0, hz0, hz1, hz2⟩ := info_parts Try.info47
  have hE : mapE L at_ N perm = (if twice L at_ N then 9 else if 64 < L.length + N then 4 else 0) := by unfold mapE; rw [if_pos hok, Int.toNat_natCast]
  have HE := Lib.hid hE
  have HOK := Lib.hid hok
  have HR := Lib.hid hR
  have HRP := Lib.hid hRP
  have HA := Lib.hid hA
  have HL := Lib.hid hL
  have HWF := Lib.hid hwf
  have H256 := Lib.hid h256
  have e1 : (at_ % 256 != 0) = false := by simpa using h256
  obtain ⟨E1, hE1⟩ : ∃ E1, E1 = IntKind.u64.wrap (IntKind.u64.wrap (at_ + (N : Int) * 256) - 1) := ⟨_, rfl⟩
  have hE2 : at_ ≤ E1 := by rw [hE1, IntKind.wrap_u64, IntKind.wrap_u64]; omega
  have hE3 : IntKind.u64.wrap (IntKind.u64.wrap (at_ + (N : Int) * 256) - 1) = E1 := hE1.symm
  clear hE hok hR hRP hA hL hwf h256 hE1
  go_enter Try.func29, Try.ntmps29
  go_wp2_with fail
  refine (right_any HL.out hB HWF.out hlen).mono ?_
  rintro e w1 ⟨rfl, hb1⟩
  rw [HR.out]
  go_wp2_with fail
  refine (table_any (Sl.In.below HL.out (hb1.mono hB)) (Nat.le_trans hB hb1.size) HWF.out hlen).mono ?_
  rintro e w2 ⟨rfl, hT2, hb2⟩
  have hbw2 := hb1.trans (hb2.mono hb1.size)
  go_wp2_with fail
  refine (clone_any (Sl.In.below HL.out (hbw2.mono hB)) HA.out HRP.out.1).mono ?_
  rintro e w3 ⟨v3, rfl, hown3, hb3⟩
  have hbw3 := hbw2.trans (hb3.mono hbw2.size)
  have hT3 := hT2.below hb3
  have hT2l := hT2.lt
  have HOWN3 : Hid (w3.ownsRow w2.heap.size 47 3 v3 (L.length + 0) ((L ++ newL at_ perm 0).flatMap Pg.cells)) := by
    have : newL at_ perm 0 = [] := rfl
    show World.ownsRow _ _ _ _ _ _ _
    rw [this, List.append_nil]; exact hown3
  have HT3 := Lib.hid hT3
  have hs23 := hb3.size
  clear hown3 hT3 hT2
  go_wp2
  go_loopw [11, 56] (fun o i wr => ∃ k : Nat, k ≤ N ∧ i = .int .i64 k ∧ Hid (wr.ownsRow w2.heap.size 47 3 o (L.length + k) ((L ++ newL at_ perm k).flatMap Pg.cells)) ∧ Hid (TabAt wr w1.heap.size L L.length) ∧ Hid (twice L at_ k = false) ∧ Below w.heap.size w wr ∧ w2.heap.size ≤ wr.heap.size) (fun _ i _ => N - (intOf i).toNat)
  case atStart => exact ⟨0, Nat.zero_le _, rfl, HOWN3, HT3, rfl, hbw3, hs23⟩
  case round =>
    obtain ⟨k, hk, rfl, hown, hT, htw, hbw, hzz⟩ := hrel
    by_cases hlt : k < N
    · have hso := hbw.size
      have ha1 : at_ + (k : Int) * 256 ≤ 18446744073709551360 := by omega
      go_wp2_with fail
      refine (repeat_any wr).mono ?_
      rintro e w4 ⟨rfl, hb4⟩
      obtain ⟨T, hTe⟩ : ∃ T, T = at_ + (k : Int) * 256 := ⟨_, rfl⟩
      have hTT : at_ + (k : Int) * 256 = T := hTe.symm
      have hT256 : T - T % 256 = T := by have := H256.out; omega
      have hlk := tab_look (w := w4.alloc (.cells #[.int .u64 T, .int .i64 perm, .string (zerosB 256)] 47)) (a := T) ((hT.out.below hb4).below ((Below.refl _ _).alloc (Nat.le_refl _) _)) (by omega)
      have hix := ix_eq HRP.out T
      rw [hT256] at hix
      rw [hix] at hlk
      rw [hTT]
      have HTE := Lib.hid hTe
      have hTb : 0 ≤ T ∧ T ≤ 18446744073709551360 := by omega
      clear hTe hTT hix hT256 ha1
      cases hx : (idxF L T).isSome
      · rw [hx] at hlk
        have hTk : T = at_ + 256 * k := by have := HTE.out; omega
        have htw' : Hid (twice L at_ (k + 1) = false) := by
          show _ = _
          simp only [twice, htw.out, Bool.false_or]
          rw [← hTk]; exact hx
        clear hx hTk
        have hown4 := own_below hown.out hb4
        obtain ⟨a4, c4, rfl⟩ := own_form hown4
        have HOWN4 := Lib.hid hown4
        have HB4 := Lib.hid hb4
        clear hown4 hb4
        go_wp2_with
          (at_builtin
           refine wpList_append_own_wide _ rfl (.tmp 77) (.tmp 79) 37 rfl w2.heap.size 47 i0 _ 3 32 Try.underlying37 hi0 hz0 hz1 hz2 rfl (by omega) _ (L.length + k) _ rfl ((HOWN4.out.alloc _).alloc _) ⟨w4.heap.size + 1, 0, none⟩ 1 1 _ rfl rfl (cells_new (w4.alloc (.cells #[.int .u64 T, .int .i64 perm, .string (zerosB 256)] 47)) (newP T perm 0).cells 47 _ (by simp) (by simp [newP, Pg.cells])) (Pg.one _) ?_ ?_ ?_ ?_
           rotate_right
           intro v5 w5 hown5 hg5 _)
        have hs4 := HB4.out.size
        have hPe : newP T perm 0 = newP at_ perm k := by
          have := HTE.out
          simp only [newP, Pg.mk.injEq, and_true]
          omega
        have hown6 : Hid (w5.ownsRow w2.heap.size 47 3 v5 (L.length + (k + 1)) ((L ++ newL at_ perm (k + 1)).flatMap Pg.cells)) := by
          show World.ownsRow _ _ _ _ _ _ _
          rw [hPe] at hown5
          rw [newL_succ, ← List.append_assoc]
          exact one_more hown5
        have hB6 : Below w.heap.size w w5 := (((hbw.trans (HB4.out.mono hso)).alloc (by omega) _).alloc (by simp; omega) _).grown hg5 (by simp; omega) (fun j hj => by have := (HOWN4.out.lt j hj).1; have := hbw2.size; omega)
        have hT6 := (((hT.out.below HB4.out).below ((Below.refl _ _).alloc (Nat.le_refl _) (.cells #[.int .u64 T, .int .i64 perm, .string (zerosB 256)] 47))).below ((Below.refl _ _).alloc (Nat.le_refl _) (.cells #[.int .u64 T, .int .i64 perm, .string (zerosB 256)] 47))).kept hg5 (fun e => by have := (HOWN4.out.lt _ e.symm).1; omega)
        have hz5 := hg5.size
        exact ⟨⟨k + 1, hlt, by go_num, hown6, hT6, htw', hB6, by simp at hz5; omega⟩, by simp [intOf]; omega⟩
        case refine_1 => unfold maxLen; omega
        case refine_2 => have := HRP.out.1; omega
        case refine_3 => have := HB4.out.size; simp; omega
      · rw [hx] at hlk
        have hTk : T = at_ + 256 * k := by have := HTE.out; omega
        have htw' : Hid (twice L at_ N = true) := by
          show _ = _
          rw [hTk] at hx
          exact twice_true hx hlt
        clear hx hTk
        have HEE : Hid (mapE L at_ N perm = 9 ∧ mapX L at_ N perm = L) := by
          have h9 : mapE L at_ N perm = 9 := by rw [HE.out, htw'.out]; rfl
          refine ⟨h9, ?_⟩
          unfold mapX; rw [h9]; rfl
        obtain ⟨a4, c4, rfl⟩ := own_form hown.out
        go_wp2
        go_ret2
        rw [HEE.out.1, HEE.out.2]
        have hb5 := (hbw.trans (hb4.mono hso)).alloc (by have := hb4.size; omega) (.cells #[.int .u64 T, .int .i64 perm, .string (zerosB 256)] 47)
        exact ⟨hb5, _, rfl, MemV.of (Sl.In.below HL.out (hb5.mono hB)) HA.out (Nat.le_trans hB hb5.size)⟩
    · obtain rfl : k = N := by omega
      obtain ⟨a4, c4, rfl⟩ := own_form hown.out
      obtain ⟨g, rfl⟩ := own_some hown.out (by omega)
      by_cases hbig : 64 < L.length + k
      · have h4 : mapE L at_ k perm = 4 := by rw [HE.out, htw.out, if_pos hbig]; rfl
        have HEE : Hid (mapE L at_ k perm = 4 ∧ mapX L at_ k perm = L) := by
          refine ⟨h4, ?_⟩
          unfold mapX; rw [h4]; rfl
        clear h4
        go_wp2
        go_ret2
        rw [HEE.out.1, HEE.out.2]
        exact ⟨hbw, _, rfl, MemV.of (Sl.In.below HL.out (hbw.mono hB)) HA.out (Nat.le_trans hB hbw.size)⟩
      · have h4 : mapE L at_ k perm = 0 := by rw [HE.out, htw.out, if_neg hbig]; rfl
        have HEE : Hid (mapE L at_ k perm = 0 ∧ mapX L at_ k perm = lowL L at_ ++ (newL at_ perm k ++ highL L at_)) := by
          refine ⟨h4, ?_⟩
          unfold mapX; rw [h4, if_pos rfl, Int.toNat_natCast]
        clear h4
        have hll : (L ++ newL at_ perm k).length = L.length + k := by rw [List.length_append, newL_len]
        have hsort := sort_any (w := wr) (base := w2.heap.size) (g := g) (cap := c4) (l := L ++ newL at_ perm k) (by rw [hll]; exact hown.out) (by rw [hll]; omega)
        rw [hll] at hsort
        have HSORT := Lib.hid hsort
        have hgl := (hown.out.lt g rfl).1
        clear hsort hll
        go_wp2_with fail
        refine HSORT.out.mono ?_
        rintro e w7 ⟨rfl, l', hp, hs, hm, hb7⟩
        have hl' := mapX_sort HRP.out H256.out htw.out (by omega) hp (fun i j hi hj hij => Int.not_lt.2 (hs i j hi hj hij))
        have HL' := Lib.hid hl'
        have HM := Lib.hid hm
        have hb8 := hbw.trans (hb7.mono (show w.heap.size ≤ g by have := hbw3.size; have := hbw2.size; omega))
        clear hp hs hl' hm
        go_wp2
        go_ret2
        rw [HEE.out.1, HEE.out.2, ← HL'.out]
        have hlen' : l'.length = L.length + k := by rw [HL'.out]; exact mapX_len htw.out (by omega)
        exact ⟨hb8, _, rfl, some ⟨g, 0, none⟩, c4, (by rw [hlen']; rfl), HM.out, fun e => by cases e⟩
theorem map_any {A : Option Addr} {cap : Nat} {L : List Pg} {w : World} {B : Nat} (at_ n perm : Int) (hat : 0 ≤ at_ ∧ at_ ≤ 18446744073709551615)
    (hL : Mem w B A cap L) (hA : A = none → cap = 0) (hB : B ≤ w.heap.size) (hwf : ∀ p ∈ L, p.ok) (hlen : L.length ≤ 140737488351232) :
    Calls Try.prog 29 #[.slice A L.length cap, .int .u64 at_, .int .i64 n, .int .i64 perm] w fun e w' => Below w.heap.size w w' ∧ ∃ v, e = .returned (.tuple #[v, .int .i64 (mapE L at_ n perm)]) ∧ MemV w' v (mapX L at_ n perm) := by
  by_cases hok : mapOk L at_ n perm
  · obtain ⟨N, rfl⟩ := Int.eq_ofNat_of_zero_le (show 0 ≤ n by have := hok.2.2.1.1; omega)
    exact map_good at_ perm N hat hok hL hA hB hwf
  · exact map_bad_any at_ n perm hat hok hL hA hB hwf hlen
end Go.Proofs.Ytclghfekmmcfjaa
