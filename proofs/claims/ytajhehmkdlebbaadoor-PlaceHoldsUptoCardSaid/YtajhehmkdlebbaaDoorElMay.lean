/- elf.May: the plain function. -/
import Derived.Test.YtajhehmkdlebbaaDoorEl
namespace Go.Proofs.YtajhehmkdlebbaaDoor
open Go.ChangeShapes Go.WideShapes Go.ChangeAt Go.RowKit Go.Deep
set_option maxRecDepth 100000
set_option maxHeartbeats 1000000 in
theorem in_any (s : Sg) (e : Int) (b : Nat) (w : World) (he : 0 ≤ e ∧ e ≤ 18446744073709551615) (hs : SegA s) (ho : s.ok) (hb : b < w.heap.size) (hc : w.cell? ⟨b, 0, none⟩ = some (.int .u64 e)) :
    Calls Tryd.prog 89 #[.agg #[.int .u64 s.at_, .int .i64 s.perm, .string s.data, .int .u64 s.size], .pointer (some ⟨b, 0, none⟩)] w fun e' w' => e' = .returned (.bool (inB e s)) ∧ Below w.heap.size w w' := by
  have hB : Below w.heap.size w (w.alloc (.cells #[.int .u64 s.at_, .int .i64 s.perm, .string s.data, .int .u64 s.size] 108)) := (Below.refl _ _).alloc (Nat.le_refl _) _
  have HB := Lib.hid hB
  have hc1 := (hB.cell (p := ⟨b, 0, none⟩) hb).trans hc
  obtain ⟨c1, c2, ⟨c3, c4⟩, c5, ⟨c6, c7⟩, c8⟩ := hs
  have h0 := ho.1
  have hand := and1 (p := s.perm) (by omega)
  have hand0 : decide (s.perm % 2 = 1) = (s.perm % 2 == 1) := by by_cases h : s.perm % 2 = 1 <;> simp [h]
  clear hB hc c1 c5
  by_cases d1 : s.perm % 2 = 1
  · rw [decide_eq_true d1] at hand
    by_cases d2 : s.at_ ≤ e
    · have e1 : IntKind.u64.wrap (e - s.at_) = e - s.at_ := by rw [IntKind.wrap_u64]; omega
      by_cases d3 : e - s.at_ < s.size
      · have hT : inB e s = true := decide_eq_true ⟨d1, d2, by omega⟩
        have HT := Lib.hid hT
        clear hT d1 hand0
        go_enter Tryd.func89, Tryd.ntmps89
        go_wp2
        go_ret
        rw [HT.out]
        exact ⟨rfl, HB.out⟩
      · have hT : inB e s = false := decide_eq_false fun h => by omega
        have HT := Lib.hid hT
        have e2 : decide (e - s.at_ < s.size) = false := decide_eq_false d3
        clear hT d1 hand0
        go_enter Tryd.func89, Tryd.ntmps89
        go_wp2
        go_ret
        rw [HT.out]
        exact ⟨rfl, HB.out⟩
    · have hT : inB e s = false := decide_eq_false fun h => by omega
      have HT := Lib.hid hT
      have e2 : decide (s.at_ ≤ e) = false := decide_eq_false d2
      clear hT d1 hand0
      go_enter Tryd.func89, Tryd.ntmps89
      go_wp2
      go_ret
      rw [HT.out]
      exact ⟨rfl, HB.out⟩
  · have hT : inB e s = false := decide_eq_false fun h => d1 h.1
    have HT := Lib.hid hT
    rw [decide_eq_false d1] at hand
    clear hT d1 hand0
    go_enter Tryd.func89, Tryd.ntmps89
    go_wp2
    go_ret
    rw [HT.out]
    exact ⟨rfl, HB.out⟩
theorem any_take {l : List Sg} {p : Sg → Bool} {k : Nat} (hk : k < l.length) : (l.take (k + 1)).any p = ((l.take k).any p || p l[k]) := by
  rw [List.take_add_one, List.getElem?_eq_getElem hk, List.any_append]
  simp
theorem any_hit {l : List Sg} {p : Sg → Bool} {k : Nat} (hk : k < l.length) (h : p l[k] = true) : l.any p = true := List.any_eq_true.2 ⟨_, List.getElem_mem hk, h⟩
set_option maxHeartbeats 1000000 in
theorem index_any {A : Option Addr} {cap : Nat} {L : List Sg} {w : World} {B : Nat} (e : Int) (b : Nat) (he : 0 ≤ e ∧ e ≤ 18446744073709551615) (hL : Sgs w B A cap L) (hB : B ≤ w.heap.size) (hwf : ∀ s ∈ L, s.ok) (hA : ∀ s ∈ L, SegA s) (hlen : L.length ≤ 4)
    (hb : b < w.heap.size) (hc : w.cell? ⟨b, 0, none⟩ = some (.int .u64 e)) :
    Calls Tryd.prog 101 #[.slice A L.length cap, .func (.func 89) #[] #[.pointer (some ⟨b, 0, none⟩)]] w fun e' w' => ∃ r : Int, e' = .returned (.int .i64 r) ∧ decide (0 ≤ r) = L.any (inB e) ∧ Below w.heap.size w w' := by
  have HWF := Lib.hid hwf
  have HA := Lib.hid hA
  have HL := Lib.hid hL
  clear hwf hA hL
  go_enter Tryd.func101, Tryd.ntmps101
  go_wp2
  go_loopw [8] (fun i wr => ∃ k : Nat, k ≤ L.length ∧ i = .int .i64 k ∧ Hid ((L.take k).any (inB e) = false) ∧ Below w.heap.size w wr) (fun i _ => L.length - (intOf i).toNat)
  case atStart => exact ⟨0, Nat.zero_le _, rfl, rfl, Below.refl _ _⟩
  case round =>
    obtain ⟨k, hk, rfl, hno, hbw⟩ := hrel
    by_cases hlt : k < L.length
    · obtain ⟨b', off, rfl, hb', c0, c1, c2, c3⟩ := Sgs.sg (Sl.In.below HL.out (hbw.mono hB)) hlt
      have hcw := (hbw.cell (p := ⟨b, 0, none⟩) hb).trans hc
      have hbz : b < wr.heap.size := Nat.lt_of_lt_of_le hb hbw.size
      have hcon := in_any L[k] e b wr he (HA.out _ (List.getElem_mem hlt)) (HWF.out _ (List.getElem_mem hlt)) hbz hcw
      have HCON := Lib.hid hcon
      have hso := hbw.size
      have i1 : (0 : Int) ≤ (k : Int) := by omega
      have i2 : (k : Int) < (L.length : Int) := by omega
      cases hp : inB e L[k]
      · have hno' : Hid ((L.take (k + 1)).any (inB e) = false) := by show _ = _; rw [any_take hlt, hno.out, hp]; rfl
        have HP := Lib.hid hp
        clear hcon hp hcw
        go_wp2_with fail
        refine HCON.out.mono ?_
        rintro e' w1 ⟨rfl, hb1⟩
        rw [HP.out]
        go_wp2
        exact ⟨⟨k + 1, hlt, by go_num, hno', hbw.trans (hb1.mono hso)⟩, by simp [intOf]; omega⟩
      · have hT := any_hit hlt hp
        have HP := Lib.hid hp
        have HT := Lib.hid hT
        clear hcon hp hcw hT
        go_wp2_with fail
        refine HCON.out.mono ?_
        rintro e' w1 ⟨rfl, hb1⟩
        rw [HP.out]
        go_wp2
        go_ret
        exact ⟨k, rfl, by rw [HT.out]; exact decide_eq_true (by omega), hbw.trans (hb1.mono hso)⟩
    · obtain rfl : k = L.length := by omega
      have hno' := hno.out
      rw [List.take_length] at hno'
      have HN := Lib.hid hno'
      clear hno'
      go_wp2
      go_ret
      exact ⟨-1, rfl, by rw [HN.out]; rfl, hbw⟩
set_option maxHeartbeats 1000000 in
theorem contains_any {A : Option Addr} {cap : Nat} {L : List Sg} {w : World} {B : Nat} (e : Int) (b : Nat) (he : 0 ≤ e ∧ e ≤ 18446744073709551615) (hL : Sgs w B A cap L) (hB : B ≤ w.heap.size) (hwf : ∀ s ∈ L, s.ok) (hA : ∀ s ∈ L, SegA s) (hlen : L.length ≤ 4)
    (hb : b < w.heap.size) (hc : w.cell? ⟨b, 0, none⟩ = some (.int .u64 e)) :
    Calls Tryd.prog 88 #[.slice A L.length cap, .func (.func 89) #[] #[.pointer (some ⟨b, 0, none⟩)]] w fun e' w' => e' = .returned (.bool (L.any (inB e))) ∧ Below w.heap.size w w' := by
  have HC := Lib.hid (index_any e b he hL hB hwf hA hlen hb hc)
  clear hL hwf hA
  go_enter Tryd.func88, Tryd.ntmps88
  go_wp2_with fail
  refine HC.out.mono ?_
  rintro e' w1 ⟨r, rfl, hr, hb1⟩
  have HR := Lib.hid hr
  clear hr
  go_wp2
  go_ret
  rw [← HR.out]
  exact ⟨rfl, hb1⟩
/-- the box that holds the image -/
def Box2 (W : World) (b : Nat) (e : Int) (v : Value) : Prop := W.cell? ⟨b, 0, none⟩ = some (.int .u64 e) ∧ W.cell? ⟨b, 1, none⟩ = some v
theorem Box2.below {W W' : World} {b B : Nat} {e : Int} {v : Value} (h : Box2 W b e v) (hb : Below B W W') (hB : b < B) : Box2 W' b e v :=
  ⟨(hb.cell (p := ⟨b, 0, none⟩) hB).trans h.1, (hb.cell (p := ⟨b, 1, none⟩) hB).trans h.2⟩
theorem segAt_iff {l : List Sg} {k : Nat} (hk : k < l.length) : SegAt l k ↔ SegA l[k] ∧ behI l k ≤ (l[k]).at_ := by
  unfold SegAt
  rw [List.getElem?_eq_getElem hk]
  constructor
  · intro h; exact h _ rfl
  · intro h s hs; cases hs; exact h
set_option maxHeartbeats 2000000 in
theorem imay_any {A : Option Addr} {cap : Nat} {L : List Sg} {w : World} {B : Nat} (e : Int) (he : 0 ≤ e ∧ e ≤ 18446744073709551615) (hL : Sgs w B A cap L) (hB : B ≤ w.heap.size) (hwf : ∀ s ∈ L, s.ok) (hlen : L.length ≤ 140737488351232) :
    Calls Tryd.prog 61 #[.agg #[.int .u64 e, .slice A L.length cap]] w fun e' w' => e' = .returned (.bool (imayB e L)) ∧ Below w.heap.size w w' := by
  obtain ⟨W0, hW0⟩ : ∃ W0, w.alloc (.cells #[.int .u64 e, .slice A L.length cap] 49) = W0 := ⟨_, rfl⟩
  have k0 : Below w.heap.size w W0 := by subst hW0; exact (Below.refl _ _).alloc (Nat.le_refl _) _
  have b0 : Box2 W0 w.heap.size e (.slice A L.length cap) := by
    subst hW0
    refine ⟨?_, ?_⟩ <;> simp [go_sem]
  have s0 : W0.heap.size = w.heap.size + 1 := by subst hW0; simp
  have HW := Lib.hid hW0
  have HK0 := Lib.hid k0
  have HB0 := Lib.hid b0
  have hS0 : w.heap.size + 1 ≤ W0.heap.size := by omega
  have HS0 := Lib.hid s0
  have HL := Lib.hid (Sl.In.below hL (k0.mono hB))
  have HWF := Lib.hid hwf
  clear hW0 k0 b0 s0 hL hwf
  by_cases hl : 1 ≤ L.length ∧ L.length ≤ 4
  · have l1 : decide ((L.length : Int) < 1) = false := decide_eq_false (by omega)
    have l2 : decide (4 < (L.length : Int)) = false := decide_eq_false (by omega)
    go_enter Tryd.func61, Tryd.ntmps61
    go_wp2_with fail
    rw [HW.out]
    go_loopw [3, 19] (fun bh i wr => ∃ k : Nat, k ≤ L.length ∧ i = .int .i64 k ∧ bh = .int .u64 (behI L k) ∧ Hid (0 ≤ behI L k ∧ behI L k ≤ 1099511660544) ∧ Hid (∀ j, j < k → SegAt L j) ∧ Below (w.heap.size + 1) W0 wr) (fun _ i _ => L.length - (intOf i).toNat)
    case atStart => exact ⟨0, Nat.zero_le _, rfl, rfl, ⟨Int.le_refl _, by show (0 : Int) ≤ _; omega⟩, fun j hj => absurd hj (Nat.not_lt_zero _), Below.refl _ _⟩
    case round =>
      obtain ⟨k, hk, rfl, rfl, hbh, hno, hbw⟩ := hrel
      have HBX := HB0.out.below hbw (by omega)
      by_cases hlt : k < L.length
      · obtain ⟨b', off, rfl, hb', c0, c1, c2, c3⟩ := Sgs.sg (Sl.In.below HL.out (hbw.mono (by omega))) hlt
        have ho := HWF.out _ (List.getElem_mem hlt)
        have hs := hbw.size
        have i1 : (0 : Int) ≤ (k : Int) := by omega
        have i2 : (k : Int) < (L.length : Int) := by omega
        obtain ⟨W1, hW1⟩ : ∃ W1, wr.alloc (.cells #[.int .u64 (L[k]).at_, .int .i64 (L[k]).perm, .string (L[k]).data, .int .u64 (L[k]).size] 108) = W1 := ⟨_, rfl⟩
        have a0 : W1.cell? ⟨wr.heap.size, 0, none⟩ = some (.int .u64 (L[k]).at_) := by subst hW1; simp [go_sem]
        have a3 : W1.cell? ⟨wr.heap.size, 3, none⟩ = some (.int .u64 (L[k]).size) := by subst hW1; simp [go_sem]
        have hz1 : wr.heap.size < W1.heap.size := by subst hW1; simp
        have hb1 : Below (w.heap.size + 1) W0 W1 := by subst hW1; exact hbw.alloc (by have := HS0.out; omega) _
        have HW1 := Lib.hid hW1
        clear hW1
        by_cases hok : SegA L[k] ∧ behI L k ≤ (L[k]).at_
        · have hS : segB L[k] (behI L k) = true := decide_eq_true hok
          have HS := Lib.hid hS
          have hno' : Hid (∀ j, j < k + 1 → SegAt L j) := fun j hj => by
            by_cases e : j = k
            · subst e; exact (segAt_iff hlt).2 hok
            · exact hno.out j (by omega)
          have hend : endI L[k] = (L[k]).at_ + pagesI (L[k]).size * 256 := rfl
          have hbd := endI_bd hok.1 ho
          have hbs := behI_succ hlt
          have hsz := hok.1.2.2.2.2.1
          obtain ⟨P0, hP0⟩ : ∃ P0, pagesI (L[k]).size = P0 := ⟨_, rfl⟩
          have hP1 : 0 ≤ P0 ∧ P0 ≤ 65 := by rw [← hP0]; unfold pagesI; omega
          have hcon := fun W => pages_any (L[k]).size W (by omega)
          rw [hP0] at hend hcon
          have e1 : IntKind.u64.wrap (P0 * 256) = P0 * 256 := by rw [IntKind.wrap_u64]; omega
          have hat0 := ho.1
          have e2 : IntKind.u64.wrap ((L[k]).at_ + P0 * 256) = (L[k]).at_ + P0 * 256 := by rw [IntKind.wrap_u64]; omega
          have HCON := Lib.hid hcon
          have HBD : Hid (0 ≤ behI L (k + 1) ∧ behI L (k + 1) ≤ 1099511660544) := by rw [hbs]; exact hbd
          have HBS : Hid (behI L (k + 1) = (L[k]).at_ + P0 * 256) := hbs.trans hend
          clear hok hS hend hbd hbs hcon hP0
          go_wp2_with fail
          rw [HW1.out]
          refine (seg_any L[k] (behI L k) W1 ho).mono ?_
          rintro e' w2 ⟨rfl, hb2⟩
          rw [HS.out]
          have a0' := (hb2.cell (p := ⟨wr.heap.size, 0, none⟩) hz1).trans a0
          have a3' := (hb2.cell (p := ⟨wr.heap.size, 3, none⟩) hz1).trans a3
          have hbb := Lib.hid (hb1.trans (hb2.mono (Nat.le_trans hS0 hb1.size)))
          clear a0 a3 hb2
          go_wp2_with fail
          go_quiet ((go_at_call 87; exact Calls.quiet_of_same ((HCON.out _).mono fun _ _ h => ⟨h.1, h.2.symm⟩)))
          go_wp2
          exact ⟨⟨k + 1, hlt, by go_num, by rw [HBS.out], HBD.out, hno'.out, below_drewN hbb.out _⟩, by simp [intOf]; omega⟩
        · have hS : segB L[k] (behI L k) = false := decide_eq_false hok
          have HS := Lib.hid hS
          have HF := Lib.hid (imayB_bad (e := e) hlt (fun h => hok ((segAt_iff hlt).1 h)))
          clear hok hS
          go_wp2_with fail
          rw [HW1.out]
          refine (seg_any L[k] (behI L k) W1 ho).mono ?_
          rintro e' w2 ⟨rfl, hb2⟩
          rw [HS.out]
          have hbb := hb1.trans (hb2.mono (Nat.le_trans hS0 hb1.size))
          go_wp2
          go_ret
          rw [HF.out]
          exact ⟨rfl, HK0.out.trans (hbb.mono (by omega))⟩
      · obtain rfl : k = L.length := by omega
        obtain ⟨d0, d1⟩ := HBX
        have hT := imayB_all (e := e) hl hno.out
        have HT := Lib.hid hT
        have hso := hbw.size
        have hA : ∀ s ∈ L, SegA s := fun s hs => by
          obtain ⟨j, hj, rfl⟩ := List.getElem_of_mem hs
          exact ((segAt_iff hj).1 (hno.out j hj)).1
        have hcon := contains_any e w.heap.size he (Sl.In.below HL.out (hbw.mono (by omega))) (Nat.le_trans (by omega) hso) HWF.out hA hl.2 (by omega) d0
        have HCON := Lib.hid hcon
        clear hT hA hcon
        go_wp2_with fail
        refine HCON.out.mono ?_
        rintro e' w1 ⟨rfl, hb1⟩
        go_wp2
        go_ret
        rw [HT.out]
        exact ⟨rfl, HK0.out.trans ((hbw.trans (hb1.mono (Nat.le_trans hS0 hso))).mono (by omega))⟩
  · have HF := Lib.hid (imayB_len (e := e) hl)
    by_cases l1 : L.length < 1
    · have l1' : decide ((L.length : Int) < 1) = true := decide_eq_true (by omega)
      go_enter Tryd.func61, Tryd.ntmps61
      go_wp2
      rw [HW.out]
      go_ret
      rw [HF.out]
      exact ⟨rfl, HK0.out⟩
    · have l1' : decide ((L.length : Int) < 1) = false := decide_eq_false (by omega)
      have l2' : decide (4 < (L.length : Int)) = true := decide_eq_true (by omega)
      go_enter Tryd.func61, Tryd.ntmps61
      go_wp2
      rw [HW.out]
      go_ret
      rw [HF.out]
      exact ⟨rfl, HK0.out⟩
end Go.Proofs.YtajhehmkdlebbaaDoor
