/- elf.Read of what was written, whole or cut. -/
import Derived.Test.YtclghfekmmcfjaaElPlaces
import Derived.Deep.RegionHeld3
import Derived.Deep.AppendLies
namespace Go.Proofs.Ytclghfekmmcfjaa
open Go.ChangeShapes Go.WideShapes Go.ChangeAt Go.RowKit Go.Deep Go.Shelf
set_option maxRecDepth 100000
/-! ### the number of some bytes -/
theorem numAt_byte (S : ByteArray) (p k : Nat) : numAt S.data.toList p (k + 1) = numAt S.data.toList p k + 256 ^ k * byteI S (p + k) := by
  simp only [numAt, byteI, Array.getElem?_toList]
theorem numAt_bd (S : ByteArray) (p : Nat) : ∀ k, 0 ≤ numAt S.data.toList p k ∧ numAt S.data.toList p k < 256 ^ k
  | 0 => by simp [numAt]
  | k + 1 => by
    have h1 := numAt_bd S p k
    have h2 := byteI_bd S (p + k)
    rw [numAt_byte, Int.pow_succ]
    have hp : (0 : Int) < 256 ^ k := by have := h1.1; omega
    have h3 : (256 : Int) ^ k * byteI S (p + k) ≤ 256 ^ k * 255 := Int.mul_le_mul_of_nonneg_left (by omega) (by omega)
    have h4 : 0 ≤ (256 : Int) ^ k * byteI S (p + k) := Int.mul_nonneg (by omega) (by omega)
    omega
/-! ### the boxes of Read -/
def RSt (w W : World) (b : Nat) (S : ByteArray) (p : Nat) (ent : Int) (sv : Value) : Prop :=
  (W.heap[b]? = some (.cells #[.string S] 9 (0, 0)) ∧ W.heap[b + 1]? = some (.cells #[.int .u64 0, .slice none 0 0] 25 (0, 0))) ∧ W.heap[b + 1 + 1]? = some (.cells #[.int .i64 p] 3 (0, 0)) ∧ W.heap[b + 1 + 1 + 1]? = some (.cells #[.int .u64 ent, sv] 25 (0, 0)) ∧ Below b w W
section
variable {w W : World} {b p : Nat} {S : ByteArray} {ent : Int} {sv : Value}
theorem RSt.at_ (h : RSt w W b S p ent sv) (q : Nat) : RSt w (W.setCell ⟨b + 1 + 1, 0, none⟩ (.int .i64 q)) b S q ent sv := by
  obtain ⟨⟨h0, h1⟩, h2, h3, h4⟩ := h
  refine ⟨⟨?_, ?_⟩, ?_, ?_, h4.setCell (by show b ≤ b + 1 + 1; omega) _⟩
  · rw [Below.heap_setCell _ _ _ _ (by show b ≠ b + 1 + 1; omega)]; exact h0
  · rw [Below.heap_setCell _ _ _ _ (by show b + 1 ≠ b + 1 + 1; omega)]; exact h1
  · simp [World.setCell, Array.getElem?_modify, h2]
  · rw [Below.heap_setCell _ _ _ _ (by show b + 1 + 1 + 1 ≠ b + 1 + 1; omega)]; exact h3
theorem RSt.ent_ (h : RSt w W b S p ent sv) (e : Int) : RSt w (W.setCell ⟨b + 1 + 1 + 1, 0, none⟩ (.int .u64 e)) b S p e sv := by
  obtain ⟨⟨h0, h1⟩, h2, h3, h4⟩ := h
  refine ⟨⟨?_, ?_⟩, ?_, ?_, h4.setCell (by show b ≤ b + 1 + 1 + 1; omega) _⟩
  · rw [Below.heap_setCell _ _ _ _ (by show b ≠ b + 1 + 1 + 1; omega)]; exact h0
  · rw [Below.heap_setCell _ _ _ _ (by show b + 1 ≠ b + 1 + 1 + 1; omega)]; exact h1
  · rw [Below.heap_setCell _ _ _ _ (by show b + 1 + 1 ≠ b + 1 + 1 + 1; omega)]; exact h2
  · simp [World.setCell, Array.getElem?_modify, h3]
theorem RSt.seg_ (h : RSt w W b S p ent sv) (v : Value) : RSt w (W.setCell ⟨b + 1 + 1 + 1, 1, none⟩ v) b S p ent v := by
  obtain ⟨⟨h0, h1⟩, h2, h3, h4⟩ := h
  refine ⟨⟨?_, ?_⟩, ?_, ?_, h4.setCell (by show b ≤ b + 1 + 1 + 1; omega) _⟩
  · rw [Below.heap_setCell _ _ _ _ (by show b ≠ b + 1 + 1 + 1; omega)]; exact h0
  · rw [Below.heap_setCell _ _ _ _ (by show b + 1 ≠ b + 1 + 1 + 1; omega)]; exact h1
  · rw [Below.heap_setCell _ _ _ _ (by show b + 1 + 1 ≠ b + 1 + 1 + 1; omega)]; exact h2
  · simp [World.setCell, Array.getElem?_modify, h3]
theorem RSt.drew (h : RSt w W b S p ent sv) : RSt w W.drew b S p ent sv := ⟨h.1, h.2.1, h.2.2.1, h.2.2.2.drew⟩
theorem RSt.alloc (h : RSt w W b S p ent sv) (o : Obj) : RSt w (W.alloc o) b S p ent sv := by
  obtain ⟨⟨h0, h1⟩, h2, h3, h4⟩ := h
  have lt : ∀ {k : Nat} {x : Obj}, W.heap[k]? = some x → k < W.heap.size := fun h => (Array.getElem?_eq_some_iff.1 h).1
  exact ⟨⟨(Lib.alloc_old W o _ (lt h0)).trans h0, (Lib.alloc_old W o _ (lt h1)).trans h1⟩, (Lib.alloc_old W o _ (lt h2)).trans h2, (Lib.alloc_old W o _ (lt h3)).trans h3, h4.alloc (by have := lt h0; omega) o⟩
theorem RSt.grown {W' : World} (h : RSt w W b S p ent sv) {v : Value} {n : Nat} {xs : List Value} (hown : W.ownsRow (b + 1 + 1 + 1 + 1) 29 4 v n xs) (hg : W.grownBy W' v.ownBlock) : RSt w W' b S p ent sv := by
  obtain ⟨⟨h0, h1⟩, h2, h3, h4⟩ := h
  have lt : ∀ {k : Nat} {x : Obj}, W.heap[k]? = some x → k < W.heap.size := fun h => (Array.getElem?_eq_some_iff.1 h).1
  have ne : ∀ {k : Nat}, k < b + 1 + 1 + 1 + 1 → some k ≠ v.ownBlock := fun hk he => by have := (hown.lt _ he.symm).1; omega
  refine ⟨⟨(hg.block _ (lt h0) (ne (by omega))).trans h0, (hg.block _ (lt h1) (ne (by omega))).trans h1⟩, (hg.block _ (lt h2) (ne (by omega))).trans h2, (hg.block _ (lt h3) (ne (by omega))).trans h3, h4.grown hg (by have := lt h0; omega) (fun k hk => by have := (hown.lt k hk).1; omega)⟩
theorem RSt.below {W' : World} (h : RSt w W b S p ent sv) (hb : Below W.heap.size W W') : RSt w W' b S p ent sv := by
  obtain ⟨⟨h0, h1⟩, h2, h3, h4⟩ := h
  have lt : ∀ {k : Nat} {x : Obj}, W.heap[k]? = some x → k < W.heap.size := fun h => (Array.getElem?_eq_some_iff.1 h).1
  exact ⟨⟨(hb.block _ (lt h0)).trans h0, (hb.block _ (lt h1)).trans h1⟩, (hb.block _ (lt h2)).trans h2, (hb.block _ (lt h3)).trans h3, h4.trans (hb.mono (by have := lt h0; omega))⟩
theorem RSt.facts (h : RSt w W b S p ent sv) : W.cell? ⟨b, 0, none⟩ = some (.string S) ∧ W.cell? ⟨b + 1 + 1, 0, none⟩ = some (.int .i64 p) ∧ W.frozen? ⟨b + 1 + 1, 0, none⟩ = false ∧ W.cell? ⟨b + 1 + 1 + 1, 0, none⟩ = some (.int .u64 ent) ∧ W.frozen? ⟨b + 1 + 1 + 1, 0, none⟩ = false ∧ W.cell? ⟨b + 1 + 1 + 1, 1, none⟩ = some sv ∧ W.frozen? ⟨b + 1 + 1 + 1, 1, none⟩ = false := by
  obtain ⟨⟨h0, h1⟩, h2, h3, h4⟩ := h
  exact ⟨by rw [Lib.cell_of_heap h0]; rfl, by rw [Lib.cell_of_heap h2]; rfl, Lib.frozen_of_heap h2 0, by rw [Lib.cell_of_heap h3]; rfl, Lib.frozen_of_heap h3 0, by rw [Lib.cell_of_heap h3]; rfl, Lib.frozen_of_heap h3 1⟩
theorem RSt.res (h : RSt w W b S p ent sv) : W.cell? ⟨b + 1, 0, none⟩ = some (.int .u64 0) ∧ W.cell? ⟨b + 1, 1, none⟩ = some (.slice none 0 0) ∧ W.frozen? ⟨b + 1, 0, none⟩ = false ∧ W.frozen? ⟨b + 1, 1, none⟩ = false := by
  obtain ⟨⟨h0, h1⟩, h2, h3, h4⟩ := h
  exact ⟨by rw [Lib.cell_of_heap h1]; rfl, by rw [Lib.cell_of_heap h1]; rfl, Lib.frozen_of_heap h1 0, Lib.frozen_of_heap h1 1⟩
set_option maxHeartbeats 1000000 in
theorem rnum_any (h : RSt w W b S p ent sv) (n : Nat) (hn : n ≤ 8) (hp : p + n ≤ S.size) (hS : S.size ≤ 140737488351232) :
    Calls Try.prog 49 #[.int .i64 n, .pointer (some ⟨b, 0, none⟩), .pointer (some ⟨b + 1 + 1, 0, none⟩)] W fun e W' => e = .returned (.int .u64 (numAt S.data.toList p n)) ∧ RSt w W' b S (p + n) ent sv ∧ (∀ m xs, W.ownsRow (b + 1 + 1 + 1 + 1) 29 4 sv m xs → W'.ownsRow (b + 1 + 1 + 1 + 1) 29 4 sv m xs) := by
  have HR := Lib.hid h
  obtain ⟨f0, f1, f2, _⟩ := h.facts
  clear h
  go_enter Try.func49, Try.ntmps49
  go_wp2
  go_loopw [5, 8] (fun v i wr => ∃ k : Nat, k ≤ n ∧ i = .int .i64 k ∧ v = .int .u64 (numAt S.data.toList p k) ∧ wr = W) (fun _ i _ => n - (intOf i).toNat)
  case atStart => exact ⟨0, Nat.zero_le _, rfl, rfl, rfl⟩
  case round =>
    obtain ⟨k, hk, rfl, rfl, rfl⟩ := hrel
    by_cases hlt : k < n
    · have i1 : (0 : Int) ≤ (p : Int) + k := by omega
      have i2 : (p : Int) + k < (S.size : Int) := by omega
      have hb1 : p + k < S.size := by omega
      have hor := load_or (numAt_bd S p k) (byteI_bd S (p + k)) (show k ≤ 7 by omega)
      rw [← byteI_at hb1] at hor
      have HOR := Lib.hid hor
      clear hor
      go_wp2
      refine ⟨⟨k + 1, hlt, by go_num, ?_, trivial⟩, by simp [intOf]; omega⟩
      rw [HOR.out, numAt_byte, byteI_at]
    · obtain rfl : k = n := by omega
      have e1 : IntKind.i64.wrap ((p : Int) + k) = ((p + k : Nat) : Int) := by rw [IntKind.wrap_i64]; omega
      have hfin := Lib.hid (HR.out.at_ (p + k))
      go_wp2
      go_ret
      exact ⟨rfl, hfin.out, fun m xs h => ownsRow_setCell_below h (by show b + 1 + 1 < b + 1 + 1 + 1 + 1; omega) _⟩
end
theorem new_at {w : World} {o : Obj} {k : Nat} (h : w.heap.size = k) : (w.alloc o).heap[k]? = some o := h ▸ heap_alloc_new w o
theorem infoSeg : (Try.prog.info? 29).map (fun i => (i.zero, i.size, i.bytes)) = some (some (.agg #[.int .u64 0, .int .i64 0, .string ⟨#[]⟩, .int .u64 0]), 4, 40) := by kernel_rfl
/-- a string that begins as an image's file does: its head, its rows; the first m segments' bytes are there, those of the next one are not -/
structure RdH (S : ByteArray) (e : Int) (L : List Sg) (m : Nat) : Prop where
  hd : HdOk S.data.toList e L.length
  row : ∀ k (hk : k < L.length), RowOk S.data.toList (64 + 56 * k) L[k] (upN (endN L k))
  sz : 64 + 56 * L.length ≤ S.size
  small : S.size ≤ 1000000
  le : m ≤ L.length
  fit : ∀ k (hk : k < L.length), k < m → upN (endN L k) + (L[k]).data.size ≤ S.size ∧ S.extract (upN (endN L k)) (upN (endN L k) + (L[k]).data.size) = (L[k]).data
  stop : ∀ hm : m < L.length, S.size < upN (endN L m) + (L[m]).data.size
theorem beg_eq {S : ByteArray} (h : S.data.toList.take 16 = begL) (_hs : 64 ≤ S.size) : ((S.extract 0 16).toList == [127, 69, 76, 70, 2, 1, 1, 0, 0, 0, 0, 0, 0, 0, 0, 0]) = true := by
  rw [ByteArray.toList_eq, ByteArray.data_extract, Array.toList_extract, List.extract_eq_take_drop, List.drop_zero, show 16 - 0 = 16 from rfl, h]
  rfl
def RdPost (w : World) (e : Int) (L : List Sg) (m : Nat) (r : Ending) (w' : World) : Prop :=
  Below w.heap.size w w' ∧ (m = L.length → ∃ A cap, r = .returned (.tuple #[.agg #[.int .u64 e, .slice A L.length cap], .int .i64 0]) ∧ Sgs w' w'.heap.size A cap L ∧ (A = none → cap = 0)) ∧
    (m < L.length → r = .returned (.tuple #[.agg #[.int .u64 0, .slice none 0 0], .int .i64 2]))
set_option maxHeartbeats 8000000 in
theorem read_any {S : ByteArray} {e : Int} {L : List Sg} {m : Nat} {w : World} (h : RdH S e L m) (hM : imayB e L = true) (he : 0 ≤ e ∧ e ≤ 18446744073709551615) (hwf : ∀ s ∈ L, s.ok) :
    Calls Try.prog 21 #[.string S] w (RdPost w e L m) := by
  have hP := imayB_out hM
  have hl4 := hP.1.2
  have hl1 := hP.1.1
  have hz := h.sz
  have hsm := h.small
  have hSS : S.size ≤ 140737488351232 := by omega
  have hbeg := beg_eq h.hd.beg (by omega)
  have H := Lib.hid h
  have HM := Lib.hid hM
  have HWF := Lib.hid hwf
  have l1 : decide ((S.size : Int) < 64) = false := decide_eq_false (by omega)
  obtain ⟨W0, hW0⟩ : ∃ W0, (((w.alloc (.cells #[.string S] 9)).alloc (.cells #[.int .u64 0, .slice none 0 0] 25)).alloc (.cells #[.int .i64 16] 3)).alloc (.cells #[.int .u64 0, .slice none 0 0] 25) = W0 := ⟨_, rfl⟩
  have hR : RSt w W0 w.heap.size S 16 0 (.slice none 0 0) := by
    subst hW0
    refine ⟨⟨?_, ?_⟩, ?_, ?_, ?_⟩
    · exact (Lib.alloc_old _ _ _ (by simp <;> omega)).trans ((Lib.alloc_old _ _ _ (by simp <;> omega)).trans ((Lib.alloc_old _ _ _ (by simp)).trans (new_at rfl)))
    · exact (Lib.alloc_old _ _ _ (by simp <;> omega)).trans ((Lib.alloc_old _ _ _ (by simp)).trans (new_at (by simp)))
    · exact (Lib.alloc_old _ _ _ (by simp)).trans (new_at (by simp))
    · exact new_at (by simp)
    · exact ((((Below.refl _ w).alloc (Nat.le_refl _) _).alloc (by simp) _).alloc (by simp; omega) _).alloc (by simp; omega) _
  have HR0 := Lib.hid hR
  have HW0 := Lib.hid hW0
  clear h hM hP hwf hW0 hR
  go_enter Try.func21, Try.ntmps21
  go_wp2_with fail
  rw [HW0.out]
  refine (rnum_any HR0.out 2 (by decide) (by omega) hSS).mono ?_
  rintro r w1 ⟨rfl, hR, _⟩
  rw [H.out.hd.h16]
  have HR1 := Lib.hid hR
  obtain ⟨f0, f1, f2, f3, f4, f5, f6⟩ := hR.facts
  clear hR
  clear f0 f1 f2 f3 f4 f5 f6
  go_wp2_with fail
  refine (rnum_any HR1.out 2 (by decide) (by omega) hSS).mono ?_
  rintro r w2 ⟨rfl, hR, _⟩
  rw [H.out.hd.h18]
  have HR2 := Lib.hid hR
  obtain ⟨f0, f1, f2, f3, f4, f5, f6⟩ := hR.facts
  clear hR
  clear f0 f1 f2 f3 f4 f5 f6
  go_wp2_with fail
  refine (rnum_any HR2.out 4 (by decide) (by omega) hSS).mono ?_
  rintro r w3 ⟨rfl, hR, _⟩
  rw [H.out.hd.h20]
  have HR3 := Lib.hid hR
  obtain ⟨f0, f1, f2, f3, f4, f5, f6⟩ := hR.facts
  clear hR
  go_wp2_with fail
  refine (rnum_any (HR3.out.at_ 24) 8 (by decide) (by omega) hSS).mono ?_
  rintro r w4 ⟨rfl, hR, _⟩
  rw [H.out.hd.h24]
  have HR4 := Lib.hid hR
  obtain ⟨f0, f1, f2, f3, f4, f5, f6⟩ := hR.facts
  clear hR
  go_wp2_with fail
  refine (rnum_any (HR4.out.ent_ e) 8 (by decide) (by omega) hSS).mono ?_
  rintro r w5 ⟨rfl, hR, _⟩
  rw [H.out.hd.h32]
  have HR5 := Lib.hid hR
  obtain ⟨f0, f1, f2, f3, f4, f5, f6⟩ := hR.facts
  clear hR
  clear f0 f1 f2 f3 f4 f5 f6
  go_wp2_with fail
  refine (rnum_any HR5.out 8 (by decide) (by omega) hSS).mono ?_
  rintro r w6 ⟨rfl, hR, _⟩
  rw [H.out.hd.h40]
  have HR6 := Lib.hid hR
  obtain ⟨f0, f1, f2, f3, f4, f5, f6⟩ := hR.facts
  clear hR
  clear f0 f1 f2 f3 f4 f5 f6
  go_wp2_with fail
  refine (rnum_any HR6.out 4 (by decide) (by omega) hSS).mono ?_
  rintro r w7 ⟨rfl, hR, _⟩
  rw [H.out.hd.h48]
  have HR7 := Lib.hid hR
  obtain ⟨f0, f1, f2, f3, f4, f5, f6⟩ := hR.facts
  clear hR
  clear f0 f1 f2 f3 f4 f5 f6
  go_wp2_with fail
  refine (rnum_any HR7.out 2 (by decide) (by omega) hSS).mono ?_
  rintro r w8 ⟨rfl, hR, _⟩
  rw [H.out.hd.h52]
  have HR8 := Lib.hid hR
  obtain ⟨f0, f1, f2, f3, f4, f5, f6⟩ := hR.facts
  clear hR
  clear f0 f1 f2 f3 f4 f5 f6
  go_wp2_with fail
  refine (rnum_any HR8.out 2 (by decide) (by omega) hSS).mono ?_
  rintro r w9 ⟨rfl, hR, _⟩
  rw [H.out.hd.h54]
  have HR9 := Lib.hid hR
  obtain ⟨f0, f1, f2, f3, f4, f5, f6⟩ := hR.facts
  clear hR
  clear f0 f1 f2 f3 f4 f5 f6
  go_wp2_with fail
  refine (rnum_any HR9.out 2 (by decide) (by omega) hSS).mono ?_
  rintro r w10 ⟨rfl, hR, _⟩
  rw [H.out.hd.h56]
  have HR10 := Lib.hid hR
  obtain ⟨f0, f1, f2, f3, f4, f5, f6⟩ := hR.facts
  clear hR
  clear f0 f1 f2 f3 f4 f5 f6
  go_wp2_with fail
  refine (rnum_any HR10.out 6 (by decide) (by omega) hSS).mono ?_
  rintro r w11 ⟨rfl, hR, _⟩
  rw [H.out.hd.h58]
  have HR11 := Lib.hid hR
  obtain ⟨f0, f1, f2, f3, f4, f5, f6⟩ := hR.facts
  clear hR
  have e1 : IntKind.i64.wrap (L.length : Int) = L.length := by rw [IntKind.wrap_i64]; omega
  have l2 : decide (4 < (L.length : Int)) = false := decide_eq_false (by omega)
  have e2 : IntKind.i64.wrap (64 + 56 * (L.length : Int)) = 64 + 56 * (L.length : Int) := by rw [IntKind.wrap_i64]; omega
  have l3 : decide ((S.size : Int) < 64 + 56 * (L.length : Int)) = false := decide_eq_false (by omega)
  go_wp2
  clear f0 f1 f2 f3 f4 f5 f6 l1 hbeg
  have hz11 : RSt w w11 w.heap.size S 64 e (.slice none 0 0) := HR11.out
  have HR := Lib.hid hz11
  clear hz11
  go_loopw [100] (fun i wr => ∃ k : Nat, k ≤ m ∧ i = .int .i64 k ∧ ∃ sv, Hid (RSt w wr w.heap.size S (64 + 56 * k) e sv) ∧ Hid (wr.ownsRow (w.heap.size + 1 + 1 + 1 + 1) 29 4 sv k ((L.take k).flatMap Sg.cells))) (fun i _ => L.length - (intOf i).toNat)
  case atStart => exact ⟨0, Nat.zero_le _, rfl, _, HR.out, World.ownsRow_nil _ _ _ _⟩
  case round =>
    obtain ⟨k, hk, rfl, sv, hR, hO⟩ := hrel
    have hml := H.out.le
    by_cases hlt : k < L.length
    · have hrow := H.out.row k hlt
      have ho := HWF.out _ (List.getElem_mem hlt)
      have hS := (imay_seg (imayB_out HM.out) hlt).1
      have hEB := endN_bd (l := L) (fun s hs => by
        obtain ⟨j, hj, rfl⟩ := List.getElem_of_mem hs
        exact (imay_seg (imayB_out HM.out) hj).1) (k := k) (by omega)
      have hfit := H.out.fit k hlt
      have hstop : k = m → S.size < upN (endN L k) + (L[k]).data.size := fun hkm => by subst hkm; exact H.out.stop hlt
      obtain ⟨s, hs⟩ : ∃ s, L[k] = s := ⟨_, rfl⟩
      obtain ⟨F, hF⟩ : ∃ F, upN (endN L k) = F := ⟨_, rfl⟩
      have hFb : F ≤ 1000000 := by rw [← hF]; unfold upN; omega
      rw [hs] at hrow ho hS hfit hstop
      rw [hF] at hrow hfit hstop
      obtain ⟨P, hP⟩ : ∃ P, 64 + 56 * k = P := ⟨_, rfl⟩
      have hPz : P + 56 ≤ S.size := by omega
      rw [hP] at hrow hR
      have HROW := Lib.hid hrow
      have HFIT := Lib.hid hfit
      have HSTOP := Lib.hid hstop
      have HSS := Lib.hid hs
      have HP := Lib.hid hP
      obtain ⟨o0, o1, o2, o3⟩ := ho
      obtain ⟨q1, q2, q3, q4, q5, q6⟩ := hS
      have i1 : (0 : Int) ≤ (k : Int) := by omega
      have i2 : (k : Int) < (L.length : Int) := by omega
      clear hrow hfit hstop hs hF hEB hP q1 q4
      go_wp2_with fail
      refine (rnum_any hR.out 4 (by decide) (by omega) hSS).mono ?_
      rintro r x0 ⟨rfl, hq, how⟩
      rw [HROW.out.r0]
      have X0 : Hid (RSt w x0 w.heap.size S (P + 4) e sv) := hq
      have O0 := Lib.hid (how _ _ hO.out)
      clear hq how
      go_wp2_with fail
      refine (rnum_any X0.out 4 (by decide) (by omega) hSS).mono ?_
      rintro r x1 ⟨rfl, hq, how⟩
      rw [HROW.out.r4]
      have X1 : Hid (RSt w x1 w.heap.size S (P + 8) e sv) := hq
      have O1 := Lib.hid (how _ _ O0.out)
      clear hq how
      go_wp2_with fail
      refine (rnum_any X1.out 8 (by decide) (by omega) hSS).mono ?_
      rintro r x2 ⟨rfl, hq, how⟩
      rw [HROW.out.r8]
      have X2 : Hid (RSt w x2 w.heap.size S (P + 16) e sv) := hq
      have O2 := Lib.hid (how _ _ O1.out)
      clear hq how
      go_wp2_with fail
      refine (rnum_any X2.out 8 (by decide) (by omega) hSS).mono ?_
      rintro r x3 ⟨rfl, hq, how⟩
      rw [HROW.out.r16]
      have X3 : Hid (RSt w x3 w.heap.size S (P + 24) e sv) := hq
      have O3 := Lib.hid (how _ _ O2.out)
      clear hq how
      go_wp2_with fail
      refine (rnum_any X3.out 8 (by decide) (by omega) hSS).mono ?_
      rintro r x4 ⟨rfl, hq, how⟩
      rw [HROW.out.r24]
      have X4 : Hid (RSt w x4 w.heap.size S (P + 32) e sv) := hq
      have O4 := Lib.hid (how _ _ O3.out)
      clear hq how
      go_wp2_with fail
      refine (rnum_any X4.out 8 (by decide) (by omega) hSS).mono ?_
      rintro r x5 ⟨rfl, hq, how⟩
      rw [HROW.out.r32]
      have X5 : Hid (RSt w x5 w.heap.size S (P + 40) e sv) := hq
      have O5 := Lib.hid (how _ _ O4.out)
      clear hq how
      go_wp2_with fail
      refine (rnum_any X5.out 8 (by decide) (by omega) hSS).mono ?_
      rintro r x6 ⟨rfl, hq, how⟩
      rw [HROW.out.r40]
      have X6 : Hid (RSt w x6 w.heap.size S (P + 48) e sv) := hq
      have O6 := Lib.hid (how _ _ O5.out)
      clear hq how
      go_wp2_with fail
      refine (rnum_any X6.out 8 (by decide) (by omega) hSS).mono ?_
      rintro r x7 ⟨rfl, hq, how⟩
      rw [HROW.out.r48]
      have X7 : Hid (RSt w x7 w.heap.size S (P + 56) e sv) := hq
      have O7 := Lib.hid (how _ _ O6.out)
      clear hq how
      obtain ⟨f0, f1, f2, f3, f4, f5, f6⟩ := X7.out.facts
      have u1 : IntKind.u64.wrap (S.size : Int) = S.size := by rw [IntKind.wrap_u64]; omega
      by_cases hkm : k < m
      · obtain ⟨hft, hex⟩ := HFIT.out hkm
        have u2 : decide ((S.size : Int) < (F : Int)) = false := decide_eq_false (by omega)
        have u3 : IntKind.u64.wrap ((S.size : Int) - F) = (S.size : Int) - F := by rw [IntKind.wrap_u64]; omega
        have u4 : decide ((S.size : Int) - F < (s.data.size : Int)) = false := decide_eq_false (by omega)
        have u5 : IntKind.u64.wrap ((F : Int) + s.data.size) = (F : Int) + s.data.size := by rw [IntKind.wrap_u64]; omega
        have u6 : ((F : Int) + (s.data.size : Int)).toNat = F + s.data.size := by omega
        have u7 : IntKind.i64.wrap s.perm = s.perm := by rw [IntKind.wrap_i64]; omega
        have b1 : (0 : Int) ≤ (F : Int) := by omega
        have b2 : (F : Int) ≤ (F : Int) + (s.data.size : Int) := by omega
        have b3 : (F : Int) + (s.data.size : Int) ≤ (S.size : Int) := by omega
        have b4 : (0 : Int) ≤ (F : Int) + (s.data.size : Int) := by omega
        obtain ⟨i0, hi0, hz0, hz1, hz2⟩ := info_parts infoSeg
        have hno : ∀ g, sv.ownBlock = some g → w.heap.size + 1 + 1 + 1 + 1 ≤ g := fun g hg => (O7.out.lt g hg).1
        have hlt7 : w.heap.size + 1 + 1 + 1 < x7.heap.size := (Array.getElem?_eq_some_iff.1 X7.out.2.2.1).1
        have n1 : sv.ownBlock ≠ some w.heap.size := fun h => by have := hno _ h; omega
        have n2 : sv.ownBlock ≠ some (w.heap.size + 1 + 1 + 1) := fun h => by have := hno _ h; omega
        have hkl : k ≤ 4 := by omega
        have hfa : (x7.alloc (.cells #[.int .u64 s.at_, .int .i64 s.perm, .string s.data, .int .u64 s.size] 29)).drew.frozen? ⟨w.heap.size + 1 + 1 + 1, 1, none⟩ = false :=
          (((Below.refl x7.heap.size x7).alloc (Nat.le_refl _) _).drew.frozen (p := ⟨w.heap.size + 1 + 1 + 1, 1, none⟩) hlt7).trans f6
        have hca : (x7.alloc (.cells #[.int .u64 s.at_, .int .i64 s.perm, .string s.data, .int .u64 s.size] 29)).drew.cell? ⟨w.heap.size + 1 + 1 + 1, 1, none⟩ = some sv :=
          (((Below.refl x7.heap.size x7).alloc (Nat.le_refl _) _).drew.cell (p := ⟨w.heap.size + 1 + 1 + 1, 1, none⟩) hlt7).trans f5
        have hcb : (x7.alloc (.cells #[.int .u64 s.at_, .int .i64 s.perm, .string s.data, .int .u64 s.size] 29)).drew.cell? ⟨w.heap.size, 0, none⟩ = some (.string S) :=
          (((Below.refl x7.heap.size x7).alloc (Nat.le_refl _) _).drew.cell (p := ⟨w.heap.size, 0, none⟩) (by show w.heap.size < x7.heap.size; omega)).trans f0
        go_wp2_with fail
        refine wp_region_noPanic ?_
        refine wp_region_held_drew (S := fun w' => w'.cell? ⟨w.heap.size, 0, none⟩ = some (.string S)) (by kernel_rfl) f0 (fun hHeld => ?_)
        refine takeH (i := 0) (d := some 147) (v := ?_) rfl (by kernel_rfl) (by kernel_rfl) (by kernel_rfl) (fun _ _ _ h => h) rfl (Or.inl ⟨by rfl, ?_⟩) hHeld ?_
        rotate_left
        · intro w hSw; go_simp; (try with_reducible rfl)
        (try simp only [Act.put, List.setIfInBounds_toArray, List.set_cons_zero, List.set_cons_succ])
        refine takeH (i := 2) (d := some 149) (v := ?_) rfl (by kernel_rfl) (by kernel_rfl) (by kernel_rfl) (fun _ _ _ h => h) rfl (Or.inl ⟨by rfl, ?_⟩) hHeld ?_
        rotate_left
        · intro w hSw; go_simp; (try with_reducible rfl)
        (try simp only [Act.put, List.setIfInBounds_toArray, List.set_cons_zero, List.set_cons_succ])
        refine takeH (i := 3) (d := some 150) (v := ?_) rfl (by kernel_rfl) (by kernel_rfl) (by kernel_rfl) (fun _ _ _ h => h) rfl (Or.inl ⟨by rfl, ?_⟩) hHeld ?_
        rotate_left
        · intro w hSw; go_simp; (try with_reducible rfl)
        (try simp only [Act.put, List.setIfInBounds_toArray, List.set_cons_zero, List.set_cons_succ])
        refine takeH (i := 4) (d := some 151) (v := ?_) rfl (by kernel_rfl) (by kernel_rfl) (by kernel_rfl) (fun _ _ _ h => h) rfl (Or.inl ⟨by rfl, ?_⟩) hHeld ?_
        rotate_left
        · intro w hSw; go_simp; (try with_reducible rfl)
        (try simp only [Act.put, List.setIfInBounds_toArray, List.set_cons_zero, List.set_cons_succ])
        refine takeH (i := 5) (d := some 152) (v := ?_) rfl (by kernel_rfl) (by kernel_rfl) (by kernel_rfl) (fun _ _ _ h => h) rfl (Or.inl ⟨by rfl, ?_⟩) hHeld ?_
        rotate_left
        · intro w hSw; go_simp; (try with_reducible rfl)
        (try simp only [Act.put, List.setIfInBounds_toArray, List.set_cons_zero, List.set_cons_succ])
        refine takeH (i := 6) (d := some 153) (v := ?_) rfl (by kernel_rfl) (by kernel_rfl) (by kernel_rfl) (fun _ _ _ h => h) rfl (Or.inl ⟨by rfl, ?_⟩) hHeld ?_
        rotate_left
        · intro w hSw; go_simp; (try with_reducible rfl)
        (try simp only [Act.put, List.setIfInBounds_toArray, List.set_cons_zero, List.set_cons_succ])
        refine takeH (i := 7) (d := some 154) (v := ?_) rfl (by kernel_rfl) (by kernel_rfl) (by kernel_rfl) (fun _ _ _ h => h) rfl (Or.inl ⟨by rfl, ?_⟩) hHeld ?_
        rotate_left
        · intro w hSw; go_simp; (try with_reducible rfl)
        (try simp only [Act.put, List.setIfInBounds_toArray, List.set_cons_zero, List.set_cons_succ])
        refine takeH (i := 8) (d := some 155) (v := ?_) rfl (by kernel_rfl) (by kernel_rfl) (by kernel_rfl) (fun _ _ _ h => h) rfl (Or.inl ⟨by rfl, ?_⟩) hHeld ?_
        rotate_left
        · intro w hSw; go_simp; (try with_reducible rfl)
        (try simp only [Act.put, List.setIfInBounds_toArray, List.set_cons_zero, List.set_cons_succ])
        refine takeH (i := 9) (d := some 156) (v := ?_) rfl (by kernel_rfl) (by kernel_rfl) (by kernel_rfl) (fun _ _ _ h => h) rfl (Or.inl ⟨by rfl, ?_⟩) hHeld ?_
        rotate_left
        · intro w hSw; go_simp; (try with_reducible rfl)
        (try simp only [Act.put, List.setIfInBounds_toArray, List.set_cons_zero, List.set_cons_succ])
        refine takeH (i := 10) (d := some 157) (v := ?_) rfl (by kernel_rfl) (by kernel_rfl) (by kernel_rfl) (fun _ _ _ h => h) rfl (Or.inl ⟨by rfl, ?_⟩) hHeld ?_
        rotate_left
        · intro w hSw; go_simp; (try with_reducible rfl)
        (try simp only [Act.put, List.setIfInBounds_toArray, List.set_cons_zero, List.set_cons_succ])
        refine takeH (i := 11) (d := some 158) (v := ?_) rfl (by kernel_rfl) (by kernel_rfl) (by kernel_rfl) (fun _ _ _ h => h) rfl (Or.inl ⟨by rfl, ?_⟩) hHeld ?_
        rotate_left
        · intro w hSw; go_simp; (try with_reducible rfl)
        (try simp only [Act.put, List.setIfInBounds_toArray, List.set_cons_zero, List.set_cons_succ])
        refine takeH (i := 12) (d := some 159) (v := ?_) rfl (by kernel_rfl) (by kernel_rfl) (by kernel_rfl) (fun _ _ _ h => h) rfl (Or.inl ⟨by rfl, ?_⟩) hHeld ?_
        rotate_left
        · intro w hSw; go_simp; (try with_reducible rfl)
        (try simp only [Act.put, List.setIfInBounds_toArray, List.set_cons_zero, List.set_cons_succ])
        refine wpAnyH_ready (rs := [1, 13]) (by kernel_rfl) (by simp) ?_
        refine AllReadyH.cons rfl (fun K hK => ?_) (AllReadyH.cons rfl (fun K hK => ?_) AllReadyH.nil)
        · go_simp
          refine hK.out _ _ (f0) (fun hHeld => ?_)
          clear hK K
          (try simp only [Act.put, List.setIfInBounds_toArray, List.set_cons_zero, List.set_cons_succ])
          refine wpAnyH_ready (rs := [13]) (by kernel_rfl) (by simp) ?_
          refine AllReadyH.cons rfl (fun K hK => ?_) AllReadyH.nil
          go_simp
          refine hK.out _ _ (hcb) (fun hHeld => ?_)
          clear hK K
          (try simp only [Act.put, List.setIfInBounds_toArray, List.set_cons_zero, List.set_cons_succ])
          refine wpAnyH_ready (rs := [14]) (by kernel_rfl) (by simp) ?_
          refine AllReadyH.cons rfl (fun K hK => ?_) AllReadyH.nil
          refine step_append_lies _ (by rfl) _ _ _ (by rfl) (w.heap.size + 1 + 1 + 1 + 1) 29 i0 _ 4 40 Try.underlying23 hi0 hz0 hz1 hz2 rfl (by omega) sv k _ (by rfl) ((O7.out.alloc _).drew)
              ⟨x7.heap.size, 0, none⟩ 1 1 [.int .u64 s.at_, .int .i64 s.perm, .string s.data, .int .u64 s.size] (by rfl) (by rfl) (World.news_of_block (cs := #[.int .u64 s.at_, .int .i64 s.perm, .string s.data, .int .u64 s.size]) (t := 29) (fr := (0, 0)) (heap_alloc_new x7 _)) (by simp [Value.oneCell'])
              (by omega) (by unfold maxLen; omega) (by omega) (by simp; omega) (x7.heap.size + 1) (by simp) ?_
          intro gg cp w1' hown1 hgrow hat hlt1
          have hc0 := (hgrow.cell_far ⟨w.heap.size, 0, none⟩ (by simp; omega) (Ne.symm n1)).trans hcb
          have hc1 := (hgrow.cell_far ⟨w.heap.size + 1 + 1 + 1, 1, none⟩ (by simp; omega) (Ne.symm n2)).trans hca
          have hf1 := (hgrow.frozen_far ⟨w.heap.size + 1 + 1 + 1, 1, none⟩ (by simp; omega) (Ne.symm n2)).trans hfa
          refine hK.out _ _ (hc0) (fun hHeld => ?_)
          clear hK K
          (try simp only [Act.put, List.setIfInBounds_toArray])
          refine takeH (i := 15) (d := some 162) (v := ?_) rfl (by kernel_rfl) (by kernel_rfl) (by kernel_rfl) (fun _ _ _ h => h) rfl (Or.inl ⟨by rfl, ?_⟩) hHeld ?_
          rotate_left
          · intro w hSw; go_simp; (try with_reducible rfl)
          (try simp only [Act.put])
          refine wpAnyH_ready (rs := [16]) (by kernel_rfl) (by simp) ?_
          refine AllReadyH.cons rfl (fun K hK => ?_) AllReadyH.nil
          go_simp
          refine hK.out _ _ ((World.cell?_setCell_far _ _ _ _ (by show w.heap.size + 1 + 1 + 1 ≠ w.heap.size; omega)).trans hc0) (fun hHeld => ?_)
          clear hK K
          (try simp only [Act.put, List.setIfInBounds_toArray, List.set_cons_zero, List.set_cons_succ])
          refine wpAnyH_done (by kernel_rfl) ?_ _
          refine NoPanic.normal ?_
          go_wp2_with fail
          have hp : P + 56 = 64 + 56 * (k + 1) := by have := HP.out; omega
          have hcs : (L.take k).flatMap Sg.cells ++ [.int .u64 s.at_, .int .i64 s.perm, .string s.data, .int .u64 s.size] = (L.take (k + 1)).flatMap Sg.cells := by
            rw [List.take_add_one, List.getElem?_eq_getElem hlt, HSS.out, List.flatMap_append]
            simp [Sg.cells]
          have hX := (((X7.out.alloc (.cells #[.int .u64 s.at_, .int .i64 s.perm, .string s.data, .int .u64 s.size] 29)).drew).grown (O7.out.alloc _).drew hgrow).seg_ (.slice (some ⟨gg, 0, none⟩) (k + 1) cp)
          rw [hp] at hX
          rw [hcs] at hown1
          exact ⟨⟨k + 1, hkm, by go_num, _, hX, ownsRow_setCell_below hown1 (by show w.heap.size + 1 + 1 + 1 < w.heap.size + 1 + 1 + 1 + 1; omega) _⟩, by simp [intOf]; omega⟩
        · go_simp
          refine hK.out _ _ (hcb) (fun hHeld => ?_)
          clear hK K
          (try simp only [Act.put, List.setIfInBounds_toArray, List.set_cons_zero, List.set_cons_succ])
          refine wpAnyH_ready (rs := [1]) (by kernel_rfl) (by simp) ?_
          refine AllReadyH.cons rfl (fun K hK => ?_) AllReadyH.nil
          go_simp
          refine hK.out _ _ (hcb) (fun hHeld => ?_)
          clear hK K
          (try simp only [Act.put, List.setIfInBounds_toArray, List.set_cons_zero, List.set_cons_succ])
          refine wpAnyH_ready (rs := [14]) (by kernel_rfl) (by simp) ?_
          refine AllReadyH.cons rfl (fun K hK => ?_) AllReadyH.nil
          refine step_append_lies _ (by rfl) _ _ _ (by rfl) (w.heap.size + 1 + 1 + 1 + 1) 29 i0 _ 4 40 Try.underlying23 hi0 hz0 hz1 hz2 rfl (by omega) sv k _ (by rfl) ((O7.out.alloc _).drew)
              ⟨x7.heap.size, 0, none⟩ 1 1 [.int .u64 s.at_, .int .i64 s.perm, .string s.data, .int .u64 s.size] (by rfl) (by rfl) (World.news_of_block (cs := #[.int .u64 s.at_, .int .i64 s.perm, .string s.data, .int .u64 s.size]) (t := 29) (fr := (0, 0)) (heap_alloc_new x7 _)) (by simp [Value.oneCell'])
              (by omega) (by unfold maxLen; omega) (by omega) (by simp; omega) (x7.heap.size + 1) (by simp) ?_
          intro gg cp w1' hown1 hgrow hat hlt1
          have hc0 := (hgrow.cell_far ⟨w.heap.size, 0, none⟩ (by simp; omega) (Ne.symm n1)).trans hcb
          have hc1 := (hgrow.cell_far ⟨w.heap.size + 1 + 1 + 1, 1, none⟩ (by simp; omega) (Ne.symm n2)).trans hca
          have hf1 := (hgrow.frozen_far ⟨w.heap.size + 1 + 1 + 1, 1, none⟩ (by simp; omega) (Ne.symm n2)).trans hfa
          refine hK.out _ _ (hc0) (fun hHeld => ?_)
          clear hK K
          (try simp only [Act.put, List.setIfInBounds_toArray])
          refine takeH (i := 15) (d := some 162) (v := ?_) rfl (by kernel_rfl) (by kernel_rfl) (by kernel_rfl) (fun _ _ _ h => h) rfl (Or.inl ⟨by rfl, ?_⟩) hHeld ?_
          rotate_left
          · intro w hSw; go_simp; (try with_reducible rfl)
          (try simp only [Act.put])
          refine wpAnyH_ready (rs := [16]) (by kernel_rfl) (by simp) ?_
          refine AllReadyH.cons rfl (fun K hK => ?_) AllReadyH.nil
          go_simp
          refine hK.out _ _ ((World.cell?_setCell_far _ _ _ _ (by show w.heap.size + 1 + 1 + 1 ≠ w.heap.size; omega)).trans hc0) (fun hHeld => ?_)
          clear hK K
          (try simp only [Act.put, List.setIfInBounds_toArray, List.set_cons_zero, List.set_cons_succ])
          refine wpAnyH_done (by kernel_rfl) ?_ _
          refine NoPanic.normal ?_
          go_wp2_with fail
          have hp : P + 56 = 64 + 56 * (k + 1) := by have := HP.out; omega
          have hcs : (L.take k).flatMap Sg.cells ++ [.int .u64 s.at_, .int .i64 s.perm, .string s.data, .int .u64 s.size] = (L.take (k + 1)).flatMap Sg.cells := by
            rw [List.take_add_one, List.getElem?_eq_getElem hlt, HSS.out, List.flatMap_append]
            simp [Sg.cells]
          have hX := (((X7.out.alloc (.cells #[.int .u64 s.at_, .int .i64 s.perm, .string s.data, .int .u64 s.size] 29)).drew).grown (O7.out.alloc _).drew hgrow).seg_ (.slice (some ⟨gg, 0, none⟩) (k + 1) cp)
          rw [hp] at hX
          rw [hcs] at hown1
          exact ⟨⟨k + 1, hkm, by go_num, _, hX, ownsRow_setCell_below hown1 (by show w.heap.size + 1 + 1 + 1 < w.heap.size + 1 + 1 + 1 + 1; omega) _⟩, by simp [intOf]; omega⟩
      · obtain rfl : k = m := by omega
        have hst := HSTOP.out rfl
        obtain ⟨g0, g1, g2, g3⟩ := X7.out.res
        have hfin : Hid (k < L.length) := hlt
        have hB := Lib.hid X7.out.2.2.2
        by_cases hFS : S.size < F
        · have u2 : decide ((S.size : Int) < (F : Int)) = true := decide_eq_true (by omega)
          go_wp2
          refine bodyPost_ret (v := ?v1) ?_ rfl ?_
          rotate_left
          · simp [results, Try.results21, go_sem, g0, g1]
            rfl
          · exact ⟨(hB.out.setCell (by show w.heap.size ≤ w.heap.size + 1; omega) _).setCell (by show w.heap.size ≤ w.heap.size + 1; omega) _, fun h => absurd hfin.out (by omega), fun _ => rfl⟩
        · have u2 : decide ((S.size : Int) < (F : Int)) = false := decide_eq_false (by omega)
          have u3 : IntKind.u64.wrap ((S.size : Int) - F) = (S.size : Int) - F := by rw [IntKind.wrap_u64]; omega
          have u4 : decide ((S.size : Int) - F < (s.data.size : Int)) = true := decide_eq_true (by omega)
          go_wp2
          refine bodyPost_ret (v := ?v2) ?_ rfl ?_
          rotate_left
          · simp [results, Try.results21, go_sem, g0, g1]
            rfl
          · exact ⟨(hB.out.setCell (by show w.heap.size ≤ w.heap.size + 1; omega) _).setCell (by show w.heap.size ≤ w.heap.size + 1; omega) _, fun h => absurd hfin.out (by omega), fun _ => rfl⟩
    · obtain rfl : k = L.length := by omega
      have hkm : m = L.length := by omega
      have hO2 := hO.out
      rw [List.take_length] at hO2
      obtain ⟨g, cp, rfl, _, _⟩ := hO2.form (by omega)
      obtain ⟨A1, c1, hv1, hsl⟩ := Sl.of_own (cells := Sg.cells) (fun _ => rfl) hO2 rfl
      obtain ⟨rfl, rfl⟩ : some ⟨g, 0, none⟩ = A1 ∧ cp = c1 := by simpa using hv1
      have HO := Lib.hid hO2
      have HSL := Lib.hid hsl
      obtain ⟨f0, f1, f2, f3, f4, f5, f6⟩ := hR.out.facts
      clear hO2 hsl hv1 hO
      go_wp2_with fail
      refine (imay_any e he HSL.out (Nat.le_refl _) HWF.out (by omega)).mono ?_
      rintro r y1 ⟨rfl, hy1⟩
      rw [HM.out]
      have hY := hR.out.below hy1
      obtain ⟨k0, k1, k2, k3, k4, k5, k6⟩ := hY.facts
      obtain ⟨g0, g1, g2, g3⟩ := hY.res
      have HYB := Lib.hid hY.2.2.2
      have HO1 := Lib.hid (own_below HO.out hy1)
      clear hY hy1 f0 f1 f2 f3 f4 f5 f6
      go_wp2
      refine bodyPost_ret (v := ?v3) ?_ rfl ?_
      rotate_left
      · simp [results, Try.results21, go_sem, g0, g1]
        rfl
      · have lb : w.heap.size ≤ w.heap.size + 1 := Nat.le_succ _
        have lo : w.heap.size + 1 < w.heap.size + 1 + 1 + 1 + 1 := by omega
        refine ⟨(HYB.out.setCell (by exact lb) _).setCell (by exact lb) _, fun _ => ?_, fun h => absurd hkm (by omega)⟩
        have hO3 := ownsRow_setCell_below (ownsRow_setCell_below HO1.out (a := ⟨w.heap.size + 1, 0, none⟩) lo (.int .u64 e)) (a := ⟨w.heap.size + 1, 1, none⟩) lo (.slice (some ⟨g, 0, none⟩) L.length cp)
        obtain ⟨A1, c1, hv1, hsl⟩ := Sl.of_own (cells := Sg.cells) (fun _ => rfl) hO3 rfl
        obtain ⟨rfl, rfl⟩ : some ⟨g, 0, none⟩ = A1 ∧ cp = c1 := by simpa using hv1
        exact ⟨_, _, rfl, hsl, fun h => by cases h⟩
end Go.Proofs.Ytclghfekmmcfjaa
