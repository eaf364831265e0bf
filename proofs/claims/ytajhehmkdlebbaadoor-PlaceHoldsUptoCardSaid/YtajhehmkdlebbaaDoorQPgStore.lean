/- page.Store. -/
import Derived.Test.YtajhehmkdlebbaaDoorQPgFill
namespace Go.Proofs.YtajhehmkdlebbaaDoor
open Go.ChangeShapes Go.WideShapes Go.ChangeAt Go.RowKit Go.Deep Go.Maps Go.WideMaps
set_option maxRecDepth 100000
/-- the first k of a number's eight bytes, noughts behind -/
def eightL (v : Int) (k : Nat) : List UInt8 := (List.range 8).map fun i => if i < k then UInt8.ofNat ((v / 256 ^ i) % 256).toNat else 0
theorem eightL_len (v : Int) (k : Nat) : (eightL v k).length = 8 := by simp [eightL]
theorem eightL_take (v : Int) {n : Nat} (hn : n ≤ 8) : (eightL v 8).take n = (bytesV v n).data.toList := by
  refine List.ext_getElem? fun i => ?_
  rw [List.getElem?_take]
  by_cases h : i < n
  · rw [if_pos h]
    simp [eightL, bytesV, h, show i < 8 by omega]
  · rw [if_neg h, List.getElem?_eq_none (by rw [← ba_size, bytesV_size]; omega)]
theorem BytesAt.store {w : World} {b k : Nat} {l : List UInt8} (h : BytesAt w b l) (x : UInt8) : BytesAt (w.setCell ⟨b, k, none⟩ (.int .u8 (x.toNat : Int))) b (l.set k x) := by
  intro j hj
  have hj' : j < l.length := by simpa using hj
  obtain ⟨h1, h2⟩ := h j hj'
  refine ⟨?_, by rw [World.frozen?_setCell]; exact h2⟩
  by_cases e : k = j
  · subst e
    rw [World.cell?_setCell_same _ _ _ h1]
    simp
  · have hne : (⟨b, k, none⟩ : Addr) ≠ ⟨b, j, none⟩ := fun he => e (by cases he; rfl)
    rw [World.cell?_setCell_other _ _ _ _ hne, h1]
    simp [e]
theorem eightL_set (v : Int) {k : Nat} (hk : k < 8) : (eightL v k).set k (UInt8.ofNat ((v / 256 ^ k) % 256).toNat) = eightL v (k + 1) := by
  refine List.ext_getElem? fun i => ?_
  rw [List.getElem?_set]
  simp only [eightL, List.getElem?_map, List.length_map, List.length_range]
  by_cases h : k = i
  · subst h
    simp [hk]
  · simp only [h, if_false]
    by_cases h8 : i < 8
    · simp only [List.getElem?_range h8, Option.map_some, Option.some.injEq]
      by_cases h2 : i < k
      · rw [if_pos h2, if_pos (by omega)]
      · rw [if_neg h2, if_neg (by omega)]
    · simp [h8]
theorem eight_new (w : World) (v : Int) (t : TypeId) : BytesAt (w.alloc (.cells #[.int .u8 0, .int .u8 0, .int .u8 0, .int .u8 0, .int .u8 0, .int .u8 0, .int .u8 0, .int .u8 0] t)) w.heap.size (eightL v 0) := by
  intro j hj
  rw [eightL_len] at hj
  have hz : (eightL v 0)[j]'(by rw [eightL_len]; exact hj) = 0 := by simp [eightL]
  rw [hz]
  refine ⟨?_, frozen_of_row _ _ _ _ _ (heap_alloc_new w _)⟩
  rw [cell_of_row _ _ _ _ _ _ (heap_alloc_new w _)]
  match j, hj with
  | 0, _ => rfl
  | 1, _ => rfl
  | 2, _ => rfl
  | 3, _ => rfl
  | 4, _ => rfl
  | 5, _ => rfl
  | 6, _ => rfl
  | 7, _ => rfl
theorem byte_val (x : Int) : ((UInt8.ofNat (x % 256).toNat).toNat : Int) = x % 256 := by
  rw [UInt8.toNat_ofNat']; omega
theorem pow_8k (k : Nat) : (2 : Int) ^ (8 * k) = 256 ^ k := by rw [Int.pow_mul]; rfl
theorem BytesAt.take {w : World} {b : Nat} {l : List UInt8} (h : BytesAt w b l) (n : Nat) : BytesAt w b (l.take n) := by
  intro j hj
  rw [List.length_take] at hj
  rw [List.getElem_take]
  exact h j (by omega)
set_option maxHeartbeats 1000000 in
theorem store_any {A : Option Addr} {cap : Nat} {L : List Pg} {w : World} {B : Nat} (at_ n v : Int) (hat : 0 ≤ at_ ∧ at_ ≤ 18446744073709551615)
    (hL : Mem w B A cap L) (hA : A = none → cap = 0) (hB : B ≤ w.heap.size) (hwf : ∀ p ∈ L, p.ok) (hlen : L.length ≤ 140737488351232) :
    Calls Tryd.prog 45 #[.slice A L.length cap, .int .u64 at_, .int .i64 n, .int .u64 v] w fun e w' => Below w.heap.size w w' ∧ ∃ u, e = .returned (.tuple #[u, .int .i64 (loadE L at_ n 2)]) ∧ MemV w' u (storeX L at_ n v) := by
  by_cases hc : (1 ≤ n ∧ n ≤ 8) ∧ rightB L = true
  · obtain ⟨⟨h1, h8⟩, hR⟩ := hc
    obtain ⟨N, rfl⟩ := Int.eq_ofNat_of_zero_le (show 0 ≤ n by omega)
    obtain ⟨ok, hok⟩ : ∃ ok, ok = (loadN L at_ 2 (bytesV v N).size).isSome := ⟨_, rfl⟩
    obtain ⟨X, hX0⟩ : ∃ X, X = (if ok then wrL L at_ (bytesV v N) (bytesV v N).size else L) := ⟨_, rfl⟩
    have hE : loadE L at_ N 2 = if ok then 0 else 6 := by unfold loadE; rw [if_pos ⟨⟨h1, h8⟩, hR⟩, hok, bytesV_size, Int.toNat_natCast]
    have hX : storeX L at_ N v = X := by
      unfold storeX; rw [hX0, hok, bytesV_size, Int.toNat_natCast]
      by_cases h : (loadN L at_ 2 N).isSome = true
      · rw [if_pos ⟨⟨⟨h1, h8⟩, hR⟩, h⟩, if_pos h]
      · rw [if_neg (fun h' => h h'.2), if_neg h]
    have HOK : Hid ((loadN L at_ 2 (bytesV v N).size).isSome = ok) := hok.symm
    have HX0 : Hid (X = if ok then wrL L at_ (bytesV v N) (bytesV v N).size else L) := hX0
    have HE := Lib.hid hE
    have HX := Lib.hid hX
    have HR := Lib.hid hR
    have HA := Lib.hid hA
    have HWF := Lib.hid hwf
    clear hE hX hR hok hX0 hA hwf
    go_enter Tryd.func45, Tryd.ntmps45
    go_wp2_with fail
    refine (right_any hL hB HWF.out hlen).mono ?_
    rintro e w1 ⟨rfl, hb1⟩
    rw [HR.out]
    go_wp2
    go_loopw [26] (fun i wr => ∃ k : Nat, k ≤ 8 ∧ i = .int .i64 k ∧ BytesAt wr w1.heap.size (eightL v k) ∧ Below w1.heap.size w1 wr) (fun i _ => 8 - (intOf i).toNat)
    case atStart => exact ⟨0, Nat.zero_le _, rfl, eight_new _ _ _, (Below.refl _ _).alloc (Nat.le_refl _) _⟩
    case round =>
      obtain ⟨k, hk, rfl, hba, hbw⟩ := hrel
      have hHBA := Lib.hid hba
      by_cases hlt : k < 8
      · obtain ⟨c0, c1⟩ := hba k (by rw [eightL_len]; exact hlt)
        clear hba
        have i1 : (0 : Int) ≤ (k : Int) := by omega
        have i2 : (k : Int) < 8 := by omega
        go_wp2
        have hst := hHBA.out.store (k := k) (UInt8.ofNat ((v / 256 ^ k) % 256).toNat)
        rw [eightL_set v hlt, byte_val, ← pow_8k] at hst
        exact ⟨⟨k + 1, by omega, by go_num, hst, hbw.setCell (p := ⟨w1.heap.size, k, none⟩) (Nat.le_refl _) _⟩, by simp [intOf]; omega⟩
      · obtain rfl : k = 8 := by omega
        have hstr := run_bytes_str (P := Tryd.prog) wr 86 9 5 w1.heap.size 8 ((eightL v 8).take N) Tryd.underlying86 Tryd.underlying5 Tryd.underlying9 (hba.take N) N (by rw [List.length_take, eightL_len]; omega)
        rw [eightL_take v (by omega)] at hstr
        have hbs : (⟨(bytesV v N).data.toList.toArray⟩ : ByteArray) = bytesV v N := rfl
        rw [hbs] at hstr
        have hs1 := hbw.size
        have HS1 := Lib.hid hs1
        clear hba hbs
        go_wp2_with fail
        have hLr := Sl.In.below hL ((hb1.trans (hbw.mono hb1.size)).mono hB)
        have hbr := hb1.trans (hbw.mono hb1.size)
        refine (set_any ok X at_ 2 (bytesV v N) HOK HX0 hat (by rw [bytesV_size]; omega) (rightB_out HR.out) hLr HA.out (Nat.le_trans hB hbr.size) HWF.out).mono ?_
        rintro e w2 ⟨hb2, u, rfl, hu⟩
        have hbb := hbr.trans (hb2.mono hbr.size)
        cases ok with
        | true =>
          go_wp2
          go_ret2
          rw [HE.out, HX.out]
          exact ⟨hbb, u, rfl, hu⟩
        | false =>
          go_wp2
          go_ret2
          rw [HE.out, HX.out, HX0.out]
          exact ⟨hbb, _, rfl, MemV.of (Sl.In.below hL (hbb.mono hB)) HA.out (Nat.le_trans hB hbb.size)⟩
  · have hE : loadE L at_ n 2 = 1 := by unfold loadE; rw [if_neg hc]
    have hX : storeX L at_ n v = L := by unfold storeX; rw [if_neg (fun h => hc h.1)]
    have HE := Lib.hid hE
    have HX := Lib.hid hX
    have hcc : n < 1 ∨ (1 ≤ n ∧ 8 < n) ∨ ((1 ≤ n ∧ n ≤ 8) ∧ rightB L = false) := by
      by_cases c1 : 1 ≤ n
      · by_cases c2 : n ≤ 8
        · exact .inr (.inr ⟨⟨c1, c2⟩, by cases h : rightB L; rfl; exact absurd ⟨⟨c1, c2⟩, h⟩ hc⟩)
        · exact .inr (.inl ⟨c1, by omega⟩)
      · exact .inl (by omega)
    have HL := Lib.hid hL
    have HWF := Lib.hid hwf
    have HA := Lib.hid hA
    clear hc hE hX hL hwf hA
    rcases hcc with c | ⟨c, c'⟩ | ⟨⟨c, c'⟩, hR⟩
    · go_enter Tryd.func45, Tryd.ntmps45
      go_wp2
      go_ret2
      rw [HE.out, HX.out]
      exact ⟨Below.refl _ _, _, rfl, MemV.of HL.out HA.out hB⟩
    · go_enter Tryd.func45, Tryd.ntmps45
      go_wp2
      go_ret2
      rw [HE.out, HX.out]
      exact ⟨Below.refl _ _, _, rfl, MemV.of HL.out HA.out hB⟩
    · have HR := Lib.hid hR
      clear hR
      go_enter Tryd.func45, Tryd.ntmps45
      go_wp2_with fail
      refine (right_any HL.out hB HWF.out hlen).mono ?_
      rintro e w1 ⟨rfl, hb1⟩
      rw [HR.out]
      go_wp2
      go_ret2
      rw [HE.out, HX.out]
      exact ⟨hb1, _, rfl, MemV.of (Sl.In.below HL.out (hb1.mono hB)) HA.out (Nat.le_trans hB hb1.size)⟩
end Go.Proofs.YtajhehmkdlebbaaDoor
