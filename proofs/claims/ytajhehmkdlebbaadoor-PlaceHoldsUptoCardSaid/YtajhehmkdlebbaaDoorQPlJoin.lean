/- place.eight, place.joined: the walks. -/
import Derived.Test.YtajhehmkdlebbaaDoorPlFix3
import Derived.Test.YtajhehmkdlebbaaDoorBytes
import Derived.Test.YtajhehmkdlebbaaDoorQPgStore
import Derived.OrdersHeld
namespace Go.Proofs.YtajhehmkdlebbaaDoor.Pl
open Go.ChangeShapes Go.WideShapes Go.ChangeAt Go.RowKit Go.Deep Go.Proofs.YtajhehmkdlebbaaDoor
set_option maxRecDepth 100000
def e8 (v : Int) (k : Nat) : List Value := (List.range 8).map fun j => .int .u8 (if j < k then v / 256 ^ j % 256 else 0)
theorem e8_step (v : Int) (k : Nat) : e8 v (k + 1) = (e8 v k).set k (.int .u8 (v / 2 ^ (8 * k) % 256)) := by
  apply List.ext_getElem
  · simp [e8]
  · intro j h1 h2
    rw [List.getElem_set]
    simp only [e8, List.getElem_map, List.getElem_range]
    by_cases e : k = j
    · subst e
      rw [if_pos rfl, if_pos (Nat.lt_succ_self k), pow_8k]
    · rw [if_neg e]
      by_cases h : j < k
      · rw [if_pos (by omega), if_pos h]
      · rw [if_neg (by omega), if_neg h]
theorem e8_new (w : World) (A : Array Value) (v : Int) : ((w.alloc (.cells A 67)).alloc (.cells #[.int .u8 0, .int .u8 0, .int .u8 0, .int .u8 0, .int .u8 0, .int .u8 0, .int .u8 0, .int .u8 0] 125)).heap[w.heap.size + 1]? = some (.cells (e8 v 0).toArray 125 (0, 0)) := by
  have h := heap_alloc_new (w.alloc (.cells A 67)) (.cells #[.int .u8 0, .int .u8 0, .int .u8 0, .int .u8 0, .int .u8 0, .int .u8 0, .int .u8 0, .int .u8 0] 125)
  rw [show (w.alloc (.cells A 67)).heap.size = w.heap.size + 1 by simp] at h
  exact h
theorem eight_any (g : GlobD) (w : World) :
    Calls Tryd.prog 60 #[.agg #[.string g.name, .int .i64 g.bind, .bool g.here, .int .u64 g.init]] w fun e w' => e = .returned (.string (bytesV g.init 8)) ∧ Below w.heap.size w w' := by
  go_enter Tryd.func60, Tryd.ntmps60
  go_wp2
  go_loopw [5] (fun i wr => ∃ k : Nat, k ≤ 8 ∧ i = .int .i64 k ∧ wr.heap[w.heap.size]? = some (.cells #[.string g.name, .int .i64 g.bind, .bool g.here, .int .u64 g.init] 67 (0, 0)) ∧ wr.heap[w.heap.size + 1]? = some (.cells (e8 g.init k).toArray 125 (0, 0)) ∧ Below w.heap.size w wr) (fun i _ => 8 - (intOf i).toNat)
  case atStart => exact ⟨0, by omega, rfl, (Lib.alloc_old _ _ _ (by simp)).trans (heap_alloc_new w _), e8_new w _ _, ((Below.refl _ _).alloc (Nat.le_refl _) _).alloc (by simp) _⟩
  case round =>
    obtain ⟨k, hk, rfl, h1, h2, hb⟩ := hrel
    have c3 : wr.cell? ⟨w.heap.size, 3, none⟩ = some (.int .u64 g.init) := by rw [cell_of_row _ _ _ _ _ _ h1]; rfl
    have fz := fun i => Lib.frozen_of_heap h2 i
    by_cases hlt : k < 8
    · have hcc : wr.cell? ⟨w.heap.size + 1, k, none⟩ = some ((e8 g.init k)[k]'(by simp [e8]; omega)) := by rw [cell_of_row _ _ _ _ _ _ h2]; simp [e8, hlt]
      have hw8 : IntKind.i64.wrap (8 * (k : Int)) = ((8 * k : Nat) : Int) := by rw [IntKind.wrap_i64]; omega
      have j3 : 8 * k < 64 := by omega
      have i1 : (0 : Int) ≤ (k : Int) := by omega
      have i2 : (k : Int) < 8 := by omega
      have fzk := fz k
      have H1 := Lib.hid h1
      have H2 := Lib.hid h2
      clear h1 h2 fz
      go_wp2
      refine ⟨⟨k + 1, hlt, by go_num, ?_, ?_, hb.setCell (p := ⟨w.heap.size + 1, k, none⟩) (Nat.le_succ _) _⟩, by simp [intOf]; omega⟩
      · rw [Below.heap_setCell _ _ _ _ (by simp)]; exact H1.out
      · rw [e8_step g.init k]
        simp only [World.setCell, Array.getElem?_modify, if_true, H2.out, Option.map_some]
        simp
    · obtain rfl : k = 8 := by omega
      have hcv := run_convert_bytes_back (P := Tryd.prog) wr 86 9 5 ⟨w.heap.size + 1, 0, none⟩ 8 (bytesV g.init 8).data.toList Tryd.underlying86 Tryd.underlying5 Tryd.underlying9 (fun j hj => by
        have hj8 : j < 8 := by simpa [bytesV] using hj
        rw [show (⟨w.heap.size + 1, 0, none⟩ : Addr).add j = ⟨w.heap.size + 1, j, none⟩ by unfold Addr.add; split <;> simp [*], Lib.cell_of_heap h2]
        simp only [List.getElem?_toArray, e8, List.getElem?_map, List.getElem?_range hj8, Option.map_some, if_pos hj8]
        congr 2
        simp only [bytesV, List.getElem_map, List.getElem_range, byte_val])
      have hln : (bytesV g.init 8).data.toList.length = 8 := by simp [bytesV]
      rw [hln] at hcv
      go_wp2
      go_ret
      exact ⟨rfl, hb⟩
set_option maxHeartbeats 2000000 in
theorem pl_ws (B b : Nat) (bs : List Value) (s : ByteArray) (w : World) (h : IsB B b bs w) (hlen : bs.length + s.size ≤ 140737488355328) (hBw : B ≤ w.heap.size) :
    Calls Tryd.prog 85 #[.pointer (some ⟨b, 0, none⟩), .string s] w fun e w' => e = .returned (.tuple #[.int .i64 s.size, .nilIface]) ∧ BAt B b (.pointer (some ⟨b, 0, none⟩)) (bs ++ Lib.strCells s) w' ∧ Below B w w' := by
  obtain ⟨i0, hi, hz0, hz1, hz2⟩ := info_parts b_byte
  go_enter Tryd.func85, Tryd.ntmps85
  go_wp2_with (go_at_call 100; refine (b_check B b bs _ h).mono ?_)
  rintro e w1 ⟨rfl, h1, hb1⟩
  obtain ⟨hB, v, hbk, hown, hne⟩ := h1
  have c0 : w1.cell? ⟨b, 0, none⟩ = some (.pointer (some ⟨b, 0, none⟩)) := by rw [Lib.cell_of_heap hbk]; rfl
  have c1 : w1.cell? ⟨b, 1, none⟩ = some v := by rw [Lib.cell_of_heap hbk]; rfl
  go_wp2_with (at_builtin; refine Lib.wpList_append_own_string _ rfl _ _ 86 9 rfl B 5 i0 Tryd.underlying86 Tryd.underlying9 hi hz0 hz1 hz2 _ _ _ rfl hown s rfl ?c3 ?c4 ?c5 ?_)
  case c3 => unfold maxLen; omega
  case c4 => omega
  case c5 => have := hb1.size; omega
  intro v' w2 hown' hgrow _
  have hlt : b < w1.heap.size := by
    rcases Nat.lt_or_ge b w1.heap.size with h' | h'
    · exact h'
    · simp [Array.getElem?_eq_none h'] at hbk
  have hb2 : w2.heap[b]? = some (.cells #[.pointer (some ⟨b, 0, none⟩), v] 145 (0, 0)) := by
    rw [hgrow.block b hlt (fun e => hne e.symm)]
    exact hbk
  have d0 : w2.cell? ⟨b, 0, none⟩ = some (.pointer (some ⟨b, 0, none⟩)) := by rw [Lib.cell_of_heap hb2]; rfl
  have d1 : w2.cell? ⟨b, 1, none⟩ = some v := by rw [Lib.cell_of_heap hb2]; rfl
  have f1 : w2.frozen? ⟨b, 1, none⟩ = false := Lib.frozen_of_heap hb2 1
  obtain ⟨ao, n', cap, rfl⟩ : ∃ ao n' cap, v' = .slice ao n' cap := by
    rcases hown'.2 with ⟨hv, _⟩ | ⟨g, cap, cur, hv, _⟩
    · exact ⟨_, _, _, hv⟩
    · exact ⟨_, _, _, hv⟩
  go_wp2
  go_ret2
  refine ⟨rfl, ?_, ?_⟩
  · exact Lib.BuilderAt.put (T := 145) (e := 5) hB hb2 (bs' := bs ++ Lib.strCells s) (by simpa [Lib.strCells_length] using hown') (by decide)
  · exact (hb1.grown hgrow (by have := hb1.size; omega) (fun k hk => (hown.lt k hk).1)).setCell (p := ⟨b, 1, none⟩) hB _
def globL (G : List GlobD) : List UInt8 := G.flatMap fun g => (bytesV g.init 8).data.toList
theorem globL_len (G : List GlobD) : (globL G).length = 8 * G.length := by
  induction G with
  | nil => rfl
  | cons g G ih =>
    simp only [globL, List.flatMap_cons, List.length_append, List.length_cons] at ih ⊢
    rw [ih, show (bytesV g.init 8).data.toList.length = 8 by simp [bytesV]]; omega
theorem globL_take {G : List GlobD} {k : Nat} (hk : k < G.length) : globL (G.take (k + 1)) = globL (G.take k) ++ (bytesV (G[k]).init 8).data.toList := by
  unfold globL
  rw [List.take_succ_eq_append_getElem hk, List.flatMap_append, List.flatMap_singleton]
set_option maxHeartbeats 1000000 in
theorem joined_any {B : Nat} {A : Option Addr} {gc : Nat} {G : List GlobD} {w : World} (hG : Globs w B A gc G) (hB : B ≤ w.heap.size) :
    Calls Tryd.prog 59 #[.slice A G.length gc, .func (.func 60) #[] #[]] w fun e w' => e = .returned (.string ⟨(globL G).toArray⟩) ∧ Below w.heap.size w w' := by
  have hlen := hG.len
  have hlen' := hG.2.1
  have HG := Lib.hid hG
  clear hG
  go_enter Tryd.func59, Tryd.ntmps59
  go_wp2
  go_loopw [10] (fun i wr => ∃ k : Nat, k ≤ G.length ∧ i = .int .i64 k ∧ Hid (IsB w.heap.size w.heap.size (Lib.byteCells (globL (G.take k))) wr) ∧ Below w.heap.size w wr) (fun i _ => G.length - (intOf i).toNat)
  case atStart => exact ⟨0, Nat.zero_le _, rfl, fresh_b w, (Below.refl _ _).alloc (Nat.le_refl _) _⟩
  case round =>
    obtain ⟨k, hk, rfl, hbl, hbw⟩ := hrel
    by_cases hlt : k < G.length
    · obtain ⟨b, off, rfl, hb, c0, c1, c2, c3⟩ := (HG.out.below (hbw.mono hB)).at_ hlt
      have hgt := Lib.hid (globL_take hlt)
      have hgl := globL_len (G.take k)
      have hkl : (G.take k).length ≤ k := List.length_take_le _ _
      have i1 : (0 : Int) ≤ (k : Int) := by omega
      have i2 : (k : Int) < (G.length : Int) := by omega
      have hso := hbw.size
      obtain ⟨g, hg⟩ : ∃ g, g = G[k] := ⟨_, rfl⟩
      rw [← hg] at c0 c1 c2 c3 hgt
      clear hg
      have hz : (bytesV g.init 8).size = 8 := bytesV_size _ _
      go_wp2_with fail
      refine (eight_any g _).mono ?_
      rintro e w1 ⟨rfl, hb1⟩
      have hB1 := isB_below (isB_below hbl.out ((Below.refl _ wr).alloc (Nat.le_refl _) _)) hb1
      have hbw1 : Below w.heap.size w w1 := (hbw.alloc hso _).trans (hb1.mono (by simp; omega))
      obtain ⟨S, hS⟩ : ∃ S, S = bytesV g.init 8 := ⟨_, rfl⟩
      rw [← hS] at hz hgt ⊢
      clear hS hb1
      go_wp2_with (go_at_call 85; refine (pl_ws _ _ _ S _ hB1 (by rw [Lib.byteCells_length]; omega) hbw1.size).mono ?_; rintro e w2 ⟨rfl, hB2, hb2⟩)
      exact ⟨⟨k + 1, hlt, by go_num, .inr (by rw [hgt.out, Lib.byteCells_append]; exact hB2), hbw1.trans hb2⟩, by simp [intOf]; omega⟩
    · obtain rfl : k = G.length := by omega
      rw [List.take_length] at hbl
      go_wp2_with (go_at_call 84; refine (b_string _ _ _ _ hbl.out hbw.size).mono ?_; rintro e w1 ⟨rfl, hb1⟩)
      go_ret
      exact ⟨rfl, hbw.trans hb1⟩
end Go.Proofs.YtajhehmkdlebbaaDoor.Pl
