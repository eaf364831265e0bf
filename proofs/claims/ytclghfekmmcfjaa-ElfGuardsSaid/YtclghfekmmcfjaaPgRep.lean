/- strings.Repeat of one nought, 256 times. -/
import Derived.Test.YtclghfekmmcfjaaBld
import Derived.Test.YtclghfekmmcfjaaMore
import Derived.Deep.LoopGhost
import Derived.Shelf.Strings.Repeat
namespace Go.Proofs.Ytclghfekmmcfjaa
open Go.ChangeShapes Go.WideShapes Go.ChangeAt Go.RowKit Go.Shelf
set_option maxRecDepth 100000
theorem mul_any (w : World) : Calls Try.prog 67 #[.int .u64 1, .int .u64 256] w fun e w' => e = .returned (.tuple #[.int .u64 0, .int .u64 256]) ∧ w = w' := by
  go_enter Try.func67, Try.ntmps67
  go_wp2
  go_ret2
  exact ⟨rfl, rfl⟩
set_option maxHeartbeats 2000000 in
theorem repeat_any (w : World) :
    Calls Try.prog 56 #[.string ⟨#[0]⟩, .int .i64 256] w fun e w' => e = .returned (.string (zerosB 256)) ∧ Below w.heap.size w w' := by
  go_enter Try.func56, Try.ntmps56
  go_wp2_with fail
  refine (mul_any w).mono ?_
  rintro e w1 ⟨rfl, rfl⟩
  go_wp2_with fail
  refine (b_grow bt_builder w.heap.size w.heap.size 256 _ (Nat.le_refl _) (heap_alloc_new w _) (by simp) (by decide)).mono ?_
  rintro e w1 ⟨rfl, hB1, hb1⟩
  go_wp2_with fail
  refine (bf_ws bt_builder w.heap.size w.heap.size [] ⟨#[0]⟩ w1 (.inr (Lib.BuilderAtF.of hB1)) (by decide) (by have := hb1.size; simp at this; omega)).mono ?_
  rintro e w2 ⟨rfl, hB2, hb2⟩
  have hB2' : IsBF 94 w.heap.size w.heap.size (Lib.byteCells (List.replicate 1 0)) w2 := .inr hB2
  have hbw2 : Below w.heap.size w w2 := (((Below.refl _ w).alloc (Nat.le_refl _) _).trans hb1).trans hb2
  clear hB1 hB2 hb1 hb2
  go_wp2
  go_loopg [10] 255 (fun r v wr => ∃ l : Nat, 1 ≤ l ∧ l + r = 256 ∧ Hid (IsBF 94 w.heap.size w.heap.size (Lib.byteCells (List.replicate l 0)) wr) ∧ Below w.heap.size w wr)
  case atStart => exact ⟨1, Nat.le_refl _, rfl, hB2', hbw2⟩
  case round =>
    obtain ⟨l, hl, hr, hB, hbw⟩ := hrel
    have hso := hbw.size
    have hl0 : List.replicate l (0 : UInt8) ≠ [] := fun e => by have := congrArg List.length e; simp at this; omega
    have HL0 := Lib.hid hl0
    clear hl0
    go_wp2_with fail
    refine (bf_len _ _ _ wr hB.out).mono ?_
    rintro e w3 ⟨rfl, rfl⟩
    rw [Lib.byteCells_length, List.length_replicate]
    by_cases hlt : l < 256
    · obtain ⟨c, hc⟩ : ∃ c, c = min (256 - l) l := ⟨_, rfl⟩
      have hc1 : 1 ≤ c := by omega
      have hc2 : c ≤ l := by omega
      have hc3 : l + c ≤ 256 := by omega
      have hmin : ∀ W : World, (Builtin.min_ #[3, 3, 3] 3 #[.int .i64 (256 - (l : Int)), .int .i64 l, .int .i64 256]).run Try.prog W = .ok (.int .i64 (c : Int)) W := fun W => by
        rw [run_min_int3]
        congr 2
        split <;> split at * <;> omega
      clear hc
      go_wp2_with fail
      refine (bf_len _ _ _ w3 hB.out).mono ?_
      rintro e w4 ⟨rfl, rfl⟩
      rw [Lib.byteCells_length, List.length_replicate]
      go_wp2_with fail
      refine (bf_len _ _ _ w4 hB.out).mono ?_
      rintro e w5 ⟨rfl, rfl⟩
      rw [Lib.byteCells_length, List.length_replicate]
      go_wp2_with fail
      refine (bf_str _ _ _ w5 hB.out HL0.out).mono ?_
      rintro e w6 ⟨rfl, hB6, hb6⟩
      obtain ⟨S, hS⟩ : ∃ S : ByteArray, (⟨(List.replicate l 0).toArray⟩ : ByteArray) = S := ⟨_, rfl⟩
      have hSs : S.size = l := by rw [← hS]; simp [ByteArray.size]
      have hSe : (S.extract 0 c).data.toList = List.replicate c 0 := by
        rw [ByteArray.data_extract, ← hS, Array.toList_extract, List.extract_eq_take_drop]
        simp
        omega
      have hSc : (S.extract 0 c).size = c := by
        have := congrArg List.length hSe
        rw [List.length_replicate, Array.length_toList] at this
        exact this
      rw [hS]
      have HS := Lib.hid hS
      have HSE := Lib.hid hSe
      have HSC := Lib.hid hSc
      have s1 : (0 : Int) ≤ (c : Int) := by omega
      have s2 : (c : Int) ≤ (S.size : Int) := by omega
      clear hS hSe hSc
      go_wp2_with fail
      refine (bf_ws bt_builder w.heap.size w.heap.size _ (S.extract 0 c) w6 hB6 (by rw [HSC.out, Lib.byteCells_length, List.length_replicate]; omega) (by have := hb6.size; omega)).mono ?_
      rintro e w7 ⟨rfl, hB7, hb7⟩
      have hB8 : IsBF 94 w.heap.size w.heap.size (Lib.byteCells (List.replicate (l + c) 0)) w7 := by
        refine .inr ?_
        have : Lib.byteCells (List.replicate l 0) ++ Lib.strCells (S.extract 0 c) = Lib.byteCells (List.replicate (l + c) 0) := by
          rw [Lib.strCells_eq, HSE.out]
          simp [Lib.byteCells]
        rw [← this]
        exact hB7
      go_wp2
      go_roundg (gk - c)
      case rel => exact ⟨l + c, by omega, by omega, hB8, (hbw.trans hb6).trans hb7⟩
      case measure => omega
    · obtain rfl : l = 256 := by omega
      go_wp2_with fail
      refine (bf_str _ _ _ w3 hB.out HL0.out).mono ?_
      rintro e w6 ⟨rfl, hB6, hb6⟩
      go_wp2
      go_ret
      exact ⟨rfl, hbw.trans hb6⟩
end Go.Proofs.Ytclghfekmmcfjaa
