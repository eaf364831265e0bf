/- enc.Word: an instruction's word, as a sum. -/
import Derived.Test.YtajhehmkdlebbaaDoorMay
import Derived.Test.YtajhehmkdlebbaaDoorBits
namespace Go.Proofs.YtajhehmkdlebbaaDoor
open Go.ChangeShapes Go.WideShapes Go.ChangeAt Go.RowKit
set_option maxRecDepth 100000
theorem ret_2 {k k' : IntKind} {a b c : Int} (h : a = b) : Ending.returned (.tuple #[.int k a, .int k' c]) = .returned (.tuple #[.int k b, .int k' c]) := by rw [h]
/-- the word of an instruction of a form, out of its fixed bits -/
def wordF (f op f3 f7 : Nat) (rd a b imm : Int) : Int :=
  if f = 82 then op + rd * 128 + f3 * 4096 + a * 32768 + b * 1048576 + f7 * 33554432
  else if f = 73 ∨ f = 72 then op + rd * 128 + f3 * 4096 + a * 32768 + imm % 4096 * 1048576
  else if f = 83 then op + imm % 32 * 128 + f3 * 4096 + a * 32768 + b * 1048576 + imm / 32 % 128 * 33554432
  else if f = 66 then op + imm / 2048 % 2 * 128 + imm / 2 % 16 * 256 + f3 * 4096 + a * 32768 + b * 1048576 + imm / 32 % 64 * 33554432 + imm / 4096 % 2 * 2147483648
  else if f = 85 then op + rd * 128 + imm / 4096 % 1048576 * 4096
  else if f = 74 then op + rd * 128 + imm / 4096 % 256 * 4096 + imm / 2048 % 2 * 1048576 + imm / 2 % 1024 * 2097152 + imm / 1048576 % 2 * 2147483648
  else op
/-! ### The numbers: 'or' of parts that lie apart -/
theorem or_add {x y : Int} (p : Int) (i : Nat) (hp : p = 2 ^ i) (hi : i ≤ 32) (hx0 : 0 ≤ x) (hx1 : x < p) (hy0 : 0 ≤ y) (hy1 : y < 4294967296) (hd : y % p = 0) : bits BinOp.or IntKind.u32 x y = x + y := by
  subst hp
  exact (or_sum x y i hx0 hx1 hy0 hy1 hd hi).1
theorem b_11_1_7 (i : Int) : bitsI (i % 4294967296) 11 1 7 = i / 2048 % 2 * 128 := by simp only [bitsI, Int.reducePow]; omega
theorem b_1_4_8 (i : Int) : bitsI (i % 4294967296) 1 4 8 = i / 2 % 16 * 256 := by simp only [bitsI, Int.reducePow]; omega
theorem b_5_6_25 (i : Int) : bitsI (i % 4294967296) 5 6 25 = i / 32 % 64 * 33554432 := by simp only [bitsI, Int.reducePow]; omega
theorem b_12_1_31 (i : Int) : bitsI (i % 4294967296) 12 1 31 = i / 4096 % 2 * 2147483648 := by simp only [bitsI, Int.reducePow]; omega
theorem b_0_5_7 (i : Int) : bitsI (i % 4294967296) 0 5 7 = i % 32 * 128 := by simp only [bitsI, Int.reducePow]; omega
theorem b_5_7_25 (i : Int) : bitsI (i % 4294967296) 5 7 25 = i / 32 % 128 * 33554432 := by simp only [bitsI, Int.reducePow]; omega
theorem b_12_8_12 (i : Int) : bitsI (i % 4294967296) 12 8 12 = i / 4096 % 256 * 4096 := by simp only [bitsI, Int.reducePow]; omega
theorem b_11_1_20 (i : Int) : bitsI (i % 4294967296) 11 1 20 = i / 2048 % 2 * 1048576 := by simp only [bitsI, Int.reducePow]; omega
theorem b_1_10_21 (i : Int) : bitsI (i % 4294967296) 1 10 21 = i / 2 % 1024 * 2097152 := by simp only [bitsI, Int.reducePow]; omega
theorem b_20_1_31 (i : Int) : bitsI (i % 4294967296) 20 1 31 = i / 1048576 % 2 * 2147483648 := by simp only [bitsI, Int.reducePow]; omega
theorem i_20 (i : Int) : i % 4294967296 * 1048576 % 4294967296 = i % 4096 * 1048576 := by omega
theorem or_R {op f3 f7 : Nat} {rd a b imm : Int} (_ : 0 ≤ rd ∧ rd ≤ 31) (_ : 0 ≤ a ∧ a ≤ 31) (_ : 0 ≤ b ∧ b ≤ 31) (_ : op < 128) (_ : f3 < 8) (_ : f7 < 128) (_ : formImm 82 rd a b imm) : bits BinOp.or IntKind.u32 (↑op) (bits BinOp.or IntKind.u32 (bits BinOp.or IntKind.u32 (bits BinOp.or IntKind.u32 (bits BinOp.or IntKind.u32 (rd * 128) (↑f3 * 4096)) (a * 32768)) (b * 1048576)) (↑f7 * 33554432)) = wordF 82 op f3 f7 rd a b imm := by
  rw [or_add (y := ↑f3 * 4096) 4096 12 (by decide) (by decide) (by omega) (by omega) (by omega) (by omega) (by omega), or_add (y := a * 32768) 32768 15 (by decide) (by decide) (by omega) (by omega) (by omega) (by omega) (by omega),
    or_add (y := b * 1048576) 1048576 20 (by decide) (by decide) (by omega) (by omega) (by omega) (by omega) (by omega), or_add (y := ↑f7 * 33554432) 33554432 25 (by decide) (by decide) (by omega) (by omega) (by omega) (by omega) (by omega),
    or_add (x := (op : Int)) 128 7 (by decide) (by decide) (by omega) (by omega) (by omega) (by omega) (by omega)]
  simp only [wordF, if_true]; omega
theorem or_I {op f3 f7 : Nat} {rd a b imm : Int} (_ : 0 ≤ rd ∧ rd ≤ 31) (_ : 0 ≤ a ∧ a ≤ 31) (_ : 0 ≤ b ∧ b ≤ 31) (_ : op < 128) (_ : f3 < 8) (_ : f7 < 128) (_ : formImm 73 rd a b imm) : bits BinOp.or IntKind.u32 (↑op) (bits BinOp.or IntKind.u32 (bits BinOp.or IntKind.u32 (bits BinOp.or IntKind.u32 (rd * 128) (↑f3 * 4096)) (a * 32768)) (imm % 4294967296 * 1048576 % 4294967296)) = wordF 73 op f3 f7 rd a b imm := by
  rw [i_20]
  generalize hq : imm % 4096 = q
  have hq' : 0 ≤ q ∧ q < 4096 := by omega
  rw [or_add (y := ↑f3 * 4096) 4096 12 (by decide) (by decide) (by omega) (by omega) (by omega) (by omega) (by omega), or_add (y := a * 32768) 32768 15 (by decide) (by decide) (by omega) (by omega) (by omega) (by omega) (by omega),
    or_add (y := q * 1048576) 1048576 20 (by decide) (by decide) (by omega) (by omega) (by omega) (by omega) (by omega),
    or_add (x := (op : Int)) 128 7 (by decide) (by decide) (by omega) (by omega) (by omega) (by omega) (by omega)]
  have e : wordF 73 op f3 f7 rd a b imm = op + rd * 128 + f3 * 4096 + a * 32768 + imm % 4096 * 1048576 := rfl
  rw [e, hq]; omega
theorem or_H {op f3 f7 : Nat} {rd a b imm : Int} (_ : 0 ≤ rd ∧ rd ≤ 31) (_ : 0 ≤ a ∧ a ≤ 31) (_ : 0 ≤ b ∧ b ≤ 31) (_ : op < 128) (_ : f3 < 8) (_ : f7 < 128) (_ : formImm 72 rd a b imm) : bits BinOp.or IntKind.u32 (↑op) (bits BinOp.or IntKind.u32 (bits BinOp.or IntKind.u32 (bits BinOp.or IntKind.u32 (rd * 128) (↑f3 * 4096)) (a * 32768)) (imm % 4294967296 * 1048576 % 4294967296)) = wordF 72 op f3 f7 rd a b imm := by
  rw [i_20]
  generalize hq : imm % 4096 = q
  have hq' : 0 ≤ q ∧ q < 4096 := by omega
  rw [or_add (y := ↑f3 * 4096) 4096 12 (by decide) (by decide) (by omega) (by omega) (by omega) (by omega) (by omega), or_add (y := a * 32768) 32768 15 (by decide) (by decide) (by omega) (by omega) (by omega) (by omega) (by omega),
    or_add (y := q * 1048576) 1048576 20 (by decide) (by decide) (by omega) (by omega) (by omega) (by omega) (by omega),
    or_add (x := (op : Int)) 128 7 (by decide) (by decide) (by omega) (by omega) (by omega) (by omega) (by omega)]
  have e : wordF 72 op f3 f7 rd a b imm = op + rd * 128 + f3 * 4096 + a * 32768 + imm % 4096 * 1048576 := rfl
  rw [e, hq]; omega
theorem or_S {op f3 f7 : Nat} {rd a b imm : Int} (_ : 0 ≤ rd ∧ rd ≤ 31) (_ : 0 ≤ a ∧ a ≤ 31) (_ : 0 ≤ b ∧ b ≤ 31) (_ : op < 128) (_ : f3 < 8) (_ : f7 < 128) (_ : formImm 83 rd a b imm) : bits BinOp.or IntKind.u32 (↑op) (bits BinOp.or IntKind.u32 (bits BinOp.or IntKind.u32 (bits BinOp.or IntKind.u32 (bits BinOp.or IntKind.u32 (bitsI (imm % 4294967296) 0 5 7) (↑f3 * 4096)) (a * 32768)) (b * 1048576)) (bitsI (imm % 4294967296) 5 7 25)) = wordF 83 op f3 f7 rd a b imm := by
  rw [b_0_5_7, b_5_7_25]
  have e : wordF 83 op f3 f7 rd a b imm = op + imm % 32 * 128 + f3 * 4096 + a * 32768 + b * 1048576 + imm / 32 % 128 * 33554432 := rfl
  rw [e]
  generalize hq : imm % 32 = q
  generalize hr : imm / 32 % 128 = r
  have hq' : 0 ≤ q ∧ q < 32 := by omega
  have hr' : 0 ≤ r ∧ r < 128 := by omega
  clear hq hr e
  rw [or_add (y := ↑f3 * 4096) 4096 12 (by decide) (by decide) (by omega) (by omega) (by omega) (by omega) (by omega), or_add (y := a * 32768) 32768 15 (by decide) (by decide) (by omega) (by omega) (by omega) (by omega) (by omega),
    or_add (y := b * 1048576) 1048576 20 (by decide) (by decide) (by omega) (by omega) (by omega) (by omega) (by omega), or_add (y := r * 33554432) 33554432 25 (by decide) (by decide) (by omega) (by omega) (by omega) (by omega) (by omega),
    or_add (x := (op : Int)) 128 7 (by decide) (by decide) (by omega) (by omega) (by omega) (by omega) (by omega)]
  omega
theorem or_B {op f3 f7 : Nat} {rd a b imm : Int} (_ : 0 ≤ rd ∧ rd ≤ 31) (_ : 0 ≤ a ∧ a ≤ 31) (_ : 0 ≤ b ∧ b ≤ 31) (_ : op < 128) (_ : f3 < 8) (_ : f7 < 128) (_ : formImm 66 rd a b imm) : bits BinOp.or IntKind.u32 (↑op) (bits BinOp.or IntKind.u32 (bits BinOp.or IntKind.u32 (bits BinOp.or IntKind.u32 (bits BinOp.or IntKind.u32 (bits BinOp.or IntKind.u32 (bits BinOp.or IntKind.u32 (bitsI (imm % 4294967296) 11 1 7) (bitsI (imm % 4294967296) 1 4 8)) (↑f3 * 4096)) (a * 32768)) (b * 1048576)) (bitsI (imm % 4294967296) 5 6 25)) (bitsI (imm % 4294967296) 12 1 31)) = wordF 66 op f3 f7 rd a b imm := by
  rw [b_11_1_7, b_1_4_8, b_5_6_25, b_12_1_31]
  have e : wordF 66 op f3 f7 rd a b imm = op + imm / 2048 % 2 * 128 + imm / 2 % 16 * 256 + f3 * 4096 + a * 32768 + b * 1048576 + imm / 32 % 64 * 33554432 + imm / 4096 % 2 * 2147483648 := rfl
  rw [e]
  generalize hq : imm / 2048 % 2 = q
  generalize hr : imm / 2 % 16 = r
  generalize hs : imm / 32 % 64 = s
  generalize ht : imm / 4096 % 2 = t
  have hq' : 0 ≤ q ∧ q < 2 := by omega
  have hr' : 0 ≤ r ∧ r < 16 := by omega
  have hs' : 0 ≤ s ∧ s < 64 := by omega
  have ht' : 0 ≤ t ∧ t < 2 := by omega
  clear hq hr hs ht e
  rw [or_add (y := r * 256) 256 8 (by decide) (by decide) (by omega) (by omega) (by omega) (by omega) (by omega), or_add (y := ↑f3 * 4096) 4096 12 (by decide) (by decide) (by omega) (by omega) (by omega) (by omega) (by omega), or_add (y := a * 32768) 32768 15 (by decide) (by decide) (by omega) (by omega) (by omega) (by omega) (by omega),
    or_add (y := b * 1048576) 1048576 20 (by decide) (by decide) (by omega) (by omega) (by omega) (by omega) (by omega), or_add (y := s * 33554432) 33554432 25 (by decide) (by decide) (by omega) (by omega) (by omega) (by omega) (by omega), or_add (y := t * 2147483648) 2147483648 31 (by decide) (by decide) (by omega) (by omega) (by omega) (by omega) (by omega),
    or_add (x := (op : Int)) 128 7 (by decide) (by decide) (by omega) (by omega) (by omega) (by omega) (by omega)]
  omega
theorem or_U {op f3 f7 : Nat} {rd a b imm : Int} (_ : 0 ≤ rd ∧ rd ≤ 31) (_ : 0 ≤ a ∧ a ≤ 31) (_ : 0 ≤ b ∧ b ≤ 31) (_ : op < 128) (_ : f3 < 8) (_ : f7 < 128) (hi : formImm 85 rd a b imm) : bits BinOp.or IntKind.u32 (↑op) (bits BinOp.or IntKind.u32 (rd * 128) (imm % 4294967296)) = wordF 85 op f3 f7 rd a b imm := by
  have h : imm % 4096 = 0 := by unfold formImm at hi; omega
  have e : wordF 85 op f3 f7 rd a b imm = op + rd * 128 + imm / 4096 % 1048576 * 4096 := rfl
  have e2 : imm % 4294967296 = imm / 4096 % 1048576 * 4096 := by omega
  rw [e, e2]
  generalize hq : imm / 4096 % 1048576 = q
  have hq' : 0 ≤ q ∧ q < 1048576 := by omega
  clear hq e e2 h hi
  rw [or_add (y := q * 4096) 4096 12 (by decide) (by decide) (by omega) (by omega) (by omega) (by omega) (by omega), or_add (x := (op : Int)) 128 7 (by decide) (by decide) (by omega) (by omega) (by omega) (by omega) (by omega)]
  omega
theorem or_J {op f3 f7 : Nat} {rd a b imm : Int} (_ : 0 ≤ rd ∧ rd ≤ 31) (_ : 0 ≤ a ∧ a ≤ 31) (_ : 0 ≤ b ∧ b ≤ 31) (_ : op < 128) (_ : f3 < 8) (_ : f7 < 128) (_ : formImm 74 rd a b imm) : bits BinOp.or IntKind.u32 (↑op) (bits BinOp.or IntKind.u32 (bits BinOp.or IntKind.u32 (bits BinOp.or IntKind.u32 (bits BinOp.or IntKind.u32 (rd * 128) (bitsI (imm % 4294967296) 12 8 12)) (bitsI (imm % 4294967296) 11 1 20)) (bitsI (imm % 4294967296) 1 10 21)) (bitsI (imm % 4294967296) 20 1 31)) = wordF 74 op f3 f7 rd a b imm := by
  rw [b_12_8_12, b_11_1_20, b_1_10_21, b_20_1_31]
  have e : wordF 74 op f3 f7 rd a b imm = op + rd * 128 + imm / 4096 % 256 * 4096 + imm / 2048 % 2 * 1048576 + imm / 2 % 1024 * 2097152 + imm / 1048576 % 2 * 2147483648 := rfl
  rw [e]
  generalize hq : imm / 4096 % 256 = q
  generalize hr : imm / 2048 % 2 = r
  generalize hs : imm / 2 % 1024 = s
  generalize ht : imm / 1048576 % 2 = t
  have hq' : 0 ≤ q ∧ q < 256 := by omega
  have hr' : 0 ≤ r ∧ r < 2 := by omega
  have hs' : 0 ≤ s ∧ s < 1024 := by omega
  have ht' : 0 ≤ t ∧ t < 2 := by omega
  clear hq hr hs ht e
  rw [or_add (y := q * 4096) 4096 12 (by decide) (by decide) (by omega) (by omega) (by omega) (by omega) (by omega), or_add (y := r * 1048576) 1048576 20 (by decide) (by decide) (by omega) (by omega) (by omega) (by omega) (by omega), or_add (y := s * 2097152) 2097152 21 (by decide) (by decide) (by omega) (by omega) (by omega) (by omega) (by omega),
    or_add (y := t * 2147483648) 2147483648 31 (by decide) (by decide) (by omega) (by omega) (by omega) (by omega) (by omega), or_add (x := (op : Int)) 128 7 (by decide) (by decide) (by omega) (by omega) (by omega) (by omega) (by omega)]
  omega
theorem or_E {op f3 f7 : Nat} {rd a b imm : Int} (_ : 0 ≤ rd ∧ rd ≤ 31) (_ : 0 ≤ a ∧ a ≤ 31) (_ : 0 ≤ b ∧ b ≤ 31) (_ : op < 128) (_ : f3 < 8) (_ : f7 < 128) (_ : formImm 69 rd a b imm) : (op : Int) = wordF 69 op f3 f7 rd a b imm := rfl
theorem mayB_out {k rd a b imm : Int} (h : mayB k rd a b imm = true) : MayP k rd a b imm := by unfold mayB at h; exact of_decide_eq_true h
theorem word_bad {k rd a b imm : Int} {w : World} (hT : Tab w) (hm : mayB k rd a b imm = false) :
    Calls Tryd.prog 82 #[.agg #[.int .i64 k, .int .i64 rd, .int .i64 a, .int .i64 b, .int .i64 imm]] w fun e w' => e = .returned (.tuple #[.int .u32 0, .int .i64 1]) ∧ Below w.heap.size w w' := by
  have ba := (Below.refl w.heap.size w).alloc (Nat.le_refl _) (.cells #[.int .i64 k, .int .i64 rd, .int .i64 a, .int .i64 b, .int .i64 imm] 23)
  have HT := Lib.hid (hT.below ba hT.size)
  clear hT
  go_enter Tryd.func82, Tryd.ntmps82
  go_wp2_with (go_at_call 57; refine (may_any _ _ _ _ _ HT.out).mono ?_; rintro e w1 ⟨rfl, hb1⟩)
  go_ret2
  exact ⟨rfl, ba.trans (hb1.mono ba.size)⟩
set_option maxHeartbeats 400000 in
theorem word_R {k op f3 f7 : Nat} {rd a b imm : Int} {w : World} (hT : Tab w) (hk : k < 32) (h1 : 0 ≤ rd ∧ rd ≤ 31) (h2 : 0 ≤ a ∧ a ≤ 31) (h3 : 0 ≤ b ∧ b ≤ 31) (hop : op < 128) (hf3 : f3 < 8) (hf7 : f7 < 128)
    (hm : mayB k rd a b imm = true) (hi : formImm 82 rd a b imm) (c0 : w.cell? ⟨0, k * 4, none⟩ = some (.int .u8 82)) (c1 : w.cell? ⟨0, k * 4 + 1, none⟩ = some (.int .u32 op)) (c2 : w.cell? ⟨0, k * 4 + 2, none⟩ = some (.int .u32 f3)) (c3 : w.cell? ⟨0, k * 4 + 3, none⟩ = some (.int .u32 f7)) :
    Calls Tryd.prog 82 #[.agg #[.int .i64 k, .int .i64 rd, .int .i64 a, .int .i64 b, .int .i64 imm]] w fun e w' => e = .returned (.tuple #[.int .u32 (wordF 82 op f3 f7 rd a b imm), .int .i64 0]) ∧ Below w.heap.size w w' := by
  have ba := (Below.refl w.heap.size w).alloc (Nat.le_refl _) (.cells #[.int .i64 k, .int .i64 rd, .int .i64 a, .int .i64 b, .int .i64 imm] 23)
  have hs := hT.size
  have HT := Lib.hid (hT.below ba hT.size)
  have HI := Lib.hid hi
  clear hT hi
  have hn : 0 ≤ imm % 4294967296 ∧ imm % 4294967296 < 4294967296 := by omega
  go_enter Tryd.func82, Tryd.ntmps82
  go_wp2_with
    (go_at_call 57
     refine (may_any _ _ _ _ _ HT.out).mono ?_
     rintro e w1 ⟨rfl, hb1⟩
     have HB := Lib.hid (ba.trans (hb1.mono ba.size))
     have d0 := (HB.out.cell (p := ⟨0, k * 4, none⟩) hs).trans c0
     have d1 := (HB.out.cell (p := ⟨0, k * 4 + 1, none⟩) hs).trans c1
     have d2 := (HB.out.cell (p := ⟨0, k * 4 + 2, none⟩) hs).trans c2
     have d3 := (HB.out.cell (p := ⟨0, k * 4 + 3, none⟩) hs).trans c3
     have hz : 0 < w1.heap.size := by have := HB.out.size; omega
     have hz1 : w.heap.size < w1.heap.size := by have := hb1.size; simp at this; omega
     obtain ⟨hc, hfz⟩ := bcell hb1)
  go_quiet (fail)
  go_wp2_with
    (go_at_call 99
     refine (bits_at _ _ _ _ _ hn.1 hn.2 (by omega) (by omega) (by omega)).mono ?_
     rintro e w2 ⟨rfl, nk, rfl⟩)
  go_ret2
  refine ⟨ret_2 ?_, ?_⟩
  · exact or_R h1 h2 h3 hop hf3 hf7 HI.out
  · repeat (first | refine below_drewN ?_ _ | refine Below.drew ?_)
    exact HB.out.alloc HB.out.size _
set_option maxHeartbeats 400000 in
theorem word_I {k op f3 f7 : Nat} {rd a b imm : Int} {w : World} (hT : Tab w) (hk : k < 32) (h1 : 0 ≤ rd ∧ rd ≤ 31) (h2 : 0 ≤ a ∧ a ≤ 31) (h3 : 0 ≤ b ∧ b ≤ 31) (hop : op < 128) (hf3 : f3 < 8) (hf7 : f7 < 128)
    (hm : mayB k rd a b imm = true) (hi : formImm 73 rd a b imm) (c0 : w.cell? ⟨0, k * 4, none⟩ = some (.int .u8 73)) (c1 : w.cell? ⟨0, k * 4 + 1, none⟩ = some (.int .u32 op)) (c2 : w.cell? ⟨0, k * 4 + 2, none⟩ = some (.int .u32 f3)) (c3 : w.cell? ⟨0, k * 4 + 3, none⟩ = some (.int .u32 f7)) :
    Calls Tryd.prog 82 #[.agg #[.int .i64 k, .int .i64 rd, .int .i64 a, .int .i64 b, .int .i64 imm]] w fun e w' => e = .returned (.tuple #[.int .u32 (wordF 73 op f3 f7 rd a b imm), .int .i64 0]) ∧ Below w.heap.size w w' := by
  have ba := (Below.refl w.heap.size w).alloc (Nat.le_refl _) (.cells #[.int .i64 k, .int .i64 rd, .int .i64 a, .int .i64 b, .int .i64 imm] 23)
  have hs := hT.size
  have HT := Lib.hid (hT.below ba hT.size)
  have HI := Lib.hid hi
  clear hT hi
  have hn : 0 ≤ imm % 4294967296 ∧ imm % 4294967296 < 4294967296 := by omega
  go_enter Tryd.func82, Tryd.ntmps82
  go_wp2_with
    (go_at_call 57
     refine (may_any _ _ _ _ _ HT.out).mono ?_
     rintro e w1 ⟨rfl, hb1⟩
     have HB := Lib.hid (ba.trans (hb1.mono ba.size))
     have d0 := (HB.out.cell (p := ⟨0, k * 4, none⟩) hs).trans c0
     have d1 := (HB.out.cell (p := ⟨0, k * 4 + 1, none⟩) hs).trans c1
     have d2 := (HB.out.cell (p := ⟨0, k * 4 + 2, none⟩) hs).trans c2
     have d3 := (HB.out.cell (p := ⟨0, k * 4 + 3, none⟩) hs).trans c3
     have hz : 0 < w1.heap.size := by have := HB.out.size; omega
     have hz1 : w.heap.size < w1.heap.size := by have := hb1.size; simp at this; omega
     obtain ⟨hc, hfz⟩ := bcell hb1)
  go_quiet (fail)
  go_wp2_with
    (go_at_call 99
     refine (bits_at _ _ _ _ _ hn.1 hn.2 (by omega) (by omega) (by omega)).mono ?_
     rintro e w2 ⟨rfl, nk, rfl⟩)
  go_ret2
  refine ⟨ret_2 ?_, ?_⟩
  · exact or_I h1 h2 h3 hop hf3 hf7 HI.out
  · repeat (first | refine below_drewN ?_ _ | refine Below.drew ?_)
    exact HB.out.alloc HB.out.size _
set_option maxHeartbeats 400000 in
theorem word_H {k op f3 f7 : Nat} {rd a b imm : Int} {w : World} (hT : Tab w) (hk : k < 32) (h1 : 0 ≤ rd ∧ rd ≤ 31) (h2 : 0 ≤ a ∧ a ≤ 31) (h3 : 0 ≤ b ∧ b ≤ 31) (hop : op < 128) (hf3 : f3 < 8) (hf7 : f7 < 128)
    (hm : mayB k rd a b imm = true) (hi : formImm 72 rd a b imm) (c0 : w.cell? ⟨0, k * 4, none⟩ = some (.int .u8 72)) (c1 : w.cell? ⟨0, k * 4 + 1, none⟩ = some (.int .u32 op)) (c2 : w.cell? ⟨0, k * 4 + 2, none⟩ = some (.int .u32 f3)) (c3 : w.cell? ⟨0, k * 4 + 3, none⟩ = some (.int .u32 f7)) :
    Calls Tryd.prog 82 #[.agg #[.int .i64 k, .int .i64 rd, .int .i64 a, .int .i64 b, .int .i64 imm]] w fun e w' => e = .returned (.tuple #[.int .u32 (wordF 72 op f3 f7 rd a b imm), .int .i64 0]) ∧ Below w.heap.size w w' := by
  have ba := (Below.refl w.heap.size w).alloc (Nat.le_refl _) (.cells #[.int .i64 k, .int .i64 rd, .int .i64 a, .int .i64 b, .int .i64 imm] 23)
  have hs := hT.size
  have HT := Lib.hid (hT.below ba hT.size)
  have HI := Lib.hid hi
  clear hT hi
  have hn : 0 ≤ imm % 4294967296 ∧ imm % 4294967296 < 4294967296 := by omega
  go_enter Tryd.func82, Tryd.ntmps82
  go_wp2_with
    (go_at_call 57
     refine (may_any _ _ _ _ _ HT.out).mono ?_
     rintro e w1 ⟨rfl, hb1⟩
     have HB := Lib.hid (ba.trans (hb1.mono ba.size))
     have d0 := (HB.out.cell (p := ⟨0, k * 4, none⟩) hs).trans c0
     have d1 := (HB.out.cell (p := ⟨0, k * 4 + 1, none⟩) hs).trans c1
     have d2 := (HB.out.cell (p := ⟨0, k * 4 + 2, none⟩) hs).trans c2
     have d3 := (HB.out.cell (p := ⟨0, k * 4 + 3, none⟩) hs).trans c3
     have hz : 0 < w1.heap.size := by have := HB.out.size; omega
     have hz1 : w.heap.size < w1.heap.size := by have := hb1.size; simp at this; omega
     obtain ⟨hc, hfz⟩ := bcell hb1)
  go_quiet (fail)
  go_wp2_with
    (go_at_call 99
     refine (bits_at _ _ _ _ _ hn.1 hn.2 (by omega) (by omega) (by omega)).mono ?_
     rintro e w2 ⟨rfl, nk, rfl⟩)
  go_ret2
  refine ⟨ret_2 ?_, ?_⟩
  · exact or_H h1 h2 h3 hop hf3 hf7 HI.out
  · repeat (first | refine below_drewN ?_ _ | refine Below.drew ?_)
    exact HB.out.alloc HB.out.size _
set_option maxHeartbeats 400000 in
theorem word_S {k op f3 f7 : Nat} {rd a b imm : Int} {w : World} (hT : Tab w) (hk : k < 32) (h1 : 0 ≤ rd ∧ rd ≤ 31) (h2 : 0 ≤ a ∧ a ≤ 31) (h3 : 0 ≤ b ∧ b ≤ 31) (hop : op < 128) (hf3 : f3 < 8) (hf7 : f7 < 128)
    (hm : mayB k rd a b imm = true) (hi : formImm 83 rd a b imm) (c0 : w.cell? ⟨0, k * 4, none⟩ = some (.int .u8 83)) (c1 : w.cell? ⟨0, k * 4 + 1, none⟩ = some (.int .u32 op)) (c2 : w.cell? ⟨0, k * 4 + 2, none⟩ = some (.int .u32 f3)) (c3 : w.cell? ⟨0, k * 4 + 3, none⟩ = some (.int .u32 f7)) :
    Calls Tryd.prog 82 #[.agg #[.int .i64 k, .int .i64 rd, .int .i64 a, .int .i64 b, .int .i64 imm]] w fun e w' => e = .returned (.tuple #[.int .u32 (wordF 83 op f3 f7 rd a b imm), .int .i64 0]) ∧ Below w.heap.size w w' := by
  have ba := (Below.refl w.heap.size w).alloc (Nat.le_refl _) (.cells #[.int .i64 k, .int .i64 rd, .int .i64 a, .int .i64 b, .int .i64 imm] 23)
  have hs := hT.size
  have HT := Lib.hid (hT.below ba hT.size)
  have HI := Lib.hid hi
  clear hT hi
  have hn : 0 ≤ imm % 4294967296 ∧ imm % 4294967296 < 4294967296 := by omega
  go_enter Tryd.func82, Tryd.ntmps82
  go_wp2_with
    (go_at_call 57
     refine (may_any _ _ _ _ _ HT.out).mono ?_
     rintro e w1 ⟨rfl, hb1⟩
     have HB := Lib.hid (ba.trans (hb1.mono ba.size))
     have d0 := (HB.out.cell (p := ⟨0, k * 4, none⟩) hs).trans c0
     have d1 := (HB.out.cell (p := ⟨0, k * 4 + 1, none⟩) hs).trans c1
     have d2 := (HB.out.cell (p := ⟨0, k * 4 + 2, none⟩) hs).trans c2
     have d3 := (HB.out.cell (p := ⟨0, k * 4 + 3, none⟩) hs).trans c3
     have hz : 0 < w1.heap.size := by have := HB.out.size; omega
     have hz1 : w.heap.size < w1.heap.size := by have := hb1.size; simp at this; omega
     obtain ⟨hc, hfz⟩ := bcell hb1)
  go_quiet (fail)
  go_wp2_with
    (go_at_call 99
     refine (bits_at _ _ _ _ _ hn.1 hn.2 (by omega) (by omega) (by omega)).mono ?_
     rintro e w2 ⟨rfl, nk, rfl⟩)
  go_ret2
  refine ⟨ret_2 ?_, ?_⟩
  · exact or_S h1 h2 h3 hop hf3 hf7 HI.out
  · repeat (first | refine below_drewN ?_ _ | refine Below.drew ?_)
    exact HB.out.alloc HB.out.size _
set_option maxHeartbeats 400000 in
theorem word_B {k op f3 f7 : Nat} {rd a b imm : Int} {w : World} (hT : Tab w) (hk : k < 32) (h1 : 0 ≤ rd ∧ rd ≤ 31) (h2 : 0 ≤ a ∧ a ≤ 31) (h3 : 0 ≤ b ∧ b ≤ 31) (hop : op < 128) (hf3 : f3 < 8) (hf7 : f7 < 128)
    (hm : mayB k rd a b imm = true) (hi : formImm 66 rd a b imm) (c0 : w.cell? ⟨0, k * 4, none⟩ = some (.int .u8 66)) (c1 : w.cell? ⟨0, k * 4 + 1, none⟩ = some (.int .u32 op)) (c2 : w.cell? ⟨0, k * 4 + 2, none⟩ = some (.int .u32 f3)) (c3 : w.cell? ⟨0, k * 4 + 3, none⟩ = some (.int .u32 f7)) :
    Calls Tryd.prog 82 #[.agg #[.int .i64 k, .int .i64 rd, .int .i64 a, .int .i64 b, .int .i64 imm]] w fun e w' => e = .returned (.tuple #[.int .u32 (wordF 66 op f3 f7 rd a b imm), .int .i64 0]) ∧ Below w.heap.size w w' := by
  have ba := (Below.refl w.heap.size w).alloc (Nat.le_refl _) (.cells #[.int .i64 k, .int .i64 rd, .int .i64 a, .int .i64 b, .int .i64 imm] 23)
  have hs := hT.size
  have HT := Lib.hid (hT.below ba hT.size)
  have HI := Lib.hid hi
  clear hT hi
  have hn : 0 ≤ imm % 4294967296 ∧ imm % 4294967296 < 4294967296 := by omega
  go_enter Tryd.func82, Tryd.ntmps82
  go_wp2_with
    (go_at_call 57
     refine (may_any _ _ _ _ _ HT.out).mono ?_
     rintro e w1 ⟨rfl, hb1⟩
     have HB := Lib.hid (ba.trans (hb1.mono ba.size))
     have d0 := (HB.out.cell (p := ⟨0, k * 4, none⟩) hs).trans c0
     have d1 := (HB.out.cell (p := ⟨0, k * 4 + 1, none⟩) hs).trans c1
     have d2 := (HB.out.cell (p := ⟨0, k * 4 + 2, none⟩) hs).trans c2
     have d3 := (HB.out.cell (p := ⟨0, k * 4 + 3, none⟩) hs).trans c3
     have hz : 0 < w1.heap.size := by have := HB.out.size; omega
     have hz1 : w.heap.size < w1.heap.size := by have := hb1.size; simp at this; omega
     obtain ⟨hc, hfz⟩ := bcell hb1)
  go_quiet (fail)
  go_wp2_with
    (go_at_call 99
     refine (bits_at _ _ _ _ _ hn.1 hn.2 (by omega) (by omega) (by omega)).mono ?_
     rintro e w2 ⟨rfl, nk, rfl⟩)
  go_ret2
  refine ⟨ret_2 ?_, ?_⟩
  · exact or_B h1 h2 h3 hop hf3 hf7 HI.out
  · repeat (first | refine below_drewN ?_ _ | refine Below.drew ?_)
    exact HB.out.alloc HB.out.size _
set_option maxHeartbeats 400000 in
theorem word_U {k op f3 f7 : Nat} {rd a b imm : Int} {w : World} (hT : Tab w) (hk : k < 32) (h1 : 0 ≤ rd ∧ rd ≤ 31) (h2 : 0 ≤ a ∧ a ≤ 31) (h3 : 0 ≤ b ∧ b ≤ 31) (hop : op < 128) (hf3 : f3 < 8) (hf7 : f7 < 128)
    (hm : mayB k rd a b imm = true) (hi : formImm 85 rd a b imm) (c0 : w.cell? ⟨0, k * 4, none⟩ = some (.int .u8 85)) (c1 : w.cell? ⟨0, k * 4 + 1, none⟩ = some (.int .u32 op)) (c2 : w.cell? ⟨0, k * 4 + 2, none⟩ = some (.int .u32 f3)) (c3 : w.cell? ⟨0, k * 4 + 3, none⟩ = some (.int .u32 f7)) :
    Calls Tryd.prog 82 #[.agg #[.int .i64 k, .int .i64 rd, .int .i64 a, .int .i64 b, .int .i64 imm]] w fun e w' => e = .returned (.tuple #[.int .u32 (wordF 85 op f3 f7 rd a b imm), .int .i64 0]) ∧ Below w.heap.size w w' := by
  have ba := (Below.refl w.heap.size w).alloc (Nat.le_refl _) (.cells #[.int .i64 k, .int .i64 rd, .int .i64 a, .int .i64 b, .int .i64 imm] 23)
  have hs := hT.size
  have HT := Lib.hid (hT.below ba hT.size)
  have HI := Lib.hid hi
  clear hT hi
  have hn : 0 ≤ imm % 4294967296 ∧ imm % 4294967296 < 4294967296 := by omega
  go_enter Tryd.func82, Tryd.ntmps82
  go_wp2_with
    (go_at_call 57
     refine (may_any _ _ _ _ _ HT.out).mono ?_
     rintro e w1 ⟨rfl, hb1⟩
     have HB := Lib.hid (ba.trans (hb1.mono ba.size))
     have d0 := (HB.out.cell (p := ⟨0, k * 4, none⟩) hs).trans c0
     have d1 := (HB.out.cell (p := ⟨0, k * 4 + 1, none⟩) hs).trans c1
     have d2 := (HB.out.cell (p := ⟨0, k * 4 + 2, none⟩) hs).trans c2
     have d3 := (HB.out.cell (p := ⟨0, k * 4 + 3, none⟩) hs).trans c3
     have hz : 0 < w1.heap.size := by have := HB.out.size; omega
     have hz1 : w.heap.size < w1.heap.size := by have := hb1.size; simp at this; omega
     obtain ⟨hc, hfz⟩ := bcell hb1)
  go_quiet (fail)
  go_wp2_with
    (go_at_call 99
     refine (bits_at _ _ _ _ _ hn.1 hn.2 (by omega) (by omega) (by omega)).mono ?_
     rintro e w2 ⟨rfl, nk, rfl⟩)
  go_ret2
  refine ⟨ret_2 ?_, ?_⟩
  · exact or_U h1 h2 h3 hop hf3 hf7 HI.out
  · repeat (first | refine below_drewN ?_ _ | refine Below.drew ?_)
    exact HB.out.alloc HB.out.size _
set_option maxHeartbeats 400000 in
theorem word_J {k op f3 f7 : Nat} {rd a b imm : Int} {w : World} (hT : Tab w) (hk : k < 32) (h1 : 0 ≤ rd ∧ rd ≤ 31) (h2 : 0 ≤ a ∧ a ≤ 31) (h3 : 0 ≤ b ∧ b ≤ 31) (hop : op < 128) (hf3 : f3 < 8) (hf7 : f7 < 128)
    (hm : mayB k rd a b imm = true) (hi : formImm 74 rd a b imm) (c0 : w.cell? ⟨0, k * 4, none⟩ = some (.int .u8 74)) (c1 : w.cell? ⟨0, k * 4 + 1, none⟩ = some (.int .u32 op)) (c2 : w.cell? ⟨0, k * 4 + 2, none⟩ = some (.int .u32 f3)) (c3 : w.cell? ⟨0, k * 4 + 3, none⟩ = some (.int .u32 f7)) :
    Calls Tryd.prog 82 #[.agg #[.int .i64 k, .int .i64 rd, .int .i64 a, .int .i64 b, .int .i64 imm]] w fun e w' => e = .returned (.tuple #[.int .u32 (wordF 74 op f3 f7 rd a b imm), .int .i64 0]) ∧ Below w.heap.size w w' := by
  have ba := (Below.refl w.heap.size w).alloc (Nat.le_refl _) (.cells #[.int .i64 k, .int .i64 rd, .int .i64 a, .int .i64 b, .int .i64 imm] 23)
  have hs := hT.size
  have HT := Lib.hid (hT.below ba hT.size)
  have HI := Lib.hid hi
  clear hT hi
  have hn : 0 ≤ imm % 4294967296 ∧ imm % 4294967296 < 4294967296 := by omega
  go_enter Tryd.func82, Tryd.ntmps82
  go_wp2_with
    (go_at_call 57
     refine (may_any _ _ _ _ _ HT.out).mono ?_
     rintro e w1 ⟨rfl, hb1⟩
     have HB := Lib.hid (ba.trans (hb1.mono ba.size))
     have d0 := (HB.out.cell (p := ⟨0, k * 4, none⟩) hs).trans c0
     have d1 := (HB.out.cell (p := ⟨0, k * 4 + 1, none⟩) hs).trans c1
     have d2 := (HB.out.cell (p := ⟨0, k * 4 + 2, none⟩) hs).trans c2
     have d3 := (HB.out.cell (p := ⟨0, k * 4 + 3, none⟩) hs).trans c3
     have hz : 0 < w1.heap.size := by have := HB.out.size; omega
     have hz1 : w.heap.size < w1.heap.size := by have := hb1.size; simp at this; omega
     obtain ⟨hc, hfz⟩ := bcell hb1)
  go_quiet (fail)
  go_wp2_with
    (go_at_call 99
     refine (bits_at _ _ _ _ _ hn.1 hn.2 (by omega) (by omega) (by omega)).mono ?_
     rintro e w2 ⟨rfl, nk, rfl⟩)
  go_ret2
  refine ⟨ret_2 ?_, ?_⟩
  · exact or_J h1 h2 h3 hop hf3 hf7 HI.out
  · repeat (first | refine below_drewN ?_ _ | refine Below.drew ?_)
    exact HB.out.alloc HB.out.size _
set_option maxHeartbeats 400000 in
theorem word_E {k op f3 f7 : Nat} {rd a b imm : Int} {w : World} (hT : Tab w) (hk : k < 32) (h1 : 0 ≤ rd ∧ rd ≤ 31) (h2 : 0 ≤ a ∧ a ≤ 31) (h3 : 0 ≤ b ∧ b ≤ 31) (hop : op < 128) (hf3 : f3 < 8) (hf7 : f7 < 128)
    (hm : mayB k rd a b imm = true) (hi : formImm 69 rd a b imm) (c0 : w.cell? ⟨0, k * 4, none⟩ = some (.int .u8 69)) (c1 : w.cell? ⟨0, k * 4 + 1, none⟩ = some (.int .u32 op)) (c2 : w.cell? ⟨0, k * 4 + 2, none⟩ = some (.int .u32 f3)) (c3 : w.cell? ⟨0, k * 4 + 3, none⟩ = some (.int .u32 f7)) :
    Calls Tryd.prog 82 #[.agg #[.int .i64 k, .int .i64 rd, .int .i64 a, .int .i64 b, .int .i64 imm]] w fun e w' => e = .returned (.tuple #[.int .u32 (wordF 69 op f3 f7 rd a b imm), .int .i64 0]) ∧ Below w.heap.size w w' := by
  have ba := (Below.refl w.heap.size w).alloc (Nat.le_refl _) (.cells #[.int .i64 k, .int .i64 rd, .int .i64 a, .int .i64 b, .int .i64 imm] 23)
  have hs := hT.size
  have HT := Lib.hid (hT.below ba hT.size)
  have HI := Lib.hid hi
  clear hT hi
  have hn : 0 ≤ imm % 4294967296 ∧ imm % 4294967296 < 4294967296 := by omega
  go_enter Tryd.func82, Tryd.ntmps82
  go_wp2_with
    (go_at_call 57
     refine (may_any _ _ _ _ _ HT.out).mono ?_
     rintro e w1 ⟨rfl, hb1⟩
     have HB := Lib.hid (ba.trans (hb1.mono ba.size))
     have d0 := (HB.out.cell (p := ⟨0, k * 4, none⟩) hs).trans c0
     have d1 := (HB.out.cell (p := ⟨0, k * 4 + 1, none⟩) hs).trans c1
     have d2 := (HB.out.cell (p := ⟨0, k * 4 + 2, none⟩) hs).trans c2
     have d3 := (HB.out.cell (p := ⟨0, k * 4 + 3, none⟩) hs).trans c3
     have hz : 0 < w1.heap.size := by have := HB.out.size; omega
     have hz1 : w.heap.size < w1.heap.size := by have := hb1.size; simp at this; omega
     obtain ⟨hc, hfz⟩ := bcell hb1)
  go_quiet (fail)
  go_wp2_with
    (go_at_call 99
     refine (bits_at _ _ _ _ _ hn.1 hn.2 (by omega) (by omega) (by omega)).mono ?_
     rintro e w2 ⟨rfl, nk, rfl⟩)
  go_ret2
  refine ⟨ret_2 ?_, ?_⟩
  · exact or_E h1 h2 h3 hop hf3 hf7 HI.out
  · repeat (first | refine below_drewN ?_ _ | refine Below.drew ?_)
    exact HB.out.alloc HB.out.size _
/-- an instruction's word -/
def wordI (k rd a b imm : Int) : Int := wordF (formI k) (opL.getD k.toNat 0) (f3L.getD k.toNat 0) (f7L.getD k.toNat 0) rd a b imm
theorem word_good {k rd a b imm : Int} {w : World} (hT : Tab w) (hm : mayB k rd a b imm = true) :
    Calls Tryd.prog 82 #[.agg #[.int .i64 k, .int .i64 rd, .int .i64 a, .int .i64 b, .int .i64 imm]] w fun e w' => e = .returned (.tuple #[.int .u32 (wordI k rd a b imm), .int .i64 0]) ∧ Below w.heap.size w w' := by
  have hp := mayB_out hm
  obtain ⟨h1, h2, h3, h4, h5, h6, h7, h8, hi⟩ := hp
  obtain ⟨k, rfl⟩ := Int.eq_ofNat_of_zero_le (show 0 ≤ k by omega)
  obtain ⟨c0, c1, c2, c3⟩ := hT k (by omega)
  obtain ⟨b1, b2, b3⟩ := tab_bd k (by omega)
  rw [tab_form k (by omega) (by omega)] at c0
  unfold wordI
  rw [Int.toNat_natCast]
  rcases formI_cases k with hf | hf | hf | hf | hf | hf | hf | hf <;> rw [hf] at c0 hi ⊢
  · exact word_R hT (by omega) ⟨h3, h4⟩ ⟨h5, h6⟩ ⟨h7, h8⟩ b1 b2 b3 hm hi c0 c1 c2 c3
  · exact word_I hT (by omega) ⟨h3, h4⟩ ⟨h5, h6⟩ ⟨h7, h8⟩ b1 b2 b3 hm hi c0 c1 c2 c3
  · exact word_H hT (by omega) ⟨h3, h4⟩ ⟨h5, h6⟩ ⟨h7, h8⟩ b1 b2 b3 hm hi c0 c1 c2 c3
  · exact word_S hT (by omega) ⟨h3, h4⟩ ⟨h5, h6⟩ ⟨h7, h8⟩ b1 b2 b3 hm hi c0 c1 c2 c3
  · exact word_B hT (by omega) ⟨h3, h4⟩ ⟨h5, h6⟩ ⟨h7, h8⟩ b1 b2 b3 hm hi c0 c1 c2 c3
  · exact word_U hT (by omega) ⟨h3, h4⟩ ⟨h5, h6⟩ ⟨h7, h8⟩ b1 b2 b3 hm hi c0 c1 c2 c3
  · exact word_J hT (by omega) ⟨h3, h4⟩ ⟨h5, h6⟩ ⟨h7, h8⟩ b1 b2 b3 hm hi c0 c1 c2 c3
  · exact word_E hT (by omega) ⟨h3, h4⟩ ⟨h5, h6⟩ ⟨h7, h8⟩ b1 b2 b3 hm hi c0 c1 c2 c3
/-- enc.Word, for every instruction -/
theorem word_any (k rd a b imm : Int) {w : World} (hT : Tab w) :
    Calls Tryd.prog 82 #[.agg #[.int .i64 k, .int .i64 rd, .int .i64 a, .int .i64 b, .int .i64 imm]] w fun e w' => e = .returned (.tuple #[.int .u32 (if mayB k rd a b imm then wordI k rd a b imm else 0), .int .i64 (if mayB k rd a b imm then 0 else 1)]) ∧ Below w.heap.size w w' := by
  cases hm : mayB k rd a b imm
  · exact word_bad hT hm
  · exact word_good hT hm
end Go.Proofs.YtajhehmkdlebbaaDoor
