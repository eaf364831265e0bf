/- The reference's Word: the same word. -/
import Derived.Test.YtajhehmkdlebbaaDoorRefMay
import Derived.Test.YtajhehmkdlebbaaDoorFixed
import Derived.Deep.QuietTactic
import Derived.BigQuiet
namespace Go.Proofs.YtajhehmkdlebbaaDoor
open Go.ChangeShapes Go.WideShapes Go.ChangeAt Go.RowKit
set_option maxRecDepth 100000
set_option linter.unusedVariables false
theorem fixed_at {k op f3 f7 : Nat} {w : World} (h : 1 ≤ k ∧ k ≤ 31) (eo : opL.getD k 0 = op) (e3 : f3L.getD k 0 = f3) (e7 : f7L.getD k 0 = f7) :
    Calls Tryd.prog 92 #[.int .i64 k] w fun e w' => e = .returned (.int .u32 (op + 4096 * f3 + 33554432 * f7)) ∧ Below w.heap.size w w' := by
  have := fixed_any k w (by omega)
  rw [Int.toNat_natCast, eo, e3, e7] at this
  exact this
theorem quiet_add_left {P : Program} {f : FuncId} {args : Array Value} {w : World} {a n : Nat} {v : Value}
    (h : Calls P f args (w.drewN (a + n)) fun e w' => e = .returned v ∧ w.drewN (a + n) = w') :
    Calls P f args (w.drewN (a + n)) fun e w'' => e = .returned v ∧ ∃ m, w'' = w.drewN (a + m) :=
  h.mono fun _ _ ⟨he, hm⟩ => ⟨he, n, hm.symm⟩
theorem quiet_left {P : Program} {f : FuncId} {args : Array Value} {w : World} {n : Nat} {v : Value}
    (h : Calls P f args (w.drewN n) fun e w' => e = .returned v ∧ w.drewN n = w') : Calls P f args (w.drewN n) fun e w'' => e = .returned v ∧ ∃ m, w'' = w.drewN m :=
  h.mono fun _ _ ⟨he, hm⟩ => ⟨he, n, hm.symm⟩
theorem req_R {op f3 f7 : Nat} {rd a b imm : Int} : (op : Int) + 4096 * f3 + 33554432 * f7 + rd * 128 + a * 32768 + b * 1048576 = wordF 82 op f3 f7 rd a b imm := by
  simp only [wordF, if_true]; omega
theorem req_I {op f3 : Nat} {rd a b imm : Int} : (op : Int) + 4096 * f3 + rd * 128 + a * 32768 + imm % 4096 * 1048576 = wordF 73 op f3 0 rd a b imm := by
  have e : wordF 73 op f3 0 rd a b imm = op + rd * 128 + f3 * 4096 + a * 32768 + imm % 4096 * 1048576 := rfl
  rw [e]; generalize imm % 4096 = x; omega
theorem req_H {op f3 : Nat} {rd a b imm : Int} : (op : Int) + 4096 * f3 + rd * 128 + a * 32768 + imm % 4096 * 1048576 = wordF 72 op f3 0 rd a b imm := by
  have e : wordF 72 op f3 0 rd a b imm = op + rd * 128 + f3 * 4096 + a * 32768 + imm % 4096 * 1048576 := rfl
  rw [e]; generalize imm % 4096 = x; omega
theorem req_S {op f3 : Nat} {rd a b imm : Int} : (op : Int) + 4096 * f3 + a * 32768 + b * 1048576 + imm % 32 * 128 + imm % 4294967296 / 32 % 128 * 33554432 = wordF 83 op f3 0 rd a b imm := by
  have e : wordF 83 op f3 0 rd a b imm = op + imm % 32 * 128 + f3 * 4096 + a * 32768 + b * 1048576 + imm / 32 % 128 * 33554432 := rfl
  have q : imm % 4294967296 / 32 % 128 = imm / 32 % 128 := by omega
  rw [e, q]; generalize imm % 32 = x; generalize imm / 32 % 128 = y; omega
theorem req_B {op f3 : Nat} {rd a b imm : Int} : (op : Int) + 4096 * f3 + a * 32768 + b * 1048576 + imm % 4294967296 / 2048 % 2 * 128 + imm % 4294967296 / 2 % 16 * 256 + imm % 4294967296 / 32 % 64 * 33554432 + imm % 4294967296 / 4096 % 2 * 2147483648 = wordF 66 op f3 0 rd a b imm := by
  have e : wordF 66 op f3 0 rd a b imm = op + imm / 2048 % 2 * 128 + imm / 2 % 16 * 256 + f3 * 4096 + a * 32768 + b * 1048576 + imm / 32 % 64 * 33554432 + imm / 4096 % 2 * 2147483648 := rfl
  have q1 : imm % 4294967296 / 2048 % 2 = imm / 2048 % 2 := by omega
  have q2 : imm % 4294967296 / 2 % 16 = imm / 2 % 16 := by omega
  have q3 : imm % 4294967296 / 32 % 64 = imm / 32 % 64 := by omega
  have q4 : imm % 4294967296 / 4096 % 2 = imm / 4096 % 2 := by omega
  rw [e, q1, q2, q3, q4]
  generalize imm / 2048 % 2 = x; generalize imm / 2 % 16 = y; generalize imm / 32 % 64 = z; generalize imm / 4096 % 2 = u; omega
theorem req_U {op : Nat} {rd a b imm : Int} : (op : Int) + rd * 128 + imm % 4294967296 / 4096 % 1048576 * 4096 = wordF 85 op 0 0 rd a b imm := by
  have e : wordF 85 op 0 0 rd a b imm = op + rd * 128 + imm / 4096 % 1048576 * 4096 := rfl
  have q : imm % 4294967296 / 4096 % 1048576 = imm / 4096 % 1048576 := by omega
  rw [e, q]
theorem req_J {op : Nat} {rd a b imm : Int} : (op : Int) + rd * 128 + imm % 4294967296 / 4096 % 256 * 4096 + imm % 4294967296 / 2048 % 2 * 1048576 + imm % 4294967296 / 2 % 1024 * 2097152 + imm % 4294967296 / 1048576 % 2 * 2147483648 = wordF 74 op 0 0 rd a b imm := by
  have e : wordF 74 op 0 0 rd a b imm = op + rd * 128 + imm / 4096 % 256 * 4096 + imm / 2048 % 2 * 1048576 + imm / 2 % 1024 * 2097152 + imm / 1048576 % 2 * 2147483648 := rfl
  have q1 : imm % 4294967296 / 4096 % 256 = imm / 4096 % 256 := by omega
  have q2 : imm % 4294967296 / 2048 % 2 = imm / 2048 % 2 := by omega
  have q3 : imm % 4294967296 / 2 % 1024 = imm / 2 % 1024 := by omega
  have q4 : imm % 4294967296 / 1048576 % 2 = imm / 1048576 % 2 := by omega
  rw [e, q1, q2, q3, q4]
theorem req_E {op : Nat} {rd a b imm : Int} : (op : Int) = wordF 69 op 0 0 rd a b imm := rfl
set_option maxHeartbeats 1000000 in
theorem rword_R {k op f3 : Nat} {f7 : Nat} {rd a b imm : Int} {w : World} (hk : 1 ≤ k ∧ k < 32) (h1 : 0 ≤ rd ∧ rd ≤ 31) (h2 : 0 ≤ a ∧ a ≤ 31) (h3 : 0 ≤ b ∧ b ≤ 31) (hop : op < 128) (hf3 : f3 < 8) (hf7 : f7 < 128)
    (hm : mayB k rd a b imm = true) (hi : formImm 82 rd a b imm) (hf : formI k = 82) (eo : opL.getD k 0 = op) (e3 : f3L.getD k 0 = f3) (e7 : f7L.getD k 0 = f7) :
    Calls Tryd.prog 69 #[.agg #[.int .i64 k, .int .i64 rd, .int .i64 a, .int .i64 b, .int .i64 imm]] w fun e w' => e = .returned (.tuple #[.int .u32 (wordF 82 op f3 f7 rd a b imm), .int .i64 0]) ∧ Below w.heap.size w w' := by
  have HA := Lib.hid ((Below.refl w.heap.size w).alloc (Nat.le_refl _) (.cells #[.int .i64 k, .int .i64 rd, .int .i64 a, .int .i64 b, .int .i64 imm] 23))
  have HI := Lib.hid hi
  have HF := Lib.hid hf
  have HM := Lib.hid hm
  have EO := Lib.hid eo
  have E3 := Lib.hid e3
  have E7 := Lib.hid e7
  clear hi hf hm eo e3 e7
  have hn : 0 ≤ imm % 4294967296 ∧ imm % 4294967296 < 4294967296 := by omega
  go_enter Tryd.func69, Tryd.ntmps69
  go_wp2_with fail
  refine (rmay_any _ _ _ _ _ _).mono ?_
  rintro e w1 ⟨rfl, hb1⟩
  rw [HM.out]
  have H1 := Lib.hid (HA.out.trans (hb1.mono HA.out.size))
  have z1 : w.heap.size < w1.heap.size := by have := hb1.size; simp at this; omega
  obtain ⟨c1, g1⟩ := bcell hb1
  go_wp2_with fail
  refine (form_any _ _ (by omega)).mono ?_
  rintro e w2 ⟨rfl, rfl⟩
  rw [HF.out]
  go_wp2_with fail
  refine (fixed_at (by omega) EO.out E3.out E7.out).mono ?_
  rintro e w2 ⟨rfl, hb2⟩
  have H2 := Lib.hid (H1.out.trans (hb2.mono H1.out.size))
  have z2 : w.heap.size < w2.heap.size := by have := hb2.size; omega
  obtain ⟨c2, g2⟩ := bcell hb2
  go_wp2_with fail
  go_quiet ((go_at_call 90; first | exact quiet_left (power_any _ _ (by omega)) | exact quiet_add_left (power_any _ _ (by omega))))
  go_wp2_with fail
  go_quiet ((go_at_call 90; first | exact quiet_left (power_any _ _ (by omega)) | exact quiet_add_left (power_any _ _ (by omega))))
  go_wp2_with fail
  go_quiet ((go_at_call 90; first | exact quiet_left (power_any _ _ (by omega)) | exact quiet_add_left (power_any _ _ (by omega))))
  go_wp2_with (first
    | (go_at_call 67; refine (part_any _ _ _ _ hn (by omega) (by omega)).mono ?_; rintro e w3 ⟨rfl, nk, rfl⟩)
    | (go_at_call 90; refine (power_any _ _ (by omega)).mono ?_; rintro e w3 ⟨rfl, rfl⟩))
  go_ret2
  refine ⟨ret_2 ?_, ?_⟩
  · exact req_R
  · repeat (first | (with_reducible refine below_drewN ?_ _) | (with_reducible exact H2.out))
set_option maxHeartbeats 1000000 in
theorem rword_I {k op f3 : Nat} {f7 : Nat} {rd a b imm : Int} {w : World} (hk : 1 ≤ k ∧ k < 32) (h1 : 0 ≤ rd ∧ rd ≤ 31) (h2 : 0 ≤ a ∧ a ≤ 31) (h3 : 0 ≤ b ∧ b ≤ 31) (hop : op < 128) (hf3 : f3 < 8) (hf7 : f7 < 128)
    (hm : mayB k rd a b imm = true) (hi : formImm 73 rd a b imm) (hf : formI k = 73) (eo : opL.getD k 0 = op) (e3 : f3L.getD k 0 = f3) (e7 : f7L.getD k 0 = f7) (z7 : f7 = 0) :
    Calls Tryd.prog 69 #[.agg #[.int .i64 k, .int .i64 rd, .int .i64 a, .int .i64 b, .int .i64 imm]] w fun e w' => e = .returned (.tuple #[.int .u32 (wordF 73 op f3 f7 rd a b imm), .int .i64 0]) ∧ Below w.heap.size w w' := by
  have HA := Lib.hid ((Below.refl w.heap.size w).alloc (Nat.le_refl _) (.cells #[.int .i64 k, .int .i64 rd, .int .i64 a, .int .i64 b, .int .i64 imm] 23))
  have HI := Lib.hid hi
  have HF := Lib.hid hf
  have HM := Lib.hid hm
  have EO := Lib.hid eo
  have E3 := Lib.hid e3
  have E7 := Lib.hid e7
  clear hi hf hm eo e3 e7
  subst z7
  have hn : 0 ≤ imm % 4294967296 ∧ imm % 4294967296 < 4294967296 := by omega
  go_enter Tryd.func69, Tryd.ntmps69
  go_wp2_with fail
  refine (rmay_any _ _ _ _ _ _).mono ?_
  rintro e w1 ⟨rfl, hb1⟩
  rw [HM.out]
  have H1 := Lib.hid (HA.out.trans (hb1.mono HA.out.size))
  have z1 : w.heap.size < w1.heap.size := by have := hb1.size; simp at this; omega
  obtain ⟨c1, g1⟩ := bcell hb1
  go_wp2_with fail
  refine (form_any _ _ (by omega)).mono ?_
  rintro e w2 ⟨rfl, rfl⟩
  rw [HF.out]
  go_wp2_with fail
  refine (fixed_at (by omega) EO.out E3.out E7.out).mono ?_
  rintro e w2 ⟨rfl, hb2⟩
  have H2 := Lib.hid (H1.out.trans (hb2.mono H1.out.size))
  have z2 : w.heap.size < w2.heap.size := by have := hb2.size; omega
  obtain ⟨c2, g2⟩ := bcell hb2
  go_wp2_with fail
  go_quiet ((go_at_call 90; first | exact quiet_left (power_any _ _ (by omega)) | exact quiet_add_left (power_any _ _ (by omega))))
  go_wp2_with fail
  go_quiet ((go_at_call 90; first | exact quiet_left (power_any _ _ (by omega)) | exact quiet_add_left (power_any _ _ (by omega))))
  go_wp2_with (first
    | (go_at_call 67; refine (part_any _ _ _ _ hn (by omega) (by omega)).mono ?_; rintro e w3 ⟨rfl, nk, rfl⟩)
    | (go_at_call 90; refine (power_any _ _ (by omega)).mono ?_; rintro e w3 ⟨rfl, rfl⟩))
  go_ret2
  refine ⟨ret_2 ?_, ?_⟩
  · exact req_I
  · repeat (first | (with_reducible refine below_drewN ?_ _) | (with_reducible exact H2.out))
set_option maxHeartbeats 1000000 in
theorem rword_H {k op f3 : Nat} {f7 : Nat} {rd a b imm : Int} {w : World} (hk : 1 ≤ k ∧ k < 32) (h1 : 0 ≤ rd ∧ rd ≤ 31) (h2 : 0 ≤ a ∧ a ≤ 31) (h3 : 0 ≤ b ∧ b ≤ 31) (hop : op < 128) (hf3 : f3 < 8) (hf7 : f7 < 128)
    (hm : mayB k rd a b imm = true) (hi : formImm 72 rd a b imm) (hf : formI k = 72) (eo : opL.getD k 0 = op) (e3 : f3L.getD k 0 = f3) (e7 : f7L.getD k 0 = f7) (z7 : f7 = 0) :
    Calls Tryd.prog 69 #[.agg #[.int .i64 k, .int .i64 rd, .int .i64 a, .int .i64 b, .int .i64 imm]] w fun e w' => e = .returned (.tuple #[.int .u32 (wordF 72 op f3 f7 rd a b imm), .int .i64 0]) ∧ Below w.heap.size w w' := by
  have HA := Lib.hid ((Below.refl w.heap.size w).alloc (Nat.le_refl _) (.cells #[.int .i64 k, .int .i64 rd, .int .i64 a, .int .i64 b, .int .i64 imm] 23))
  have HI := Lib.hid hi
  have HF := Lib.hid hf
  have HM := Lib.hid hm
  have EO := Lib.hid eo
  have E3 := Lib.hid e3
  have E7 := Lib.hid e7
  clear hi hf hm eo e3 e7
  subst z7
  have hn : 0 ≤ imm % 4294967296 ∧ imm % 4294967296 < 4294967296 := by omega
  go_enter Tryd.func69, Tryd.ntmps69
  go_wp2_with fail
  refine (rmay_any _ _ _ _ _ _).mono ?_
  rintro e w1 ⟨rfl, hb1⟩
  rw [HM.out]
  have H1 := Lib.hid (HA.out.trans (hb1.mono HA.out.size))
  have z1 : w.heap.size < w1.heap.size := by have := hb1.size; simp at this; omega
  obtain ⟨c1, g1⟩ := bcell hb1
  go_wp2_with fail
  refine (form_any _ _ (by omega)).mono ?_
  rintro e w2 ⟨rfl, rfl⟩
  rw [HF.out]
  go_wp2_with fail
  refine (fixed_at (by omega) EO.out E3.out E7.out).mono ?_
  rintro e w2 ⟨rfl, hb2⟩
  have H2 := Lib.hid (H1.out.trans (hb2.mono H1.out.size))
  have z2 : w.heap.size < w2.heap.size := by have := hb2.size; omega
  obtain ⟨c2, g2⟩ := bcell hb2
  go_wp2_with fail
  go_quiet ((go_at_call 90; first | exact quiet_left (power_any _ _ (by omega)) | exact quiet_add_left (power_any _ _ (by omega))))
  go_wp2_with fail
  go_quiet ((go_at_call 90; first | exact quiet_left (power_any _ _ (by omega)) | exact quiet_add_left (power_any _ _ (by omega))))
  go_wp2_with (first
    | (go_at_call 67; refine (part_any _ _ _ _ hn (by omega) (by omega)).mono ?_; rintro e w3 ⟨rfl, nk, rfl⟩)
    | (go_at_call 90; refine (power_any _ _ (by omega)).mono ?_; rintro e w3 ⟨rfl, rfl⟩))
  go_ret2
  refine ⟨ret_2 ?_, ?_⟩
  · exact req_H
  · repeat (first | (with_reducible refine below_drewN ?_ _) | (with_reducible exact H2.out))
set_option maxHeartbeats 1000000 in
theorem rword_S {k op f3 : Nat} {f7 : Nat} {rd a b imm : Int} {w : World} (hk : 1 ≤ k ∧ k < 32) (h1 : 0 ≤ rd ∧ rd ≤ 31) (h2 : 0 ≤ a ∧ a ≤ 31) (h3 : 0 ≤ b ∧ b ≤ 31) (hop : op < 128) (hf3 : f3 < 8) (hf7 : f7 < 128)
    (hm : mayB k rd a b imm = true) (hi : formImm 83 rd a b imm) (hf : formI k = 83) (eo : opL.getD k 0 = op) (e3 : f3L.getD k 0 = f3) (e7 : f7L.getD k 0 = f7) (z7 : f7 = 0) :
    Calls Tryd.prog 69 #[.agg #[.int .i64 k, .int .i64 rd, .int .i64 a, .int .i64 b, .int .i64 imm]] w fun e w' => e = .returned (.tuple #[.int .u32 (wordF 83 op f3 f7 rd a b imm), .int .i64 0]) ∧ Below w.heap.size w w' := by
  have HA := Lib.hid ((Below.refl w.heap.size w).alloc (Nat.le_refl _) (.cells #[.int .i64 k, .int .i64 rd, .int .i64 a, .int .i64 b, .int .i64 imm] 23))
  have HI := Lib.hid hi
  have HF := Lib.hid hf
  have HM := Lib.hid hm
  have EO := Lib.hid eo
  have E3 := Lib.hid e3
  have E7 := Lib.hid e7
  clear hi hf hm eo e3 e7
  subst z7
  have hn : 0 ≤ imm % 4294967296 ∧ imm % 4294967296 < 4294967296 := by omega
  go_enter Tryd.func69, Tryd.ntmps69
  go_wp2_with fail
  refine (rmay_any _ _ _ _ _ _).mono ?_
  rintro e w1 ⟨rfl, hb1⟩
  rw [HM.out]
  have H1 := Lib.hid (HA.out.trans (hb1.mono HA.out.size))
  have z1 : w.heap.size < w1.heap.size := by have := hb1.size; simp at this; omega
  obtain ⟨c1, g1⟩ := bcell hb1
  go_wp2_with fail
  refine (form_any _ _ (by omega)).mono ?_
  rintro e w2 ⟨rfl, rfl⟩
  rw [HF.out]
  go_wp2_with fail
  refine (fixed_at (by omega) EO.out E3.out E7.out).mono ?_
  rintro e w2 ⟨rfl, hb2⟩
  have H2 := Lib.hid (H1.out.trans (hb2.mono H1.out.size))
  have z2 : w.heap.size < w2.heap.size := by have := hb2.size; omega
  obtain ⟨c2, g2⟩ := bcell hb2
  go_wp2_with fail
  go_quiet ((go_at_call 90; first | exact quiet_left (power_any _ _ (by omega)) | exact quiet_add_left (power_any _ _ (by omega))))
  go_wp2_with fail
  go_quiet ((go_at_call 90; first | exact quiet_left (power_any _ _ (by omega)) | exact quiet_add_left (power_any _ _ (by omega))))
  go_wp2_with (first
    | (go_at_call 67; refine (part_any _ _ _ _ hn (by omega) (by omega)).mono ?_; rintro e w3 ⟨rfl, nk, rfl⟩)
    | (go_at_call 90; refine (power_any _ _ (by omega)).mono ?_; rintro e w3 ⟨rfl, rfl⟩))
  go_ret2
  refine ⟨ret_2 ?_, ?_⟩
  · exact req_S
  · repeat (first | (with_reducible refine below_drewN ?_ _) | (with_reducible exact H2.out))
set_option maxHeartbeats 1000000 in
theorem rword_B {k op f3 : Nat} {f7 : Nat} {rd a b imm : Int} {w : World} (hk : 1 ≤ k ∧ k < 32) (h1 : 0 ≤ rd ∧ rd ≤ 31) (h2 : 0 ≤ a ∧ a ≤ 31) (h3 : 0 ≤ b ∧ b ≤ 31) (hop : op < 128) (hf3 : f3 < 8) (hf7 : f7 < 128)
    (hm : mayB k rd a b imm = true) (hi : formImm 66 rd a b imm) (hf : formI k = 66) (eo : opL.getD k 0 = op) (e3 : f3L.getD k 0 = f3) (e7 : f7L.getD k 0 = f7) (z7 : f7 = 0) :
    Calls Tryd.prog 69 #[.agg #[.int .i64 k, .int .i64 rd, .int .i64 a, .int .i64 b, .int .i64 imm]] w fun e w' => e = .returned (.tuple #[.int .u32 (wordF 66 op f3 f7 rd a b imm), .int .i64 0]) ∧ Below w.heap.size w w' := by
  have HA := Lib.hid ((Below.refl w.heap.size w).alloc (Nat.le_refl _) (.cells #[.int .i64 k, .int .i64 rd, .int .i64 a, .int .i64 b, .int .i64 imm] 23))
  have HI := Lib.hid hi
  have HF := Lib.hid hf
  have HM := Lib.hid hm
  have EO := Lib.hid eo
  have E3 := Lib.hid e3
  have E7 := Lib.hid e7
  clear hi hf hm eo e3 e7
  subst z7
  have hn : 0 ≤ imm % 4294967296 ∧ imm % 4294967296 < 4294967296 := by omega
  go_enter Tryd.func69, Tryd.ntmps69
  go_wp2_with fail
  refine (rmay_any _ _ _ _ _ _).mono ?_
  rintro e w1 ⟨rfl, hb1⟩
  rw [HM.out]
  have H1 := Lib.hid (HA.out.trans (hb1.mono HA.out.size))
  have z1 : w.heap.size < w1.heap.size := by have := hb1.size; simp at this; omega
  obtain ⟨c1, g1⟩ := bcell hb1
  go_wp2_with fail
  refine (form_any _ _ (by omega)).mono ?_
  rintro e w2 ⟨rfl, rfl⟩
  rw [HF.out]
  go_wp2_with fail
  refine (fixed_at (by omega) EO.out E3.out E7.out).mono ?_
  rintro e w2 ⟨rfl, hb2⟩
  have H2 := Lib.hid (H1.out.trans (hb2.mono H1.out.size))
  have z2 : w.heap.size < w2.heap.size := by have := hb2.size; omega
  obtain ⟨c2, g2⟩ := bcell hb2
  go_wp2_with fail
  go_quiet ((go_at_call 90; first | exact quiet_left (power_any _ _ (by omega)) | exact quiet_add_left (power_any _ _ (by omega))))
  go_wp2_with fail
  go_quiet ((go_at_call 90; first | exact quiet_left (power_any _ _ (by omega)) | exact quiet_add_left (power_any _ _ (by omega))))
  go_wp2_with (first
    | (go_at_call 67; refine (part_any _ _ _ _ hn (by omega) (by omega)).mono ?_; rintro e w3 ⟨rfl, nk, rfl⟩)
    | (go_at_call 90; refine (power_any _ _ (by omega)).mono ?_; rintro e w3 ⟨rfl, rfl⟩))
  go_ret2
  refine ⟨ret_2 ?_, ?_⟩
  · exact req_B
  · repeat (first | (with_reducible refine below_drewN ?_ _) | (with_reducible exact H2.out))
set_option maxHeartbeats 1000000 in
theorem rword_U {k op f3 : Nat} {f7 : Nat} {rd a b imm : Int} {w : World} (hk : 1 ≤ k ∧ k < 32) (h1 : 0 ≤ rd ∧ rd ≤ 31) (h2 : 0 ≤ a ∧ a ≤ 31) (h3 : 0 ≤ b ∧ b ≤ 31) (hop : op < 128) (hf3 : f3 < 8) (hf7 : f7 < 128)
    (hm : mayB k rd a b imm = true) (hi : formImm 85 rd a b imm) (hf : formI k = 85) (eo : opL.getD k 0 = op) (e3 : f3L.getD k 0 = f3) (e7 : f7L.getD k 0 = f7) (z7 : f7 = 0) (z3 : f3 = 0) :
    Calls Tryd.prog 69 #[.agg #[.int .i64 k, .int .i64 rd, .int .i64 a, .int .i64 b, .int .i64 imm]] w fun e w' => e = .returned (.tuple #[.int .u32 (wordF 85 op f3 f7 rd a b imm), .int .i64 0]) ∧ Below w.heap.size w w' := by
  have HA := Lib.hid ((Below.refl w.heap.size w).alloc (Nat.le_refl _) (.cells #[.int .i64 k, .int .i64 rd, .int .i64 a, .int .i64 b, .int .i64 imm] 23))
  have HI := Lib.hid hi
  have HF := Lib.hid hf
  have HM := Lib.hid hm
  have EO := Lib.hid eo
  have E3 := Lib.hid e3
  have E7 := Lib.hid e7
  clear hi hf hm eo e3 e7
  subst z7
  subst z3
  have hn : 0 ≤ imm % 4294967296 ∧ imm % 4294967296 < 4294967296 := by omega
  go_enter Tryd.func69, Tryd.ntmps69
  go_wp2_with fail
  refine (rmay_any _ _ _ _ _ _).mono ?_
  rintro e w1 ⟨rfl, hb1⟩
  rw [HM.out]
  have H1 := Lib.hid (HA.out.trans (hb1.mono HA.out.size))
  have z1 : w.heap.size < w1.heap.size := by have := hb1.size; simp at this; omega
  obtain ⟨c1, g1⟩ := bcell hb1
  go_wp2_with fail
  refine (form_any _ _ (by omega)).mono ?_
  rintro e w2 ⟨rfl, rfl⟩
  rw [HF.out]
  go_wp2_with fail
  refine (fixed_at (by omega) EO.out E3.out E7.out).mono ?_
  rintro e w2 ⟨rfl, hb2⟩
  have H2 := Lib.hid (H1.out.trans (hb2.mono H1.out.size))
  have z2 : w.heap.size < w2.heap.size := by have := hb2.size; omega
  obtain ⟨c2, g2⟩ := bcell hb2
  go_wp2_with fail
  go_quiet ((go_at_call 90; first | exact quiet_left (power_any _ _ (by omega)) | exact quiet_add_left (power_any _ _ (by omega))))
  go_wp2_with (first
    | (go_at_call 67; refine (part_any _ _ _ _ hn (by omega) (by omega)).mono ?_; rintro e w3 ⟨rfl, nk, rfl⟩)
    | (go_at_call 90; refine (power_any _ _ (by omega)).mono ?_; rintro e w3 ⟨rfl, rfl⟩))
  go_ret2
  refine ⟨ret_2 ?_, ?_⟩
  · exact req_U
  · repeat (first | (with_reducible refine below_drewN ?_ _) | (with_reducible exact H2.out))
set_option maxHeartbeats 1000000 in
theorem rword_J {k op f3 : Nat} {f7 : Nat} {rd a b imm : Int} {w : World} (hk : 1 ≤ k ∧ k < 32) (h1 : 0 ≤ rd ∧ rd ≤ 31) (h2 : 0 ≤ a ∧ a ≤ 31) (h3 : 0 ≤ b ∧ b ≤ 31) (hop : op < 128) (hf3 : f3 < 8) (hf7 : f7 < 128)
    (hm : mayB k rd a b imm = true) (hi : formImm 74 rd a b imm) (hf : formI k = 74) (eo : opL.getD k 0 = op) (e3 : f3L.getD k 0 = f3) (e7 : f7L.getD k 0 = f7) (z7 : f7 = 0) (z3 : f3 = 0) :
    Calls Tryd.prog 69 #[.agg #[.int .i64 k, .int .i64 rd, .int .i64 a, .int .i64 b, .int .i64 imm]] w fun e w' => e = .returned (.tuple #[.int .u32 (wordF 74 op f3 f7 rd a b imm), .int .i64 0]) ∧ Below w.heap.size w w' := by
  have HA := Lib.hid ((Below.refl w.heap.size w).alloc (Nat.le_refl _) (.cells #[.int .i64 k, .int .i64 rd, .int .i64 a, .int .i64 b, .int .i64 imm] 23))
  have HI := Lib.hid hi
  have HF := Lib.hid hf
  have HM := Lib.hid hm
  have EO := Lib.hid eo
  have E3 := Lib.hid e3
  have E7 := Lib.hid e7
  clear hi hf hm eo e3 e7
  subst z7
  subst z3
  have hn : 0 ≤ imm % 4294967296 ∧ imm % 4294967296 < 4294967296 := by omega
  go_enter Tryd.func69, Tryd.ntmps69
  go_wp2_with fail
  refine (rmay_any _ _ _ _ _ _).mono ?_
  rintro e w1 ⟨rfl, hb1⟩
  rw [HM.out]
  have H1 := Lib.hid (HA.out.trans (hb1.mono HA.out.size))
  have z1 : w.heap.size < w1.heap.size := by have := hb1.size; simp at this; omega
  obtain ⟨c1, g1⟩ := bcell hb1
  go_wp2_with fail
  refine (form_any _ _ (by omega)).mono ?_
  rintro e w2 ⟨rfl, rfl⟩
  rw [HF.out]
  go_wp2_with fail
  refine (fixed_at (by omega) EO.out E3.out E7.out).mono ?_
  rintro e w2 ⟨rfl, hb2⟩
  have H2 := Lib.hid (H1.out.trans (hb2.mono H1.out.size))
  have z2 : w.heap.size < w2.heap.size := by have := hb2.size; omega
  obtain ⟨c2, g2⟩ := bcell hb2
  go_wp2_with fail
  go_quiet ((go_at_call 90; first | exact quiet_left (power_any _ _ (by omega)) | exact quiet_add_left (power_any _ _ (by omega))))
  go_wp2_with (first
    | (go_at_call 67; refine (part_any _ _ _ _ hn (by omega) (by omega)).mono ?_; rintro e w3 ⟨rfl, nk, rfl⟩)
    | (go_at_call 90; refine (power_any _ _ (by omega)).mono ?_; rintro e w3 ⟨rfl, rfl⟩))
  go_ret2
  refine ⟨ret_2 ?_, ?_⟩
  · exact req_J
  · repeat (first | (with_reducible refine below_drewN ?_ _) | (with_reducible exact H2.out))
set_option maxHeartbeats 1000000 in
theorem rword_E {k op f3 : Nat} {f7 : Nat} {rd a b imm : Int} {w : World} (hk : 1 ≤ k ∧ k < 32) (h1 : 0 ≤ rd ∧ rd ≤ 31) (h2 : 0 ≤ a ∧ a ≤ 31) (h3 : 0 ≤ b ∧ b ≤ 31) (hop : op < 128) (hf3 : f3 < 8) (hf7 : f7 < 128)
    (hm : mayB k rd a b imm = true) (hi : formImm 69 rd a b imm) (hf : formI k = 69) (eo : opL.getD k 0 = op) (e3 : f3L.getD k 0 = f3) (e7 : f7L.getD k 0 = f7) (z7 : f7 = 0) (z3 : f3 = 0) :
    Calls Tryd.prog 69 #[.agg #[.int .i64 k, .int .i64 rd, .int .i64 a, .int .i64 b, .int .i64 imm]] w fun e w' => e = .returned (.tuple #[.int .u32 (wordF 69 op f3 f7 rd a b imm), .int .i64 0]) ∧ Below w.heap.size w w' := by
  have HA := Lib.hid ((Below.refl w.heap.size w).alloc (Nat.le_refl _) (.cells #[.int .i64 k, .int .i64 rd, .int .i64 a, .int .i64 b, .int .i64 imm] 23))
  have HI := Lib.hid hi
  have HF := Lib.hid hf
  have HM := Lib.hid hm
  have EO := Lib.hid eo
  have E3 := Lib.hid e3
  have E7 := Lib.hid e7
  clear hi hf hm eo e3 e7
  subst z7
  subst z3
  have hn : 0 ≤ imm % 4294967296 ∧ imm % 4294967296 < 4294967296 := by omega
  go_enter Tryd.func69, Tryd.ntmps69
  go_wp2_with fail
  refine (rmay_any _ _ _ _ _ _).mono ?_
  rintro e w1 ⟨rfl, hb1⟩
  rw [HM.out]
  have H1 := Lib.hid (HA.out.trans (hb1.mono HA.out.size))
  have z1 : w.heap.size < w1.heap.size := by have := hb1.size; simp at this; omega
  obtain ⟨c1, g1⟩ := bcell hb1
  go_wp2_with fail
  refine (form_any _ _ (by omega)).mono ?_
  rintro e w2 ⟨rfl, rfl⟩
  rw [HF.out]
  go_wp2_with fail
  refine (fixed_at (by omega) EO.out E3.out E7.out).mono ?_
  rintro e w2 ⟨rfl, hb2⟩
  have H2 := Lib.hid (H1.out.trans (hb2.mono H1.out.size))
  have z2 : w.heap.size < w2.heap.size := by have := hb2.size; omega
  obtain ⟨c2, g2⟩ := bcell hb2
  go_wp2_with (first
    | (go_at_call 67; refine (part_any _ _ _ _ hn (by omega) (by omega)).mono ?_; rintro e w3 ⟨rfl, nk, rfl⟩)
    | (go_at_call 90; refine (power_any _ _ (by omega)).mono ?_; rintro e w3 ⟨rfl, rfl⟩))
  go_ret2
  refine ⟨ret_2 ?_, ?_⟩
  · exact req_E
  · repeat (first | (with_reducible refine below_drewN ?_ _) | (with_reducible exact H2.out))
theorem tab_z7 : ∀ k : Nat, k < 32 → formI k = 82 ∨ f7L.getD k 0 = 0 := by decide
theorem tab_z3 : ∀ k : Nat, k < 32 → (formI k = 85 ∨ formI k = 74 ∨ formI k = 69) → f3L.getD k 0 = 0 := by decide
theorem rword_bad {k rd a b imm : Int} {w : World} (hm : mayB k rd a b imm = false) :
    Calls Tryd.prog 69 #[.agg #[.int .i64 k, .int .i64 rd, .int .i64 a, .int .i64 b, .int .i64 imm]] w fun e w' => e = .returned (.tuple #[.int .u32 0, .int .i64 1]) ∧ Below w.heap.size w w' := by
  have HA := Lib.hid ((Below.refl w.heap.size w).alloc (Nat.le_refl _) (.cells #[.int .i64 k, .int .i64 rd, .int .i64 a, .int .i64 b, .int .i64 imm] 23))
  have HM := Lib.hid hm
  clear hm
  go_enter Tryd.func69, Tryd.ntmps69
  go_wp2_with fail
  refine (rmay_any _ _ _ _ _ _).mono ?_
  rintro e w1 ⟨rfl, hb1⟩
  rw [HM.out]
  go_wp2
  go_ret2
  exact ⟨rfl, HA.out.trans (hb1.mono HA.out.size)⟩
theorem rword_good {k rd a b imm : Int} {w : World} (hm : mayB k rd a b imm = true) :
    Calls Tryd.prog 69 #[.agg #[.int .i64 k, .int .i64 rd, .int .i64 a, .int .i64 b, .int .i64 imm]] w fun e w' => e = .returned (.tuple #[.int .u32 (wordI k rd a b imm), .int .i64 0]) ∧ Below w.heap.size w w' := by
  have hp := mayB_out hm
  obtain ⟨h1, h2, h3, h4, h5, h6, h7, h8, hi⟩ := hp
  obtain ⟨k, rfl⟩ := Int.eq_ofNat_of_zero_le (show 0 ≤ k by omega)
  obtain ⟨b1, b2, b3⟩ := tab_bd k (by omega)
  have t7 := tab_z7 k (by omega)
  have t3 := tab_z3 k (by omega)
  unfold wordI
  rw [Int.toNat_natCast]
  rcases formI_cases k with hf | hf | hf | hf | hf | hf | hf | hf <;> rw [hf] at hi t7 t3 ⊢
  · exact rword_R (by omega) ⟨h3, h4⟩ ⟨h5, h6⟩ ⟨h7, h8⟩ b1 b2 b3 hm hi hf rfl rfl rfl
  · exact rword_I (by omega) ⟨h3, h4⟩ ⟨h5, h6⟩ ⟨h7, h8⟩ b1 b2 b3 hm hi hf rfl rfl rfl (t7.resolve_left (by decide))
  · exact rword_H (by omega) ⟨h3, h4⟩ ⟨h5, h6⟩ ⟨h7, h8⟩ b1 b2 b3 hm hi hf rfl rfl rfl (t7.resolve_left (by decide))
  · exact rword_S (by omega) ⟨h3, h4⟩ ⟨h5, h6⟩ ⟨h7, h8⟩ b1 b2 b3 hm hi hf rfl rfl rfl (t7.resolve_left (by decide))
  · exact rword_B (by omega) ⟨h3, h4⟩ ⟨h5, h6⟩ ⟨h7, h8⟩ b1 b2 b3 hm hi hf rfl rfl rfl (t7.resolve_left (by decide))
  · exact rword_U (by omega) ⟨h3, h4⟩ ⟨h5, h6⟩ ⟨h7, h8⟩ b1 b2 b3 hm hi hf rfl rfl rfl (t7.resolve_left (by decide)) (t3 (by decide))
  · exact rword_J (by omega) ⟨h3, h4⟩ ⟨h5, h6⟩ ⟨h7, h8⟩ b1 b2 b3 hm hi hf rfl rfl rfl (t7.resolve_left (by decide)) (t3 (by decide))
  · exact rword_E (by omega) ⟨h3, h4⟩ ⟨h5, h6⟩ ⟨h7, h8⟩ b1 b2 b3 hm hi hf rfl rfl rfl (t7.resolve_left (by decide)) (t3 (by decide))
theorem rword_any (k rd a b imm : Int) (w : World) :
    Calls Tryd.prog 69 #[.agg #[.int .i64 k, .int .i64 rd, .int .i64 a, .int .i64 b, .int .i64 imm]] w fun e w' => e = .returned (.tuple #[.int .u32 (if mayB k rd a b imm then wordI k rd a b imm else 0), .int .i64 (if mayB k rd a b imm then 0 else 1)]) ∧ Below w.heap.size w w' := by
  cases hm : mayB k rd a b imm
  · exact rword_bad hm
  · exact rword_good hm
end Go.Proofs.YtajhehmkdlebbaaDoor
