/- Some steps; two machines that are the same. Two machines that are the same are told to be so. The document's example, in plain Lean: three steps. The document's example stands. A machine in an argument. -/
import Derived.Test.YtajhehmkdlebbaaDoorQRvSt2
import Derived.Test.YtajhehmkdlebbaaDoorQRvR3
import Derived.Test.YtajhehmkdlebbaaDoorQPgSt
import Derived.Test.YtajhehmkdlebbaaDoorRefBytes
import Derived.Test.YtajhehmkdlebbaaDoorQPgRMap
namespace Go.Proofs.YtajhehmkdlebbaaDoor
open Go.ChangeShapes Go.WideShapes Go.ChangeAt Go.RowKit Go.Deep
set_option maxRecDepth 100000
attribute [-go_sem] loadVar storeVar
/-! ### a step hangs on nothing of where memory lies -/
section
variable {m : Mc} {A : Option Addr} {c : Nat}
theorem home_ite {p : Prop} [Decidable p] (x y : Mc) : (if p then x else y).home A c = if p then x.home A c else y.home A c := by split <;> rfl
theorem Mc.calls_home : (m.home A c).calls = m.calls.home A c := by
  unfold Mc.calls
  simp only [home_ite]
  rfl
theorem Mc.exec_home (o : OpD) : (m.home A c).exec o = (m.exec o).home A c := by
  unfold Mc.exec
  simp only [home_ite, Mc.calls_home]
  rfl
theorem Mc.step_home : (m.home A c).step = m.step.home A c := by
  unfold Mc.step
  rw [home_ite]
  by_cases hs : m.state ≠ 0
  · rw [if_pos hs, if_pos (show (m.home A c).state ≠ 0 from hs)]
  · rw [if_neg hs, if_neg (show ¬ (m.home A c).state ≠ 0 from hs)]
    have e : Mc.fetch { m.home A c with steps := IntKind.u64.wrap ((m.home A c).steps + 1) } = Mc.fetch { m with steps := IntKind.u64.wrap (m.steps + 1) } := rfl
    rw [e]
    cases Mc.fetch { m with steps := IntKind.u64.wrap (m.steps + 1) } with
    | none => rfl
    | some o => exact Mc.exec_home (m := { m with steps := IntKind.u64.wrap (m.steps + 1) }) o
theorem Mc.Ok.home (h : m.Ok) : (m.home A c).Ok := ⟨h.len, h.xs, h.pc_, h.inp_, h.st, h.code_, h.steps_, h.wf, h.small⟩
theorem Mc.step_out : m.step.out.size ≤ m.out.size + 1 := by
  by_cases hs : m.state = 0
  · rcases (Mc.step_io hs).2.1 with h | ⟨b, h⟩
    · rw [h]; omega
    · rw [h, ByteArray.size_append]; exact Nat.le_refl _
  · rw [Mc.step_done hs]; omega
theorem Mc.run_out : ∀ n, (m.run n).out.size ≤ m.out.size + n
  | 0 => Nat.le_refl _
  | n + 1 => by have h1 := Mc.run_out n; have h2 := Mc.step_out (m := m.run n); show (m.run n).step.out.size ≤ _; omega
end
set_option maxHeartbeats 2000000 in
theorem run_nn (m : Mc) (N : Nat) (hN1 : N ≤ 1000000) {w : World} (hG : McG w m) (ho : m.out.size + N ≤ 900000000000000) :
    Calls Tryd.prog 24 #[.agg m.cells.toArray, .int .i64 (N : Int)] w (Comes w (m.run N)) := by
  have hm := hG.ok
  have hl := hm.len
  obtain ⟨W1, W2, h1, h2, s1, s2, x1, x2, b2⟩ := mach_start m w
  have HM2 := Lib.hid (show Mem W2 W2.heap.size m.a m.cap m.mem from (Sl.In.below hG.mem b2).more (by omega))
  have HX := Lib.hid x1
  have HXZ := Lib.hid x2
  have HB := Lib.hid b2
  have HG := Lib.hid hG
  have HOK := Lib.hid hm
  have htw := hG.tab.size
  have q0 : ¬ (N : Int) < 0 := by omega
  have q1 : (0 : Int) ≤ (N : Int) := by omega
  clear x1 x2 b2 hG hm
  go_enter Tryd.func24, Tryd.ntmps24
  go_wp2
  go_loopw [7] (fun i wr => ∃ (k : Nat) (A : Option Addr) (c : Nat), k ≤ N ∧ i = .int .i64 k ∧ Hid (MB wr w.heap.size ((m.run k).home A c)) ∧ Hid (MB wr (w.heap.size + 1) Mc.zero) ∧ Hid (Below w.heap.size w wr) ∧ Hid (Mem wr wr.heap.size A c (m.run k).mem) ∧ Hid (A = none → c = 0)) (fun i _ => N - (intOf i).toNat)
  case atStart => exact ⟨0, m.a, m.cap, Nat.zero_le _, rfl, HX.out, HXZ.out, HB.out, HM2.out, HG.out.nil⟩
  case round =>
    obtain ⟨k, A, c, hk, rfl, X, XZ, B, M, NL⟩ := hrel
    have hlk : ((m.run k).home A c).x.length = 32 := (HOK.out.run k).len
    have lk := X.out.loadVar hlk
    by_cases hlt : k < N
    · have hok := Lib.hid (show McG wr ((m.run k).home A c) from ⟨(HOK.out.run k).home, HG.out.tab.below B.out htw, M.out, NL.out⟩)
      have hout : ((m.run k).home A c).out.size ≤ 900000000000000 := by
        have := Mc.run_out (m := m) k
        show (m.run k).out.size ≤ _
        omega
      go_wp2_with fail
      refine (step_any ((m.run k).home A c) hok.out hout).mono ?_
      rintro e w3 ⟨A', c', rfl, hb3, hM3, hnil⟩
      have e3 : ((m.run k).home A c).step.home A' c' = (m.run (k + 1)).home A' c' := by rw [Mc.step_home]; rfl
      have e4 : ((m.run k).home A c).step.mem = (m.run (k + 1)).mem := by rw [Mc.step_home]; rfl
      rw [e3]
      rw [e4] at hM3
      have hxlt := XZ.out.lt
      have hX3 := X.out.below hb3 X.out.lt
      have hXZ3 := XZ.out.below hb3 hxlt
      have hl1 : ((m.run (k + 1)).home A' c').x.length = 32 := (HOK.out.run (k + 1)).len
      obtain ⟨w4, h4, x4, s4, b4, o4⟩ := hX3.lay hlk ((m.run (k + 1)).home A' c') hl1
      have KEEP := Lib.hid (mem_keep hM3 hX3 hlk hXZ3 rfl (fun j h1 _ => hX3.lay_only hlk hl1 h4 j h1) (by rw [s4]; exact Nat.le_refl _))
      have X4 := Lib.hid x4
      have XZ4 := Lib.hid (o4 _ _ (by omega) hXZ3)
      have B4 := Lib.hid ((B.out.trans (hb3.mono B.out.size)).trans b4)
      have NL4 := Lib.hid hnil
      clear hb3 hM3 hnil hX3 hXZ3 x4 b4 o4 e3 e4
      go_wp2
      exact ⟨⟨k + 1, A', c', hlt, by go_num, X4, XZ4, B4, KEEP, NL4⟩, by simp [intOf]; omega⟩
    · obtain rfl : k = N := by omega
      obtain ⟨Wc, hc, lc, bc⟩ := mach_out XZ.out rfl hlk
      have hfin := Lib.hid (B.out.trans bc)
      have KEEP := Lib.hid (mem_keep M.out X.out hlk XZ.out rfl (fun j h1 h2 => XZ.out.lay_only rfl hlk hc j h2) bc.size)
      clear bc
      go_wp2
      refine bodyPost_ret (v := .agg ((m.run k).home A c).cells.toArray) ?_ rfl ⟨A, c, rfl, hfin.out, KEEP.out, NL.out⟩
      simp [results, Tryd.results24, go_sem, lc]
set_option maxHeartbeats 2000000 in
theorem run_neg (m : Mc) (n : Int) (hn : n < 0) {w : World} (hG : McG w m) (_ho : m.out.size + 0 ≤ 900000000000000) :
    Calls Tryd.prog 24 #[.agg m.cells.toArray, .int .i64 n] w (Comes w (m.run 0)) := by
  have hm := hG.ok
  have hl := hm.len
  obtain ⟨W1, W2, h1, h2, s1, s2, x1, x2, b2⟩ := mach_start m w
  have HM2 := Lib.hid (show Mem W2 W2.heap.size m.a m.cap m.mem from (Sl.In.below hG.mem b2).more (by omega))
  have HX := Lib.hid x1
  have HXZ := Lib.hid x2
  have HB := Lib.hid b2
  have HG := Lib.hid hG
  have HOK := Lib.hid hm
  have htw := hG.tab.size
  clear x1 x2 b2 hG hm
  go_enter Tryd.func24, Tryd.ntmps24
  go_wp2
  go_loopw [7] (fun i wr => ∃ (k : Nat) (A : Option Addr) (c : Nat), k ≤ 0 ∧ i = .int .i64 k ∧ Hid (MB wr w.heap.size ((m.run k).home A c)) ∧ Hid (MB wr (w.heap.size + 1) Mc.zero) ∧ Hid (Below w.heap.size w wr) ∧ Hid (Mem wr wr.heap.size A c (m.run k).mem) ∧ Hid (A = none → c = 0)) (fun i _ => 0 - (intOf i).toNat)
  case atStart => exact ⟨0, m.a, m.cap, Nat.zero_le _, rfl, HX.out, HXZ.out, HB.out, HM2.out, HG.out.nil⟩
  case round =>
    obtain ⟨k, A, c, hk, rfl, X, XZ, B, M, NL⟩ := hrel
    have hlk : ((m.run k).home A c).x.length = 32 := (HOK.out.run k).len
    have lk := X.out.loadVar hlk
    obtain rfl : k = 0 := by omega
    obtain ⟨Wc, hc, lc, bc⟩ := mach_out XZ.out rfl hlk
    have hfin := Lib.hid (B.out.trans bc)
    have KEEP := Lib.hid (mem_keep M.out X.out hlk XZ.out rfl (fun j h1 h2 => XZ.out.lay_only rfl hlk hc j h2) bc.size)
    clear bc
    go_wp2
    refine bodyPost_ret (v := .agg ((m.run 0).home A c).cells.toArray) ?_ rfl ⟨A, c, rfl, hfin.out, KEEP.out, NL.out⟩
    simp [results, Tryd.results24, go_sem, lc]
set_option maxHeartbeats 2000000 in
theorem rrun_nn (m : Mc) (N : Nat) (hN1 : N ≤ 1000000) {w : World} (hG : McG w m) (h00 : m.reg 0 = 0) (ho : m.out.size + N ≤ 900000000000000) :
    Calls Tryd.prog 25 #[.agg m.cells.toArray, .int .i64 (N : Int)] w (Comes w (m.run N)) := by
  have hm := hG.ok
  have hl := hm.len
  obtain ⟨W1, W2, h1, h2, s1, s2, x1, x2, b2⟩ := mach_start m w
  have HM2 := Lib.hid (show Mem W2 W2.heap.size m.a m.cap m.mem from (Sl.In.below hG.mem b2).more (by omega))
  have HX := Lib.hid x1
  have HXZ := Lib.hid x2
  have HB := Lib.hid b2
  have HG := Lib.hid hG
  have HOK := Lib.hid hm
  have htw := hG.tab.size
  clear x1 x2 b2 hG hm
  go_enter Tryd.func25, Tryd.ntmps25
  go_wp2
  go_loopw [5] (fun i wr => ∃ (k : Nat) (A : Option Addr) (c : Nat), k ≤ N ∧ i = .int .i64 k ∧ Hid (MB wr w.heap.size ((m.run k).home A c)) ∧ Hid (MB wr (w.heap.size + 1) Mc.zero) ∧ Hid (Below w.heap.size w wr) ∧ Hid (Mem wr wr.heap.size A c (m.run k).mem) ∧ Hid (A = none → c = 0)) (fun i _ => N - (intOf i).toNat)
  case atStart => exact ⟨0, m.a, m.cap, Nat.zero_le _, rfl, HX.out, HXZ.out, HB.out, HM2.out, HG.out.nil⟩
  case round =>
    obtain ⟨k, A, c, hk, rfl, X, XZ, B, M, NL⟩ := hrel
    have hlk : ((m.run k).home A c).x.length = 32 := (HOK.out.run k).len
    have lk := X.out.loadVar hlk
    by_cases hlt : k < N
    · have hok := Lib.hid (show McG wr ((m.run k).home A c) from ⟨(HOK.out.run k).home, HG.out.tab.below B.out htw, M.out, NL.out⟩)
      have hout : ((m.run k).home A c).out.size ≤ 900000000000000 := by
        have := Mc.run_out (m := m) k
        show (m.run k).out.size ≤ _
        omega
      go_wp2_with fail
      refine (rstep_any ((m.run k).home A c) hok.out hout (Mc.run_zero HOK.out h00 k)).mono ?_
      rintro e w3 ⟨A', c', rfl, hb3, hM3, hnil⟩
      have e3 : ((m.run k).home A c).step.home A' c' = (m.run (k + 1)).home A' c' := by rw [Mc.step_home]; rfl
      have e4 : ((m.run k).home A c).step.mem = (m.run (k + 1)).mem := by rw [Mc.step_home]; rfl
      rw [e3]
      rw [e4] at hM3
      have hxlt := XZ.out.lt
      have hX3 := X.out.below hb3 X.out.lt
      have hXZ3 := XZ.out.below hb3 hxlt
      have hl1 : ((m.run (k + 1)).home A' c').x.length = 32 := (HOK.out.run (k + 1)).len
      obtain ⟨w4, h4, x4, s4, b4, o4⟩ := hX3.lay hlk ((m.run (k + 1)).home A' c') hl1
      have KEEP := Lib.hid (mem_keep hM3 hX3 hlk hXZ3 rfl (fun j h1 _ => hX3.lay_only hlk hl1 h4 j h1) (by rw [s4]; exact Nat.le_refl _))
      have X4 := Lib.hid x4
      have XZ4 := Lib.hid (o4 _ _ (by omega) hXZ3)
      have B4 := Lib.hid ((B.out.trans (hb3.mono B.out.size)).trans b4)
      have NL4 := Lib.hid hnil
      clear hb3 hM3 hnil hX3 hXZ3 x4 b4 o4 e3 e4
      go_wp2
      exact ⟨⟨k + 1, A', c', hlt, by go_num, X4, XZ4, B4, KEEP, NL4⟩, by simp [intOf]; omega⟩
    · obtain rfl : k = N := by omega
      obtain ⟨Wc, hc, lc, bc⟩ := mach_out XZ.out rfl hlk
      have hfin := Lib.hid (B.out.trans bc)
      have KEEP := Lib.hid (mem_keep M.out X.out hlk XZ.out rfl (fun j h1 h2 => XZ.out.lay_only rfl hlk hc j h2) bc.size)
      clear bc
      go_wp2
      refine bodyPost_ret (v := .agg ((m.run k).home A c).cells.toArray) ?_ rfl ⟨A, c, rfl, hfin.out, KEEP.out, NL.out⟩
      simp [results, Tryd.results25, go_sem, lc]
set_option maxHeartbeats 2000000 in
theorem rrun_neg (m : Mc) (n : Int) (hn : n < 0) {w : World} (hG : McG w m) (_h00 : m.reg 0 = 0) (_ho : m.out.size + 0 ≤ 900000000000000) :
    Calls Tryd.prog 25 #[.agg m.cells.toArray, .int .i64 n] w (Comes w (m.run 0)) := by
  have hm := hG.ok
  have hl := hm.len
  obtain ⟨W1, W2, h1, h2, s1, s2, x1, x2, b2⟩ := mach_start m w
  have HM2 := Lib.hid (show Mem W2 W2.heap.size m.a m.cap m.mem from (Sl.In.below hG.mem b2).more (by omega))
  have HX := Lib.hid x1
  have HXZ := Lib.hid x2
  have HB := Lib.hid b2
  have HG := Lib.hid hG
  have HOK := Lib.hid hm
  have htw := hG.tab.size
  clear x1 x2 b2 hG hm
  go_enter Tryd.func25, Tryd.ntmps25
  go_wp2
  go_loopw [5] (fun i wr => ∃ (k : Nat) (A : Option Addr) (c : Nat), k ≤ 0 ∧ i = .int .i64 k ∧ Hid (MB wr w.heap.size ((m.run k).home A c)) ∧ Hid (MB wr (w.heap.size + 1) Mc.zero) ∧ Hid (Below w.heap.size w wr) ∧ Hid (Mem wr wr.heap.size A c (m.run k).mem) ∧ Hid (A = none → c = 0)) (fun i _ => 0 - (intOf i).toNat)
  case atStart => exact ⟨0, m.a, m.cap, Nat.zero_le _, rfl, HX.out, HXZ.out, HB.out, HM2.out, HG.out.nil⟩
  case round =>
    obtain ⟨k, A, c, hk, rfl, X, XZ, B, M, NL⟩ := hrel
    have hlk : ((m.run k).home A c).x.length = 32 := (HOK.out.run k).len
    have lk := X.out.loadVar hlk
    obtain rfl : k = 0 := by omega
    obtain ⟨Wc, hc, lc, bc⟩ := mach_out XZ.out rfl hlk
    have hfin := Lib.hid (B.out.trans bc)
    have KEEP := Lib.hid (mem_keep M.out X.out hlk XZ.out rfl (fun j h1 h2 => XZ.out.lay_only rfl hlk hc j h2) bc.size)
    clear bc
    go_wp2
    refine bodyPost_ret (v := .agg ((m.run 0).home A c).cells.toArray) ?_ rfl ⟨A, c, rfl, hfin.out, KEEP.out, NL.out⟩
    simp [results, Tryd.results25, go_sem, lc]
theorem run_any (m : Mc) (n : Int) {w : World} (hG : McG w m) (hn : n ≤ 1000000) (ho : m.out.size + n.toNat ≤ 900000000000000) :
    Calls Tryd.prog 24 #[.agg m.cells.toArray, .int .i64 n] w (Comes w (m.run n.toNat)) := by
  by_cases h : n < 0
  · rw [show n.toNat = 0 by omega] at ho ⊢
    exact run_neg m n h hG ho
  · obtain ⟨N, rfl⟩ := Int.eq_ofNat_of_zero_le (show 0 ≤ n by omega)
    exact run_nn m N (by omega) hG ho
theorem rrun_any (m : Mc) (n : Int) {w : World} (hG : McG w m) (h00 : m.reg 0 = 0) (hn : n ≤ 1000000) (ho : m.out.size + n.toNat ≤ 900000000000000) :
    Calls Tryd.prog 25 #[.agg m.cells.toArray, .int .i64 n] w (Comes w (m.run n.toNat)) := by
  by_cases h : n < 0
  · rw [show n.toNat = 0 by omega] at ho ⊢
    exact rrun_neg m n h hG h00 ho
  · obtain ⟨N, rfl⟩ := Int.eq_ofNat_of_zero_le (show 0 ≤ n by omega)
    exact rrun_nn m N (by omega) hG h00 ho
end Go.Proofs.YtajhehmkdlebbaaDoor
namespace Go.Proofs.YtajhehmkdlebbaaDoor
open Go.ChangeShapes Go.WideShapes Go.ChangeAt Go.RowKit Go.Deep
set_option maxRecDepth 100000
attribute [-go_sem] loadVar storeVar
section
variable {W : World} {k : Nat} {m : Mc}
theorem regs_info : (Tryd.prog.info? 31).map (·.size) = some 32 := by kernel_rfl
theorem MB.regs (h : MB W k m) (hl : m.x.length = 32) : (Go.loadVar 31 ⟨k, 0, none⟩).run Tryd.prog W = .ok (.agg (m.x.map (Value.int .u64)).toArray) W :=
  run_loadVar_mid W k 0 31 (m.x.map (Value.int .u64)) _ (fun j v hv => by
    have hj : j < 32 := by have := (List.getElem?_eq_some_iff.1 hv).1; simpa [hl] using this
    rw [Nat.zero_add, h.cell]
    unfold Mc.cells
    rw [List.getElem?_append_left (by simpa [hl] using hj), hv]) Tryd.underlying31 rfl (by rw [regs_info]; simp [hl])
theorem eql_regs (w : World) (x : List Int) (hx : x.length = 32) :
    (Op.equalIn 10000 31 (.agg (x.map (Value.int .u64)).toArray) (.agg (x.map (Value.int .u64)).toArray)).run Tryd.prog w = .ok true w := by
  have ht := Tryd.underlying31
  have he := Tryd.underlying24
  have hsz : ∀ w, (sizeOf 24).run Tryd.prog w = .ok 1 w := fun w => by simp
  rw [show (10000 : Nat) = 9998 + 2 from rfl, Op.equalIn]
  simp only [Sem.run_bind, run_underlying ht, Result.andThen_ok, hsz, Std.Legacy.Range.forIn_eq_forIn_range', Std.Legacy.Range.size, Nat.sub_zero, Nat.add_sub_cancel, Nat.div_one]
  have hl : ∀ i ∈ List.range' 0 32 1, i < 32 := fun i hi => by simpa using (List.mem_range'_1.1 hi).2
  generalize List.range' 0 32 1 = l at hl ⊢
  induction l with
  | nil => simp
  | cons i l ih =>
    have hi : i < 32 := hl i (by simp)
    have px : (part 24 (x.map (Value.int .u64)).toArray (i * 1)).run Tryd.prog w = .ok (.int .u64 (x.getD i 0)) w := by
      simp [part, isAgg, run_underlying he, List.getD, List.getElem?_eq_getElem (show i < x.length by omega)]
    have pe : (Op.equalIn (9998 + 1) 24 (.int .u64 (x.getD i 0)) (.int .u64 (x.getD i 0))).run Tryd.prog w = .ok true w := by
      rw [run_equalIn_int w 9998 24 .u64 .u64 _ _ he]
      simp
    simp only [List.forIn_cons, Sem.run_bind, px, pe, Result.andThen_ok]
    simp only [Bool.not_true, Bool.false_eq_true, if_false, Sem.run_pure, Result.andThen_ok]
    exact ih fun j hj => hl j (by simp [hj])
end
set_option maxHeartbeats 1000000 in
theorem msame_any (m : Mc) (A : Option Addr) (c : Nat) {w : World} (hm : m.Ok) (hM : Mem w w.heap.size m.a m.cap m.mem) (hM' : Mem w w.heap.size A c m.mem) :
    Calls Tryd.prog 21 #[.agg m.cells.toArray, .agg (m.home A c).cells.toArray] w fun e w' => e = .returned (.bool true) ∧ Below w.heap.size w w' := by
  have hl := hm.len
  obtain ⟨n, hn⟩ : ∃ n, n = m.home A c := ⟨_, rfl⟩
  rw [← hn]
  have hln : n.x.length = 32 := by rw [hn]; exact hl
  obtain ⟨W1, h1⟩ : ∃ W1, w.alloc (.cells m.cells.toArray 34) = W1 := ⟨_, rfl⟩
  obtain ⟨W2, h2⟩ : ∃ W2, W1.alloc (.cells n.cells.toArray 34) = W2 := ⟨_, rfl⟩
  have s1 : W1.heap.size = w.heap.size + 1 := by subst h1; simp
  have s2 : W2.heap.size = w.heap.size + 1 + 1 := by subst h2; simp [s1]
  have x1 : MB W2 w.heap.size m := by subst h2 h1; exact (mb_new w m).alloc _
  have x2 : MB W2 (w.heap.size + 1) n := by have := mb_new W1 n; rw [s1, h2] at this; exact this
  have b2 : Below w.heap.size w W2 := by subst h2 h1; exact ((Below.refl _ w).alloc (Nat.le_refl _) _).alloc (by simp) _
  have HM := Lib.hid (Sl.In.below hM b2)
  have HM' := Lib.hid (Sl.In.below hM' b2)
  have q1 := (x1.tail hl).2.1
  have q2 : W2.cell? ⟨w.heap.size + 1, 33, none⟩ = some (.slice A m.mem.length c) := by rw [(x2.tail hln).2.1, hn]; rfl
  have HX := Lib.hid x1
  have HXN := Lib.hid x2
  have HB := Lib.hid b2
  have HN := Lib.hid hn
  have hsm := hm.small
  have hmem : sameB m.mem m.mem = true := decide_eq_true rfl
  clear x1 x2 b2 hM hM' hn hm
  go_enter Tryd.func21, Tryd.ntmps21
  go_wp2_with fail
  refine (rsame_any HM.out HM'.out (by omega) (by omega) hsm).mono ?_
  rintro e w3 ⟨rfl, hb3⟩
  rw [hmem]
  have y1 := HX.out.below hb3 (by omega)
  have y2 := HXN.out.below hb3 (by omega)
  have r1 := y1.regs hl
  have r2 := y2.regs hln
  obtain ⟨c0, c1, c2, c3, c4, c5, c6⟩ := y1.tail hl
  obtain ⟨d0, d1, d2, d3, d4, d5, d6⟩ := y2.tail hln
  have ex := HN.out
  rw [ex] at r2 d0 d2 d3 d4 d5 d6
  have r2' : (Go.loadVar 31 ⟨w.heap.size + 1, 0, none⟩).run Tryd.prog w3 = .ok (.agg (m.x.map (Value.int .u64)).toArray) w3 := r2
  have d0' : w3.cell? ⟨w.heap.size + 1, 32, none⟩ = some (.int .u64 m.pc) := d0
  have d2' : w3.cell? ⟨w.heap.size + 1, 34, none⟩ = some (.string m.inp) := d2
  have d3' : w3.cell? ⟨w.heap.size + 1, 35, none⟩ = some (.string m.out) := d3
  have d4' : w3.cell? ⟨w.heap.size + 1, 36, none⟩ = some (.int .i64 m.state) := d4
  have d5' : w3.cell? ⟨w.heap.size + 1, 37, none⟩ = some (.int .u64 m.code) := d5
  have d6' : w3.cell? ⟨w.heap.size + 1, 38, none⟩ = some (.int .u64 m.steps) := d6
  have hfin := Lib.hid (HB.out.trans (hb3.mono (by omega)))
  have heq := eql_regs w3 m.x hl
  have hgd : Tryd.prog.eqGuardType Tryd.prog.depth 31 = false := by kernel_rfl
  obtain ⟨X, hX⟩ : ∃ X, (m.x.map (Value.int .u64)).toArray = X := ⟨_, rfl⟩
  rw [hX] at r1 r2' heq
  clear y1 y2 hb3 r2 d0 d2 d3 d4 d5 d6 ex hX
  go_wp2
  go_ret
  exact ⟨rfl, hfin.out⟩
end Go.Proofs.YtajhehmkdlebbaaDoor
namespace Go.Proofs.YtajhehmkdlebbaaDoor
open Go.ChangeShapes Go.WideShapes Go.ChangeAt Go.RowKit Go.Deep
set_option maxRecDepth 100000
def shL : List OpD := [⟨12, 17, 0, 0, 93⟩, ⟨12, 10, 0, 0, 7⟩, ⟨31, 0, 0, 0, 0⟩]
def shS : ByteArray := ⟨#[147, 8, 208, 5, 19, 5, 112, 0, 115, 0, 0, 0]⟩
theorem sh_bytes : bytesS shL = shS := by
  have h1 : (shL.all OpD.may) = true := by decide +kernel
  have h2 : bytesL shL = [147, 8, 208, 5, 19, 5, 112, 0, 115, 0, 0, 0] := by decide +kernel
  unfold bytesS
  rw [if_pos h1, h2]
  rfl
def shP : Pg := ⟨0, 1, zerosB 256⟩
theorem sh_right0 : RightP ([] : List Pg) := ⟨by simp, fun k hk => absurd hk (Nat.not_lt_zero _)⟩
theorem sh_mapE : mapE [] 0 1 1 = 0 := by
  unfold mapE
  rw [if_pos ⟨rightB_in sh_right0, by decide, by decide, by decide, by decide⟩]
  rfl
theorem sh_mapX : mapX [] 0 1 1 = [shP] := by
  rw [mapX_zero sh_mapE]
  rfl
theorem sh_right1 : RightP [shP] := by rw [← sh_mapX]; exact mapX_rightP sh_right0
def shM : List Pg := wrL [shP] 0 shS 12
theorem sh_fillX : fillX [shP] 0 shS = shM := by
  unfold fillX
  have h : (loadN [shP] 0 0 shS.size).isSome = true := by decide +kernel
  rw [if_pos ⟨rightB_in sh_right1, h⟩]
  rfl
theorem sh_right : rightB shM = true := by rw [← sh_fillX]; exact rightB_in (fillX_rightP sh_right1)
theorem sh_load0 : loadN shM 0 1 4 = some 97519763 := by decide +kernel
theorem sh_load1 : loadN shM 4 1 4 = some 7341331 := by decide +kernel
theorem sh_load2 : loadN shM 8 1 4 = some 115 := by decide +kernel
theorem sh_ld {a v : Int} (h : loadN shM a 1 4 = some v) : loadE shM a 4 1 = 0 ∧ loadV shM a 4 1 = v := by
  unfold loadE loadV
  refine ⟨?_, ?_⟩ <;> (rw [if_pos ⟨by decide, sh_right⟩, show (4 : Int).toNat = 4 from rfl, h]; rfl)
theorem sh_take0 : takeK 97519763 = some 12 := by decide +kernel
theorem sh_take1 : takeK 7341331 = some 12 := by decide +kernel
theorem sh_take2 : takeK 115 = some 31 := by decide +kernel
theorem step_of {m : Mc} {o : OpD} {v : Int} (hs : m.state = 0) (hp : m.pc % 4 = 0) (hl : loadE m.mem m.pc 4 1 = 0 ∧ loadV m.mem m.pc 4 1 = v) (ht : takeO (IntKind.u32.wrap v) = some o) : m.step = m.tick.exec o := by
  have hf : m.tick.fetch = some o := by
    unfold Mc.fetch
    rw [if_pos (show m.tick.pc % 4 = 0 from hp), if_pos (show loadE m.tick.mem m.tick.pc 4 1 = 0 from hl.1), show loadV m.tick.mem m.tick.pc 4 1 = v from hl.2]
    exact ht
  unfold Mc.step
  rw [if_neg (by simp [hs])]
  have hf' : Mc.fetch { m with steps := IntKind.u64.wrap (m.steps + 1) } = some o := hf
  rw [hf']
  rfl
def sh0 (A : Option Addr) (c : Nat) : Mc := ⟨List.replicate 32 0, 0, A, c, shM, ⟨#[]⟩, ⟨#[]⟩, 0, 0, 0⟩
def sh1 (A : Option Addr) (c : Nat) : Mc := ⟨(List.replicate 32 0).set 17 93, 4, A, c, shM, ⟨#[]⟩, ⟨#[]⟩, 0, 0, 1⟩
def sh2 (A : Option Addr) (c : Nat) : Mc := ⟨((List.replicate 32 0).set 17 93).set 10 7, 8, A, c, shM, ⟨#[]⟩, ⟨#[]⟩, 0, 0, 2⟩
def sh3 (A : Option Addr) (c : Nat) : Mc := ⟨((List.replicate 32 0).set 17 93).set 10 7, 8, A, c, shM, ⟨#[]⟩, ⟨#[]⟩, 1, 7, 3⟩
theorem sh_step0 (A : Option Addr) (c : Nat) : (sh0 A c).step = sh1 A c := by
  rw [step_of (m := sh0 A c) (o := ⟨12, 17, 0, 0, 93⟩) rfl rfl (sh_ld sh_load0) (by unfold takeO; rw [show IntKind.u32.wrap 97519763 = 97519763 from rfl, sh_take0]; rfl), exec_do (by decide)]
  rfl
theorem sh_step1 (A : Option Addr) (c : Nat) : (sh1 A c).step = sh2 A c := by
  rw [step_of (m := sh1 A c) (o := ⟨12, 10, 0, 0, 7⟩) rfl rfl (sh_ld sh_load1) (by unfold takeO; rw [show IntKind.u32.wrap 7341331 = 7341331 from rfl, sh_take1]; rfl), exec_do (by decide)]
  rfl
theorem sh_step2 (A : Option Addr) (c : Nat) : (sh2 A c).step = sh3 A c := by
  rw [step_of (m := sh2 A c) (o := ⟨31, 0, 0, 0, 0⟩) rfl rfl (sh_ld sh_load2) (by unfold takeO; rw [show IntKind.u32.wrap 115 = 115 from rfl, sh_take2]; rfl), exec_ecall rfl]
  rfl
theorem sh_run (A : Option Addr) (c : Nat) : (sh0 A c).run 3 = sh3 A c := by
  show (((sh0 A c).step).step).step = _
  rw [sh_step0, sh_step1, sh_step2]
theorem sh_ok (A : Option Addr) (c : Nat) : (sh0 A c).Ok := by
  refine ⟨rfl, fun v hv => ?_, u64_zero, by show (0 : Nat) ≤ _; omega, by show (-9223372036854775808 : Int) ≤ 0 ∧ (0 : Int) ≤ 9223372036854775807; decide, u64_zero, u64_zero, fun p hp => ?_, by show (wrL [shP] 0 shS 12).length ≤ _; simp [wrL]⟩
  · rw [List.eq_of_mem_replicate hv]; exact u64_zero
  · have hp' : p ∈ shM := hp
    rw [← sh_fillX] at hp'
    refine fillX_okP (fun q hq => ?_) p hp'
    rw [List.mem_singleton] at hq
    subst hq
    exact ⟨by decide, by decide, by decide⟩
end Go.Proofs.YtajhehmkdlebbaaDoor
namespace Go.Proofs.YtajhehmkdlebbaaDoor
open Go.ChangeShapes Go.WideShapes Go.ChangeAt Go.RowKit Go.Deep
set_option maxRecDepth 100000
attribute [-go_sem] loadVar storeVar
set_option maxHeartbeats 2000000 in
theorem shown3_any {w : World} (hT : Tab w) : Calls Tryd.prog 15 #[] w fun e w' => e = .returned (.bool true) ∧ Below w.heap.size w w' := by
  obtain ⟨W1, h1⟩ : ∃ W1, w.alloc (.cells #[.int .i64 12, .int .i64 17, .int .i64 0, .int .i64 0, .int .i64 93, .int .i64 12, .int .i64 10, .int .i64 0, .int .i64 0, .int .i64 7, .int .i64 31, .int .i64 0, .int .i64 0, .int .i64 0, .int .i64 0] 23) = W1 := ⟨_, rfl⟩
  have s1 : W1.heap.size = w.heap.size + 1 := by subst h1; simp
  have b1 : Below w.heap.size w W1 := by subst h1; exact (Below.refl _ w).alloc (Nat.le_refl _) _
  have hr := Lib.cell_of_heap (show W1.heap[w.heap.size]? = some (.cells #[.int .i64 12, .int .i64 17, .int .i64 0, .int .i64 0, .int .i64 93, .int .i64 12, .int .i64 10, .int .i64 0, .int .i64 0, .int .i64 7, .int .i64 31, .int .i64 0, .int .i64 0, .int .i64 0, .int .i64 0] 23 (0, 0)) by subst h1; exact heap_alloc_new w _)
  have hL : Sl.In W1 W1.heap.size 5 OpD.cells ⟨some ⟨w.heap.size, 0, none⟩, 3, shL⟩ := by
    refine ⟨Nat.le_refl 3, fun k x hk => ⟨w.heap.size, 0, rfl, by omega, fun j u hu => ?_⟩⟩
    rw [hr]
    match k, j with
    | 0, 0 | 0, 1 | 0, 2 | 0, 3 | 0, 4 => obtain rfl := Option.some.inj hk; exact hu
    | 1, 0 | 1, 1 | 1, 2 | 1, 3 | 1, 4 => obtain rfl := Option.some.inj hk; exact hu
    | 2, 0 | 2, 1 | 2, 2 | 2, 3 | 2, 4 => obtain rfl := Option.some.inj hk; exact hu
    | 0, j + 5 | 1, j + 5 | 2, j + 5 => exact absurd hu (by obtain rfl := Option.some.inj hk; simp [OpD.cells])
    | k + 3, _ => exact absurd hk (by simp [shL])
  have HL := Lib.hid hL
  have HT := Lib.hid hT
  have HB1 := Lib.hid b1
  have htw := hT.size
  clear hr hL hT b1
  go_enter Tryd.func15, Tryd.ntmps15
  go_wp2_with fail
  refine (rbytes_any HL.out (Nat.le_refl _) (by decide)).mono ?_
  rintro e w2 ⟨rfl, hb2⟩
  rw [sh_bytes]
  have HB2 := Lib.hid (HB1.out.trans (hb2.mono (by omega)))
  clear hb2
  go_wp2_with fail
  refine (rmap_any (L := []) (A := none) (cap := 0) (B := 0) 0 1 1 (by decide) ⟨by simp, fun k x hk => by simp at hk⟩ (fun _ => rfl) (by omega) (by simp)).mono ?_
  rintro e w3 ⟨hb3, v3, rfl, A3, c3, rfl, hM3, hn3⟩
  rw [sh_mapX] at hM3 ⊢
  have HB3 := Lib.hid (HB2.out.trans (hb3.mono HB2.out.size))
  have HM3 := Lib.hid hM3
  have HN3 := Lib.hid hn3
  clear hb3 hM3 hn3
  go_wp2_with fail
  refine (rfill_any (L := [shP]) 0 shS (by decide) (by decide) HM3.out HN3.out (Nat.le_refl _) (fun q hq => by rw [List.mem_singleton] at hq; subst hq; exact ⟨by decide, by decide, by decide⟩)).mono ?_
  rintro e w4 ⟨hb4, v4, rfl, A4, c4, rfl, hM4, hn4⟩
  rw [sh_fillX] at hM4 ⊢
  have HB4 := Lib.hid (HB3.out.trans (hb4.mono HB3.out.size))
  have HG := Lib.hid (show McG w4 (sh0 A4 c4) from ⟨sh_ok A4 c4, HT.out.below HB4.out htw, hM4, hn4⟩)
  clear hb4 hM4 hn4
  go_wp2_with fail
  refine (run_any (sh0 A4 c4) 3 HG.out (by decide) (by show (0 : Nat) + 3 ≤ _; omega)).mono ?_
  rintro e w5 ⟨A5, c5, rfl, hb5, _, _⟩
  rw [show (3 : Int).toNat = 3 from rfl, sh_run]
  obtain ⟨R, hR⟩ : ∃ R, R = (sh3 A4 c4).home A5 c5 := ⟨_, rfl⟩
  rw [← hR]
  have hlR : R.x.length = 32 := by rw [hR]; rfl
  have HB5 := HB4.out.trans (hb5.mono HB4.out.size)
  obtain ⟨W6, h6, s6, x6, b6, _⟩ := mach_more w5
  obtain ⟨W7, h7, x7, s7, b7, _⟩ := x6.lay rfl R hlR
  have t7 := x7.tail hlR
  have c36 : W7.cell? ⟨w5.heap.size, 36, none⟩ = some (.int .i64 1) := by rw [t7.2.2.2.2.1, hR]; rfl
  have c37 : W7.cell? ⟨w5.heap.size, 37, none⟩ = some (.int .u64 7) := by rw [t7.2.2.2.2.2.1, hR]; rfl
  have c38 : W7.cell? ⟨w5.heap.size, 38, none⟩ = some (.int .u64 3) := by rw [t7.2.2.2.2.2.2, hR]; rfl
  have hfin := Lib.hid ((HB5.trans (b6.mono HB5.size)).trans (b7.mono HB5.size))
  clear hR hb5 HB5 x6 b6 x7 b7 t7
  go_wp2
  go_ret
  exact ⟨rfl, hfin.out⟩
end Go.Proofs.YtajhehmkdlebbaaDoor
namespace Go.Proofs.YtajhehmkdlebbaaDoor
open Go.ChangeShapes Go.WideShapes Go.ChangeAt Go.RowKit Go.Deep
set_option maxRecDepth 100000
section
variable {P : Program} {w : World} {t : TypeId}
/-- a struct, field by field, of however many cells -/
theorem open_fields {H : Type} {enc : TypeId × Value → H} {fs : Array Field} {fuel : Nat} {cs : List Value} {y : DataW H × List MemPlace} (ht : P.underlying t = some (.struct fs))
    (h : DataW.trod enc P w 0 (fun _ => true) true fuel t cs = some y) (hw : ∀ n ∈ y.1.weights P t, n ≤ reachBytes) :
    ∃ n, cs.length = P.cellsOf t ∧ ∀ (j : Nat) (f : Field), fs[j]? = some f → ∃ y', DataW.trod enc P w 0 (fun _ => true) true n f.type ((cs.drop f.offset).take (P.cellsOf f.type)) = some y' ∧ ∀ q ∈ y'.1.weights P f.type, q ≤ reachBytes := by
  obtain ⟨ys, n, _, rfl, hlen, hyl, hf⟩ := DataW.trod_struct ht h
  refine ⟨n, hlen, fun j f hj => ?_⟩
  have hjl : j < fs.size := (Array.getElem?_eq_some_iff.1 hj).1
  have hys : ys[j]? = some (ys[j]'(by omega)) := List.getElem?_eq_getElem (by omega)
  refine ⟨ys[j]'(by omega), (hf j f hj).trans hys, fun q hq => hw q ?_⟩
  simp only [DataW.weights, ht]
  exact DataW.weights_mem_each (j := j) (d := (ys[j]'(by omega)).1) (by simp [hj]) (by simp [hys]) q hq
/-- an array of integers -/
theorem open_ints {H : Type} {enc : TypeId × Value → H} {k : IntKind} {e : TypeId} {n fuel : Nat} {cs : List Value} {y : DataW H × List MemPlace} (ht : P.underlying t = some (.array n e)) (he : P.underlying e = some (.int k)) (hc : P.cellsOf t = n) (hce : P.cellsOf e = 1)
    (h : DataW.trod enc P w 0 (fun _ => true) true fuel t cs = some y) : ∃ x : List Int, x.length = n ∧ cs = x.map (Value.int k) ∧ ∀ v ∈ x, (Lit.int k v).wf = true := by
  obtain ⟨ys, m, _, rfl, hlen, hyl, hf⟩ := DataW.trod_array ht h
  rw [hc] at hlen
  have one : ∀ i, i < n → ∃ v : Int, cs[i]? = some (.int k v) ∧ (Lit.int k v).wf = true := by
    intro i hi
    have h1 := hf i hi
    rw [hce, Nat.mul_one, List.drop_eq_getElem_cons (by omega), List.take_succ_cons, List.take_zero, List.getElem?_eq_getElem (by omega)] at h1
    obtain ⟨v, h2, _, h3⟩ := DataW.trod_int he h1
    exact ⟨v, by rw [List.getElem?_eq_getElem (by omega)]; simp only [List.cons.injEq, and_true] at h2; rw [h2], h3⟩
  have main : ∀ q, q ≤ n → ∃ x : List Int, x.length = q ∧ cs.take q = x.map (Value.int k) ∧ ∀ v ∈ x, (Lit.int k v).wf = true := by
    intro q
    induction q with
    | zero => exact fun _ => ⟨[], rfl, by simp, by simp⟩
    | succ q ih =>
      intro hq
      obtain ⟨x, h1, h2, h3⟩ := ih (by omega)
      obtain ⟨v, h4, h5⟩ := one q (by omega)
      refine ⟨x ++ [v], by simp [h1], ?_, fun u hu => ?_⟩
      · rw [List.take_add_one, h2, h4]; simp
      · rcases List.mem_append.1 hu with hu | hu
        · exact h3 u hu
        · rw [List.mem_singleton] at hu; rw [hu]; exact h5
  obtain ⟨x, h1, h2, h3⟩ := main n (Nat.le_refl n)
  exact ⟨x, h1, by rw [← h2, List.take_of_length_le (by omega)], h3⟩
end
/-- .. and its memory -/
def McA (w : World) (m : Mc) : Prop := m.Ok ∧ Mem w w.heap.size m.a m.cap m.mem ∧ (m.a = none → m.cap = 0) ∧ m.out.size ≤ 140737488351232
theorem McA.good {w : World} {m : Mc} (h : McA w m) (ht : Tab w) : McG w m := ⟨h.1, ht, h.2.1, h.2.2.1⟩
theorem opens_mach {w : World} : Opens Tryd.prog w 34 Mc.cells (McA w) := by
  intro H enc fuel cs y h hw
  obtain ⟨n, hlen, hf⟩ := open_fields Tryd.underlying34 h hw
  rw [show Tryd.prog.cellsOf 34 = 39 by kernel_rfl] at hlen
  obtain ⟨y0, t0, w0⟩ := hf 0 _ rfl
  obtain ⟨y1, t1, w1⟩ := hf 1 _ rfl
  obtain ⟨y2, t2, w2⟩ := hf 2 _ rfl
  obtain ⟨y3, t3, w3⟩ := hf 3 _ rfl
  obtain ⟨y4, t4, w4⟩ := hf 4 _ rfl
  obtain ⟨y5, t5, w5⟩ := hf 5 _ rfl
  obtain ⟨y6, t6, w6⟩ := hf 6 _ rfl
  obtain ⟨y7, t7, w7⟩ := hf 7 _ rfl
  have hc31 : Tryd.prog.cellsOf 31 = 32 := by kernel_rfl
  have hc24 : Tryd.prog.cellsOf 24 = 1 := by kernel_rfl
  have hc32 : Tryd.prog.cellsOf 32 = 1 := by kernel_rfl
  have hc9 : Tryd.prog.cellsOf 9 = 1 := by kernel_rfl
  have hc3 : Tryd.prog.cellsOf 3 = 1 := by kernel_rfl
  replace t0 : DataW.trod enc Tryd.prog w 0 (fun _ => true) true n 31 ((cs.drop 0).take (Tryd.prog.cellsOf 31)) = some y0 := t0
  rw [hc31] at t0
  replace t1 : DataW.trod enc Tryd.prog w 0 (fun _ => true) true n 24 ((cs.drop 32).take (Tryd.prog.cellsOf 24)) = some y1 := t1
  rw [hc24] at t1
  replace t2 : DataW.trod enc Tryd.prog w 0 (fun _ => true) true n 32 ((cs.drop 33).take (Tryd.prog.cellsOf 32)) = some y2 := t2
  rw [hc32] at t2
  replace t3 : DataW.trod enc Tryd.prog w 0 (fun _ => true) true n 9 ((cs.drop 34).take (Tryd.prog.cellsOf 9)) = some y3 := t3
  rw [hc9] at t3
  replace t4 : DataW.trod enc Tryd.prog w 0 (fun _ => true) true n 9 ((cs.drop 35).take (Tryd.prog.cellsOf 9)) = some y4 := t4
  rw [hc9] at t4
  replace t5 : DataW.trod enc Tryd.prog w 0 (fun _ => true) true n 3 ((cs.drop 36).take (Tryd.prog.cellsOf 3)) = some y5 := t5
  rw [hc3] at t5
  replace t6 : DataW.trod enc Tryd.prog w 0 (fun _ => true) true n 24 ((cs.drop 37).take (Tryd.prog.cellsOf 24)) = some y6 := t6
  rw [hc24] at t6
  replace t7 : DataW.trod enc Tryd.prog w 0 (fun _ => true) true n 24 ((cs.drop 38).take (Tryd.prog.cellsOf 24)) = some y7 := t7
  rw [hc24] at t7
  obtain ⟨x, hx, hcs, hxw⟩ := open_ints Tryd.underlying31 Tryd.underlying24 hc31 hc24 t0
  rw [List.drop_zero] at hcs
  obtain ⟨v1, h1, g1⟩ := opens_int Tryd.underlying24 enc _ _ _ t1 w1
  obtain ⟨v2, h2, g2⟩ := opens_mem enc _ _ _ t2 w2
  obtain ⟨v3, h3, g3⟩ := opens_string Tryd.underlying9 enc _ _ _ t3 w3
  obtain ⟨v4, h4, g4⟩ := opens_string Tryd.underlying9 enc _ _ _ t4 w4
  obtain ⟨v5, h5, g5⟩ := opens_int Tryd.underlying3 enc _ _ _ t5 w5
  obtain ⟨v6, h6, g6⟩ := opens_int Tryd.underlying24 enc _ _ _ t6 w6
  obtain ⟨v7, h7, g7⟩ := opens_int Tryd.underlying24 enc _ _ _ t7 w7
  have hm := MemG.of g2
  obtain ⟨m1, m2, m3, m4⟩ := hm
  refine ⟨⟨x, v1, v2.a, v2.cap, v2.l, v3, v4, v5, v6, v7⟩, ?_, ⟨hx, fun v hv => u64_bd (hxw v hv), u64_bd g1, g3, i64_bd g5, u64_bd g6, u64_bd g7, m3, m4⟩, m1, m2, g4⟩
  have hsp : cs = cs.take 32 ++ cs.drop 32 := (List.take_append_drop 32 cs).symm
  rw [hsp, hcs]
  show _ = x.map (Value.int .u64) ++ _
  congr 1
  have hd : (cs.drop 32).length = 7 := by simp [hlen]
  have e1 : cs.drop 33 = (cs.drop 32).drop 1 := by rw [List.drop_drop]
  have e2 : cs.drop 34 = (cs.drop 32).drop 2 := by rw [List.drop_drop]
  have e3 : cs.drop 35 = (cs.drop 32).drop 3 := by rw [List.drop_drop]
  have e4 : cs.drop 36 = (cs.drop 32).drop 4 := by rw [List.drop_drop]
  have e5 : cs.drop 37 = (cs.drop 32).drop 5 := by rw [List.drop_drop]
  have e6 : cs.drop 38 = (cs.drop 32).drop 6 := by rw [List.drop_drop]
  rw [e1] at h2
  rw [e2] at h3
  rw [e3] at h4
  rw [e4] at h5
  rw [e5] at h6
  rw [e6] at h7
  generalize cs.drop 32 = D at h1 h2 h3 h4 h5 h6 h7 hd
  match D, hd with
  | [d0, d1, d2, d3, d4, d5, d6], _ =>
    simp only [List.drop_succ_cons, List.drop_zero, List.take_succ_cons, List.take_zero, List.cons.injEq, and_true] at h1 h2 h3 h4 h5 h6 h7
    subst h1 h2 h3 h4 h5 h6 h7
    rfl
theorem McG.step {w w' : World} {m : Mc} (h : McG w m) (hb : Below w.heap.size w w') : McG w' m := ⟨h.ok, h.tab.below hb h.tab.size, h.mem.step hb, h.nil⟩
theorem Mc.run_home {m : Mc} {A : Option Addr} {c : Nat} : ∀ n, (m.home A c).run n = (m.run n).home A c
  | 0 => rfl
  | n + 1 => by show ((m.home A c).run n).step = ((m.run n).step).home A c; rw [Mc.run_home n, Mc.step_home]
theorem msame_homes (m : Mc) (A A' : Option Addr) (c c' : Nat) {w : World} (hm : m.Ok) (hM : Mem w w.heap.size A c m.mem) (hM' : Mem w w.heap.size A' c' m.mem) :
    Calls Tryd.prog 21 #[.agg (m.home A c).cells.toArray, .agg (m.home A' c').cells.toArray] w fun e w' => e = .returned (.bool true) ∧ Below w.heap.size w w' :=
  msame_any (m.home A c) A' c' hm.home hM hM'
theorem Mc.home_home {m : Mc} {A A' : Option Addr} {c c' : Nat} : (m.home A c).home A' c' = m.home A' c' := rfl
theorem few_reg {m : Mc} (h : fewB m = true) : m.reg 0 = 0 := by
  unfold fewB at h
  simp only [Bool.and_eq_true, decide_eq_true_eq] at h
  exact h.2
end Go.Proofs.YtajhehmkdlebbaaDoor
