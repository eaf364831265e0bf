/- rv.Step: a machine that does not run, where nothing is fetched, what only reckons. rv.Step: loads. rv.Step: stores. -/
import Derived.Test.YtajhehmkdlebbaaDoorQRvStep0
namespace Go.Proofs.YtajhehmkdlebbaaDoor
open Go.ChangeShapes Go.WideShapes Go.ChangeAt Go.RowKit Go.Deep
set_option maxRecDepth 100000
attribute [-go_sem] loadVar storeVar
set_option maxHeartbeats 4000000 in
theorem step_stopped (m : Mc) {w : World} (hG : McG w m) (hs : m.state ≠ 0) :
    Calls Tryd.prog 22 #[.agg m.cells.toArray] w (Comes w m) := by
  have hm := hG.ok
  have hl := hm.len
  obtain ⟨W1, W2, h1, h2, s1, s2, x1, x2, b2⟩ := mach_start m w
  have c36 := (x1.tail hl).2.2.2.2.1
  have q36 : (m.state == 0) = false := neq_kind hs
  have l2 := x1.loadVar hl
  obtain ⟨Wc, hc, lc, bc⟩ := mach_out (m := m) x2 rfl hl
  have hfin := Lib.hid (b2.trans bc)
  have HG := Lib.hid hG
  clear x1 x2 b2 bc hG hm hs
  go_enter Tryd.func22, Tryd.ntmps22
  go_wp2
  refine bodyPost_ret (v := .agg m.cells.toArray) ?_ rfl (Comes.same HG.out.mem HG.out.nil rfl rfl rfl hfin.out rfl)
  simp [results, Tryd.results22, go_sem, lc]
set_option maxHeartbeats 4000000 in
theorem step_none (m : Mc) {w : World} (hG : McG w m) (hs : m.state = 0) (hf : m.tick.fetch = none) :
    Calls Tryd.prog 22 #[.agg m.cells.toArray] w (Comes w m.tick.trap) := by
  have hm := hG.ok
  have hl := hm.len
  obtain ⟨W1, W2, h1, h2, s1, s2, x1, x2, b2⟩ := mach_start m w
  have c36 := (x1.tail hl).2.2.2.2.1
  rw [hs] at c36
  have c38 := (x1.tail hl).2.2.2.2.2.2
  have f38 := x1.frz 38
  obtain ⟨m1, hm1⟩ : ∃ m1, m1 = m.tick := ⟨_, rfl⟩
  rw [← hm1] at hf ⊢
  have ok1 : m1.Ok := by rw [hm1]; exact hm.tick
  have hl1 := ok1.len
  obtain ⟨W3, h3, x3, s3, b3, o3⟩ := x1.step (m' := m1) ((Mc.setSteps hl _).trans (by rw [hm1]; rfl))
  have x3z := o3 _ _ (by omega) x2
  have l3 := x3.loadVar hl1
  obtain ⟨W4, h4, s4, x4t, b4, o4⟩ := mach_more W3
  rw [s3, s2] at s4 x4t b4
  obtain ⟨W5, h5, x5t, s5, b5, o5⟩ := x4t.lay rfl m1 hl1
  have e36 := (x5t.tail hl1).2.2.2.2.1
  have f36 := x5t.frz 36
  obtain ⟨W6, h6, x6t, s6, b6, o6⟩ := x5t.step (m' := m1.trap) (Mc.setState hl1 2)
  have x6 := o6 _ _ (by omega) (o5 _ _ (by omega) (o4 _ _ x3))
  have x6z := o6 _ _ (by omega) (o5 _ _ (by omega) (o4 _ _ x3z))
  have l6 := x6.loadVar hl1
  have B6 := (((b2.trans b3).trans (b4.mono (by omega))).trans (b5.mono (by omega))).trans (b6.mono (by omega))
  have hz : W3.heap.size = w.heap.size + 1 + 1 := by omega
  have hM6 := Sl.In.below hG.mem B6
  have hT6 := hG.tab.below B6 hG.tab.size
  have e1 : m1.a = m.a ∧ m1.cap = m.cap ∧ m1.mem = m.mem := by subst hm1; exact ⟨rfl, rfl, rfl⟩
  have e2 : m1.out = m.out := by subst hm1; rfl
  rw [← e1.1, ← e1.2.1, ← e1.2.2] at hM6
  have HM6 := Lib.hid hM6
  have HT6 := Lib.hid hT6
  have HB6 := Lib.hid B6
  have HX := Lib.hid x6
  have HXZ := Lib.hid x6z
  have HXT := Lib.hid x6t
  have HOK := Lib.hid ok1
  have HE1 := Lib.hid e1
  have HE2 := Lib.hid e2
  have HG := Lib.hid hG
  have hz6 : W6.heap.size = w.heap.size + 1 + 1 + 1 := by omega
  have HF := Lib.hid hf
  have ht0 := hT6.size
  have htw := hG.tab.size
  clear hM6 hT6 B6 x1 x2 b2 x3 x3z b3 o3 x4t b4 o4 x5t b5 o5 x6 x6z x6t b6 o6 ok1 e1 e2 hG hf hm hm1 hs
  go_enter Tryd.func22, Tryd.ntmps22
  go_wp2_with fail
  refine (fetch_any m1 HOK.out HT6.out (HM6.out.more (by omega))).mono ?_
  rintro e w7 ⟨rfl, hb7⟩
  have hz7 := hb7.size
  obtain ⟨W8, h8, s8, y8, b8, o8⟩ := op_new w7
  have B7 := HB6.out.trans (hb7.mono (by omega))
  have x8 := o8 _ _ (HX.out.below hb7 (by omega))
  have x8z := o8 _ _ (HXZ.out.below hb7 (by omega))
  have x8t := o8 _ _ (HXT.out.below hb7 (by omega))
  have hv : m1.fetchO.v = .agg #[.int .i64 0, .int .i64 0, .int .i64 0, .int .i64 0, .int .i64 0] := by unfold Mc.fetchO; rw [HF.out]; rfl
  rw [hv, HF.out]
  obtain ⟨W9, h9, y9, s9, b9, o9⟩ := y8.lay OpD.zero
  unfold OpD.zero at h9
  have x9z := o9 _ _ (by omega) x8z
  have l9t := (o9 _ _ (by omega) x8t).loadVar (m := m1.trap) hl1
  obtain ⟨Wc, hc, lc, bc⟩ := mach_out (m := m1.trap) x9z rfl hl1
  have hfin := Lib.hid (((B7.trans (b8.mono (by omega))).trans (b9.mono (by omega))).trans bc)
  clear hb7 B7 b8 x8 x8z x8t o8 y8 y9 b9 o9 x9z bc
  go_wp2
  refine bodyPost_ret (v := .agg m1.trap.cells.toArray) ?_ rfl (Comes.same (m' := m1.trap) HG.out.mem HG.out.nil HE1.out.2.2 HE1.out.1 HE1.out.2.1 hfin.out rfl)
  simp [results, Tryd.results22, go_sem, lc]

set_option maxHeartbeats 4000000 in
theorem step_kd (m : Mc) {w : World} (hG : McG w m) (k : Int) (hk : k ≠ 31 ∧ ¬ (19 ≤ k ∧ k ≤ 26) ∧ k ≠ 29 ∧ k ≠ 30) (rd ra rb : Nat) (hrd : rd < 32) (hra : ra < 32) (hrb : rb < 32) (imm : Int) (hs : m.state = 0) (hf : m.tick.fetch = some ⟨k, rd, ra, rb, imm⟩) :
    Calls Tryd.prog 22 #[.agg m.cells.toArray] w (Comes w (m.tick.exec ⟨k, rd, ra, rb, imm⟩)) := by
  have n31 : (k == 31) = false := neq_kind (by omega)
  have n19 : (k == 19) = false := neq_kind (by omega)
  have n20 : (k == 20) = false := neq_kind (by omega)
  have n21 : (k == 21) = false := neq_kind (by omega)
  have n22 : (k == 22) = false := neq_kind (by omega)
  have n23 : (k == 23) = false := neq_kind (by omega)
  have n24 : (k == 24) = false := neq_kind (by omega)
  have n25 : (k == 25) = false := neq_kind (by omega)
  have n26 : (k == 26) = false := neq_kind (by omega)
  have n29 : (k == 29) = false := neq_kind (by omega)
  have n30 : (k == 30) = false := neq_kind (by omega)
  have HK := Lib.hid hk
  clear hk
  have hm := hG.ok
  have hl := hm.len
  obtain ⟨W1, W2, h1, h2, s1, s2, x1, x2, b2⟩ := mach_start m w
  have c36 := (x1.tail hl).2.2.2.2.1
  rw [hs] at c36
  have c38 := (x1.tail hl).2.2.2.2.2.2
  have f38 := x1.frz 38
  obtain ⟨m1, hm1⟩ : ∃ m1, m1 = m.tick := ⟨_, rfl⟩
  rw [← hm1] at hf ⊢
  have ok1 : m1.Ok := by rw [hm1]; exact hm.tick
  have hl1 := ok1.len
  obtain ⟨W3, h3, x3, s3, b3, o3⟩ := x1.step (m' := m1) ((Mc.setSteps hl _).trans (by rw [hm1]; rfl))
  have x3z := o3 _ _ (by omega) x2
  have l3 := x3.loadVar hl1
  obtain ⟨W4, h4, s4, x4t, b4, o4⟩ := mach_more W3
  rw [s3, s2] at s4 x4t b4
  obtain ⟨W5, h5, x5t, s5, b5, o5⟩ := x4t.lay rfl m1 hl1
  have e36 := (x5t.tail hl1).2.2.2.2.1
  have f36 := x5t.frz 36
  obtain ⟨W6, h6, x6t, s6, b6, o6⟩ := x5t.step (m' := m1.trap) (Mc.setState hl1 2)
  have x6 := o6 _ _ (by omega) (o5 _ _ (by omega) (o4 _ _ x3))
  have x6z := o6 _ _ (by omega) (o5 _ _ (by omega) (o4 _ _ x3z))
  have l6 := x6.loadVar hl1
  have B6 := (((b2.trans b3).trans (b4.mono (by omega))).trans (b5.mono (by omega))).trans (b6.mono (by omega))
  have hz : W3.heap.size = w.heap.size + 1 + 1 := by omega
  have hM6 := Sl.In.below hG.mem B6
  have hT6 := hG.tab.below B6 hG.tab.size
  have e1 : m1.a = m.a ∧ m1.cap = m.cap ∧ m1.mem = m.mem := by subst hm1; exact ⟨rfl, rfl, rfl⟩
  have e2 : m1.out = m.out := by subst hm1; rfl
  rw [← e1.1, ← e1.2.1, ← e1.2.2] at hM6
  have HM6 := Lib.hid hM6
  have HT6 := Lib.hid hT6
  have HB6 := Lib.hid B6
  have HX := Lib.hid x6
  have HXZ := Lib.hid x6z
  have HXT := Lib.hid x6t
  have HOK := Lib.hid ok1
  have HE1 := Lib.hid e1
  have HE2 := Lib.hid e2
  have HG := Lib.hid hG
  have hz6 : W6.heap.size = w.heap.size + 1 + 1 + 1 := by omega
  have HF := Lib.hid hf
  have ht0 := hT6.size
  have htw := hG.tab.size
  clear hM6 hT6 B6 x1 x2 b2 x3 x3z b3 o3 x4t b4 o4 x5t b5 o5 x6 x6z x6t b6 o6 ok1 e1 e2 hG hf hm hm1 hs
  go_enter Tryd.func22, Tryd.ntmps22
  go_wp2_with fail
  refine (fetch_any m1 HOK.out HT6.out (HM6.out.more (by omega))).mono ?_
  rintro e w7 ⟨rfl, hb7⟩
  have hz7 := hb7.size
  obtain ⟨W8, h8, s8, y8, b8, o8⟩ := op_new w7
  have B7 := HB6.out.trans (hb7.mono (by omega))
  have x8 := o8 _ _ (HX.out.below hb7 (by omega))
  have x8z := o8 _ _ (HXZ.out.below hb7 (by omega))
  have x8t := o8 _ _ (HXT.out.below hb7 (by omega))
  have hv : m1.fetchO.v = .agg #[.int .i64 k, .int .i64 rd, .int .i64 ra, .int .i64 rb, .int .i64 imm] := by unfold Mc.fetchO; rw [HF.out]; rfl
  rw [hv, HF.out]
  obtain ⟨W9, h9, y9, s9, b9, o9⟩ := y8.lay ⟨k, rd, ra, rb, imm⟩
  have B9 := (B7.trans (b8.mono (by omega))).trans (b9.mono (by omega))
  have x9 := o9 _ _ (by omega) x8
  have x9z := o9 _ _ (by omega) x8z
  have x9t := o9 _ _ (by omega) x8t
  have hz9 : w7.heap.size < W9.heap.size := by omega
  obtain ⟨c0, c1, c2, c3, c4⟩ := y9.cells
  have r1 := x9.reg hl1 (i := ra) (by omega)
  have r2 := x9.reg hl1 (i := rb) (by omega)
  have j0 : (0 : Int) ≤ (ra : Int) := by omega
  have j1 : (ra : Int) < 32 := by omega
  have j2 : (0 : Int) ≤ (rb : Int) := by omega
  have j3 : (rb : Int) < 32 := by omega
  obtain ⟨va, hva⟩ : ∃ v, v = m1.x.getD ra 0 := ⟨_, rfl⟩
  obtain ⟨vb, hvb⟩ : ∃ v, v = m1.x.getD rb 0 := ⟨_, rfl⟩
  rw [← hva] at r1
  rw [← hvb] at r2
  have eva : m1.reg ra = va := by rw [hva]; rfl
  have evb : m1.reg rb = vb := by rw [hvb]; rfl
  have ua : U64 va := by rw [← eva]; exact HOK.out.reg _
  have ub : U64 vb := by rw [← evb]; exact HOK.out.reg _
  have HVA := Lib.hid eva
  have HVB := Lib.hid evb
  have HUA := Lib.hid ua
  have HUB := Lib.hid ub
  have HX9 := Lib.hid x9
  have HX9Z := Lib.hid x9z
  have HX9T := Lib.hid x9t
  have HB9 := Lib.hid B9
  have HY9 := Lib.hid y9
  have p9 := (x9.tail hl1).1
  have q9 := (x9.tail hl1).2.1
  obtain ⟨imu, himu⟩ : ∃ v, IntKind.u64.wrap imm = v := ⟨_, rfl⟩
  obtain ⟨at_, hat⟩ : ∃ v, IntKind.u64.wrap (va + imu) = v := ⟨_, rfl⟩
  obtain ⟨nx, hnx⟩ : ∃ v, IntKind.u64.wrap (m1.pc + 4) = v := ⟨_, rfl⟩
  have HAT := Lib.hid (show m1.at_ ⟨k, rd, ra, rb, imm⟩ = at_ by rw [← hat, ← himu, ← eva]; rfl)
  have HNX := Lib.hid (show m1.next = nx from hnx)
  have HIM := Lib.hid himu
  have HT9 := Lib.hid (HG.out.tab.below B9 htw)
  have HM9 := Lib.hid (show Mem W9 w.heap.size m1.a m1.cap m1.mem by rw [HE1.out.1, HE1.out.2.1, HE1.out.2.2]; exact Sl.In.below HG.out.mem B9)
  clear hb7 B7 b8 x8 x8z x8t o8 y8 y9 b9 o9 x9 x9z x9t B9 eva evb ua ub hva hvb
  go_wp2
  go_region
  obtain ⟨W, hW⟩ : ∃ W, W9.drew = W := ⟨_, rfl⟩
  rw [hW]
  have X := Lib.hid (show MB W w.heap.size m1 by rw [← hW]; exact HX9.out)
  have XZ := Lib.hid (show MB W (w.heap.size + 1) Mc.zero by rw [← hW]; exact HX9Z.out)
  have XT := Lib.hid (show MB W (w.heap.size + 1 + 1) m1.trap by rw [← hW]; exact HX9T.out)
  have Y := Lib.hid (show OB W w7.heap.size ⟨k, rd, ra, rb, imm⟩ by rw [← hW]; exact HY9.out)
  have BW := Lib.hid (show Below w.heap.size w W by rw [← hW]; exact HB9.out.drew)
  have TW := Lib.hid (show Tab W by rw [← hW]; exact HT9.out)
  have MW := Lib.hid (show Mem W w.heap.size m1.a m1.cap m1.mem by rw [← hW]; exact HM9.out)
  have hzW : w7.heap.size < W.heap.size := by rw [← hW]; exact hz9
  clear c0 c1 c2 c3 c4 p9 q9 r1 r2 j0 j1 j2 j3 h9 h8 h6 h5 h4 h3 h2 h1 l3 l6 hz9 s8 s9 c36 c38 f38 e36 f36 HX9 HX9Z HX9T HY9 HB9 HT9 HM9 hW hv HX HXZ HXT HM6 HT6 HB6 hz
  obtain ⟨c0, c1, c2, c3, c4⟩ := Y.out.cells
  have p9 := (X.out.tail hl1).1
  have q9 := (X.out.tail hl1).2.1
  have l4 := Y.out.load
  have f33 := X.out.frz 33
  obtain ⟨dv, hdv⟩ : ∃ v, doesF k imm va vb m1.pc = v := ⟨_, rfl⟩
  have HDV := Lib.hid hdv
  clear hdv
  go_wp2_with fail
  refine (does_any k rd ra rb imm va vb m1.pc W HUA.out HUB.out).mono ?_
  rintro e w11 ⟨rfl, hb11⟩
  rw [HDV.out]
  have BX := Lib.hid (BW.out.trans (hb11.mono (by omega)))
  have X1 := Lib.hid (X.out.below hb11 (by omega))
  have XZ1 := Lib.hid (XZ.out.below hb11 (by omega))
  have Y1 := Y.out.below hb11 (by omega)
  have hz11 := hb11.size
  clear c0 c1 c2 c3 c4 p9 q9 l4 f33 hb11
  by_cases h0 : rd = 0
  · subst h0
    obtain ⟨c0, c1, c2, c3, c4⟩ := Y1.cells
    have p9 := (X1.out.tail hl1).1
    go_wp2_with fail
    refine (set_zero dv (by simpa using c1)).mono ?_
    rintro e w12 ⟨rfl, rfl⟩
    obtain ⟨Wa, Wb, Wc, R, hR, ha, hb, ⟨u0, hu0⟩, f0, hpc, f32, lb, hc, lc, bc, only⟩ := mach_end X1.out hl1 XZ1.out rfl nx
    have HEX := Lib.hid (show m1.exec ⟨k, (0 : Nat), ra, rb, imm⟩ = R by rw [exec_do (by have := HK.out; exact ⟨this.1, this.2.1⟩), hR, HVA.out, HVB.out, HDV.out]; exact (congrArg (fun q : Mc => ({ q with pc := _ } : Mc)) (put_put0 dv)).trans (by unfold Mc.goto; rw [if_neg HK.out.2.2.1, if_neg HK.out.2.2.2, HNX.out]))
    have hfin := Lib.hid (BX.out.trans bc)
    have HRR := Lib.hid hR
    clear bc hR
    go_wp2
    refine bodyPost_ret (v := .agg R.cells.toArray) ?_ rfl ?_
    · simp [results, Tryd.results22, go_sem, lc]
    · rw [HEX.out]
      exact Comes.same (m' := R) HG.out.mem HG.out.nil (by rw [HRR.out]; exact HE1.out.2.2) (by rw [HRR.out]; exact HE1.out.1) (by rw [HRR.out]; exact HE1.out.2.1) hfin.out rfl
  · obtain ⟨c0, c1, c2, c3, c4⟩ := Y1.cells
    have p9 := (X1.out.tail hl1).1
    go_wp2_with fail
    refine (set_pos rd dv X1.out hl1 c1 (by omega) hrd).mono ?_
    rintro e w12 ⟨rfl, hw12⟩
    obtain ⟨w13, h13, x13, _, b13, o13⟩ := X1.out.step (m' := m1.put rd dv) (Mc.setReg hl1 hrd dv)
    rw [hw12, h13]
    have hl13 : (m1.put rd dv).x.length = 32 := by rw [Mc.put_len]; exact hl1
    have x13z := o13 _ _ (by omega) XZ1.out
    have BX := Lib.hid (BX.out.trans b13)
    have Y2 : OB w13 w7.heap.size ⟨k, rd, ra, rb, imm⟩ := by rw [← h13]; exact Y1.other (by show w7.heap.size ≠ w.heap.size; omega) _
    obtain ⟨c0, c1, c2, c3, c4⟩ := Y2.cells
    have p9 : w13.cell? ⟨w.heap.size, 32, none⟩ = some (.int .u64 m1.pc) := (x13.tail hl13).1
    obtain ⟨Wa, Wb, Wc, R, hR, ha, hb, ⟨u0, hu0⟩, f0, hpc, f32, lb, hc, lc, bc, only⟩ := mach_end x13 hl13 x13z rfl nx
    have HEX := Lib.hid (show m1.exec ⟨k, rd, ra, rb, imm⟩ = R by rw [exec_do (by have := HK.out; exact ⟨this.1, this.2.1⟩), hR, HVA.out, HVB.out, HDV.out]; exact (by unfold Mc.goto; rw [if_neg HK.out.2.2.1, if_neg HK.out.2.2.2, HNX.out]))
    clear x13 x13z b13 o13 hw12
    have hfin := Lib.hid (BX.out.trans bc)
    have HRR := Lib.hid hR
    clear bc hR
    go_wp2
    refine bodyPost_ret (v := .agg R.cells.toArray) ?_ rfl ?_
    · simp [results, Tryd.results22, go_sem, lc]
    · rw [HEX.out]
      exact Comes.same (m' := R) HG.out.mem HG.out.nil (by rw [HRR.out]; exact HE1.out.2.2) (by rw [HRR.out]; exact HE1.out.1) (by rw [HRR.out]; exact HE1.out.2.1) hfin.out rfl

end Go.Proofs.YtajhehmkdlebbaaDoor
namespace Go.Proofs.YtajhehmkdlebbaaDoor
open Go.ChangeShapes Go.WideShapes Go.ChangeAt Go.RowKit Go.Deep
set_option maxRecDepth 100000
attribute [-go_sem] loadVar storeVar
set_option maxHeartbeats 4000000 in
theorem step_k19 (m : Mc) {w : World} (hG : McG w m) (rd ra rb : Nat) (hrd : rd < 32) (hra : ra < 32) (hrb : rb < 32) (imm : Int) (hs : m.state = 0) (hf : m.tick.fetch = some ⟨19, rd, ra, rb, imm⟩) :
    Calls Tryd.prog 22 #[.agg m.cells.toArray] w (Comes w (m.tick.exec ⟨19, rd, ra, rb, imm⟩)) := by
  have hm := hG.ok
  have hl := hm.len
  obtain ⟨W1, W2, h1, h2, s1, s2, x1, x2, b2⟩ := mach_start m w
  have c36 := (x1.tail hl).2.2.2.2.1
  rw [hs] at c36
  have c38 := (x1.tail hl).2.2.2.2.2.2
  have f38 := x1.frz 38
  obtain ⟨m1, hm1⟩ : ∃ m1, m1 = m.tick := ⟨_, rfl⟩
  rw [← hm1] at hf ⊢
  have ok1 : m1.Ok := by rw [hm1]; exact hm.tick
  have hl1 := ok1.len
  obtain ⟨W3, h3, x3, s3, b3, o3⟩ := x1.step (m' := m1) ((Mc.setSteps hl _).trans (by rw [hm1]; rfl))
  have x3z := o3 _ _ (by omega) x2
  have l3 := x3.loadVar hl1
  obtain ⟨W4, h4, s4, x4t, b4, o4⟩ := mach_more W3
  rw [s3, s2] at s4 x4t b4
  obtain ⟨W5, h5, x5t, s5, b5, o5⟩ := x4t.lay rfl m1 hl1
  have e36 := (x5t.tail hl1).2.2.2.2.1
  have f36 := x5t.frz 36
  obtain ⟨W6, h6, x6t, s6, b6, o6⟩ := x5t.step (m' := m1.trap) (Mc.setState hl1 2)
  have x6 := o6 _ _ (by omega) (o5 _ _ (by omega) (o4 _ _ x3))
  have x6z := o6 _ _ (by omega) (o5 _ _ (by omega) (o4 _ _ x3z))
  have l6 := x6.loadVar hl1
  have B6 := (((b2.trans b3).trans (b4.mono (by omega))).trans (b5.mono (by omega))).trans (b6.mono (by omega))
  have hz : W3.heap.size = w.heap.size + 1 + 1 := by omega
  have hM6 := Sl.In.below hG.mem B6
  have hT6 := hG.tab.below B6 hG.tab.size
  have e1 : m1.a = m.a ∧ m1.cap = m.cap ∧ m1.mem = m.mem := by subst hm1; exact ⟨rfl, rfl, rfl⟩
  have e2 : m1.out = m.out := by subst hm1; rfl
  rw [← e1.1, ← e1.2.1, ← e1.2.2] at hM6
  have HM6 := Lib.hid hM6
  have HT6 := Lib.hid hT6
  have HB6 := Lib.hid B6
  have HX := Lib.hid x6
  have HXZ := Lib.hid x6z
  have HXT := Lib.hid x6t
  have HOK := Lib.hid ok1
  have HE1 := Lib.hid e1
  have HE2 := Lib.hid e2
  have HG := Lib.hid hG
  have hz6 : W6.heap.size = w.heap.size + 1 + 1 + 1 := by omega
  have HF := Lib.hid hf
  have ht0 := hT6.size
  have htw := hG.tab.size
  clear hM6 hT6 B6 x1 x2 b2 x3 x3z b3 o3 x4t b4 o4 x5t b5 o5 x6 x6z x6t b6 o6 ok1 e1 e2 hG hf hm hm1 hs
  go_enter Tryd.func22, Tryd.ntmps22
  go_wp2_with fail
  refine (fetch_any m1 HOK.out HT6.out (HM6.out.more (by omega))).mono ?_
  rintro e w7 ⟨rfl, hb7⟩
  have hz7 := hb7.size
  obtain ⟨W8, h8, s8, y8, b8, o8⟩ := op_new w7
  have B7 := HB6.out.trans (hb7.mono (by omega))
  have x8 := o8 _ _ (HX.out.below hb7 (by omega))
  have x8z := o8 _ _ (HXZ.out.below hb7 (by omega))
  have x8t := o8 _ _ (HXT.out.below hb7 (by omega))
  have hv : m1.fetchO.v = .agg #[.int .i64 19, .int .i64 rd, .int .i64 ra, .int .i64 rb, .int .i64 imm] := by unfold Mc.fetchO; rw [HF.out]; rfl
  rw [hv, HF.out]
  obtain ⟨W9, h9, y9, s9, b9, o9⟩ := y8.lay ⟨19, rd, ra, rb, imm⟩
  have B9 := (B7.trans (b8.mono (by omega))).trans (b9.mono (by omega))
  have x9 := o9 _ _ (by omega) x8
  have x9z := o9 _ _ (by omega) x8z
  have x9t := o9 _ _ (by omega) x8t
  have hz9 : w7.heap.size < W9.heap.size := by omega
  obtain ⟨c0, c1, c2, c3, c4⟩ := y9.cells
  have r1 := x9.reg hl1 (i := ra) (by omega)
  have r2 := x9.reg hl1 (i := rb) (by omega)
  have j0 : (0 : Int) ≤ (ra : Int) := by omega
  have j1 : (ra : Int) < 32 := by omega
  have j2 : (0 : Int) ≤ (rb : Int) := by omega
  have j3 : (rb : Int) < 32 := by omega
  obtain ⟨va, hva⟩ : ∃ v, v = m1.x.getD ra 0 := ⟨_, rfl⟩
  obtain ⟨vb, hvb⟩ : ∃ v, v = m1.x.getD rb 0 := ⟨_, rfl⟩
  rw [← hva] at r1
  rw [← hvb] at r2
  have eva : m1.reg ra = va := by rw [hva]; rfl
  have evb : m1.reg rb = vb := by rw [hvb]; rfl
  have ua : U64 va := by rw [← eva]; exact HOK.out.reg _
  have ub : U64 vb := by rw [← evb]; exact HOK.out.reg _
  have HVA := Lib.hid eva
  have HVB := Lib.hid evb
  have HUA := Lib.hid ua
  have HUB := Lib.hid ub
  have HX9 := Lib.hid x9
  have HX9Z := Lib.hid x9z
  have HX9T := Lib.hid x9t
  have HB9 := Lib.hid B9
  have HY9 := Lib.hid y9
  have p9 := (x9.tail hl1).1
  have q9 := (x9.tail hl1).2.1
  obtain ⟨imu, himu⟩ : ∃ v, IntKind.u64.wrap imm = v := ⟨_, rfl⟩
  obtain ⟨at_, hat⟩ : ∃ v, IntKind.u64.wrap (va + imu) = v := ⟨_, rfl⟩
  obtain ⟨nx, hnx⟩ : ∃ v, IntKind.u64.wrap (m1.pc + 4) = v := ⟨_, rfl⟩
  have HAT := Lib.hid (show m1.at_ ⟨19, rd, ra, rb, imm⟩ = at_ by rw [← hat, ← himu, ← eva]; rfl)
  have HNX := Lib.hid (show m1.next = nx from hnx)
  have HIM := Lib.hid himu
  have HT9 := Lib.hid (HG.out.tab.below B9 htw)
  have HM9 := Lib.hid (show Mem W9 w.heap.size m1.a m1.cap m1.mem by rw [HE1.out.1, HE1.out.2.1, HE1.out.2.2]; exact Sl.In.below HG.out.mem B9)
  clear hb7 B7 b8 x8 x8z x8t o8 y8 y9 b9 o9 x9 x9z x9t B9 eva evb ua ub hva hvb
  go_wp2
  go_region
  obtain ⟨W, hW⟩ : ∃ W, W9.drew = W := ⟨_, rfl⟩
  rw [hW]
  have X := Lib.hid (show MB W w.heap.size m1 by rw [← hW]; exact HX9.out)
  have XZ := Lib.hid (show MB W (w.heap.size + 1) Mc.zero by rw [← hW]; exact HX9Z.out)
  have XT := Lib.hid (show MB W (w.heap.size + 1 + 1) m1.trap by rw [← hW]; exact HX9T.out)
  have Y := Lib.hid (show OB W w7.heap.size ⟨19, rd, ra, rb, imm⟩ by rw [← hW]; exact HY9.out)
  have BW := Lib.hid (show Below w.heap.size w W by rw [← hW]; exact HB9.out.drew)
  have TW := Lib.hid (show Tab W by rw [← hW]; exact HT9.out)
  have MW := Lib.hid (show Mem W w.heap.size m1.a m1.cap m1.mem by rw [← hW]; exact HM9.out)
  have hzW : w7.heap.size < W.heap.size := by rw [← hW]; exact hz9
  clear c0 c1 c2 c3 c4 p9 q9 r1 r2 j0 j1 j2 j3 h9 h8 h6 h5 h4 h3 h2 h1 l3 l6 hz9 s8 s9 c36 c38 f38 e36 f36 HX9 HX9Z HX9T HY9 HB9 HT9 HM9 hW hv HX HXZ HXT HM6 HT6 HB6 hz
  obtain ⟨c0, c1, c2, c3, c4⟩ := Y.out.cells
  have p9 := (X.out.tail hl1).1
  have q9 := (X.out.tail hl1).2.1
  have l4 := Y.out.load
  have f33 := X.out.frz 33
  obtain ⟨E, hE⟩ : ∃ E, loadE m1.mem at_ 8 4 = E := ⟨_, rfl⟩
  obtain ⟨V, hV⟩ : ∃ V, loadV m1.mem at_ 8 4 = V := ⟨_, rfl⟩
  have HE := Lib.hid hE
  have HV := Lib.hid hV
  clear hE hV
  go_wp2_with fail
  refine (load_any at_ 8 4 MW.out (by omega) HOK.out.wf HOK.out.small).mono ?_
  rintro e w11 ⟨rfl, hb11⟩
  rw [HE.out, HV.out]
  have BX := Lib.hid (BW.out.trans (hb11.mono (by omega)))
  have X1 := Lib.hid (X.out.below hb11 (by omega))
  have XZ1 := Lib.hid (XZ.out.below hb11 (by omega))
  have XT1 := Lib.hid (XT.out.below hb11 (by omega))
  have Y1 := Y.out.below hb11 (by omega)
  have hz11 := hb11.size
  clear c0 c1 c2 c3 c4 p9 q9 l4 f33 hb11
  have HEE := Lib.hid (show loadE m1.mem (m1.at_ ⟨19, rd, ra, rb, imm⟩) (manyR 19) 4 = E by rw [HAT.out, ← HE.out]; rfl)
  have HVV := Lib.hid (show loadV m1.mem (m1.at_ ⟨19, rd, ra, rb, imm⟩) (manyR 19) 4 = V by rw [HAT.out, ← HV.out]; rfl)
  by_cases h0 : rd = 0
  · subst h0
    obtain ⟨c0, c1, c2, c3, c4⟩ := Y1.cells
    have p9 := (X1.out.tail hl1).1
    go_wp2_with fail
    refine (set_zero V (by simpa using c1)).mono ?_
    rintro e w12 ⟨rfl, rfl⟩
    by_cases hE0 : E = 0
    · have q0 : (E == 0) = true := beq_iff_eq.2 hE0
      obtain ⟨Wa, Wb, Wc, R, hR, ha, hb, ⟨u0, hu0⟩, f0, hpc, f32, lb, hc, lc, bc, only⟩ := mach_end X1.out hl1 XZ1.out rfl nx
      have HEX := Lib.hid (show m1.exec ⟨19, (0 : Nat), ra, rb, imm⟩ = R by rw [exec_ld (by simp) (HEE.out.trans hE0), hR, HVV.out, HNX.out]; exact congrArg (fun q : Mc => ({ q with pc := _ } : Mc)) (put_put0 V))
      clear hE0
      have hfin := Lib.hid (BX.out.trans bc)
      have HRR := Lib.hid hR
      clear bc hR
      go_wp2
      refine bodyPost_ret (v := .agg R.cells.toArray) ?_ rfl ?_
      · simp [results, Tryd.results22, go_sem, lc]
      · rw [HEX.out]
        exact Comes.same (m' := R) HG.out.mem HG.out.nil (by rw [HRR.out]; exact HE1.out.2.2) (by rw [HRR.out]; exact HE1.out.1) (by rw [HRR.out]; exact HE1.out.2.1) hfin.out rfl
    · have q0 : (E == 0) = false := beq_eq_false_iff_ne.2 hE0
      have HN := Lib.hid hE0
      clear hE0
      have lt := XT1.out.loadVar (m := m1.trap) hl1
      obtain ⟨Wc, hc, lc, bc⟩ := mach_out (m := m1.trap) XZ1.out rfl hl1
      have HEX := Lib.hid (show m1.exec ⟨19, (0 : Nat), ra, rb, imm⟩ = m1.trap from exec_ld_bad (by simp) (by rw [HEE.out]; exact HN.out))
      have hfin := Lib.hid (BX.out.trans bc)
      clear bc
      go_wp2
      refine bodyPost_ret (v := .agg m1.trap.cells.toArray) ?_ rfl ?_
      · simp [results, Tryd.results22, go_sem, lc]
      · rw [HEX.out]
        exact Comes.same (m' := m1.trap) HG.out.mem HG.out.nil HE1.out.2.2 HE1.out.1 HE1.out.2.1 hfin.out rfl
  · obtain ⟨c0, c1, c2, c3, c4⟩ := Y1.cells
    have p9 := (X1.out.tail hl1).1
    go_wp2_with fail
    refine (set_pos rd V X1.out hl1 c1 (by omega) hrd).mono ?_
    rintro e w12 ⟨rfl, hw12⟩
    obtain ⟨w13, h13, x13, _, b13, o13⟩ := X1.out.step (m' := m1.put rd V) (Mc.setReg hl1 hrd V)
    rw [hw12, h13]
    have hl13 : (m1.put rd V).x.length = 32 := by rw [Mc.put_len]; exact hl1
    have XZ1 := Lib.hid (o13 _ _ (by omega) XZ1.out)
    have XT1 := Lib.hid (o13 _ _ (by omega) XT1.out)
    have BX := Lib.hid (BX.out.trans b13)
    have Y2 : OB w13 w7.heap.size ⟨19, rd, ra, rb, imm⟩ := by rw [← h13]; exact Y1.other (by show w7.heap.size ≠ w.heap.size; omega) _
    obtain ⟨c0, c1, c2, c3, c4⟩ := Y2.cells
    have p9 := (x13.tail hl13).1
    by_cases hE0 : E = 0
    · have q0 : (E == 0) = true := beq_iff_eq.2 hE0
      obtain ⟨Wa, Wb, Wc, R, hR, ha, hb, ⟨u0, hu0⟩, f0, hpc, f32, lb, hc, lc, bc, only⟩ := mach_end x13 hl13 XZ1.out rfl nx
      have HEX := Lib.hid (show m1.exec ⟨19, rd, ra, rb, imm⟩ = R by rw [exec_ld (by simp) (HEE.out.trans hE0), hR, HVV.out, HNX.out])
      clear x13 b13 o13 hw12 hE0
      have hfin := Lib.hid (BX.out.trans bc)
      have HRR := Lib.hid hR
      clear bc hR
      go_wp2
      refine bodyPost_ret (v := .agg R.cells.toArray) ?_ rfl ?_
      · simp [results, Tryd.results22, go_sem, lc]
      · rw [HEX.out]
        exact Comes.same (m' := R) HG.out.mem HG.out.nil (by rw [HRR.out]; exact HE1.out.2.2) (by rw [HRR.out]; exact HE1.out.1) (by rw [HRR.out]; exact HE1.out.2.1) hfin.out rfl
    · have q0 : (E == 0) = false := beq_eq_false_iff_ne.2 hE0
      have HN := Lib.hid hE0
      clear x13 b13 o13 hw12 hE0
      have lt := XT1.out.loadVar (m := m1.trap) hl1
      obtain ⟨Wc, hc, lc, bc⟩ := mach_out (m := m1.trap) XZ1.out rfl hl1
      have HEX := Lib.hid (show m1.exec ⟨19, rd, ra, rb, imm⟩ = m1.trap from exec_ld_bad (by simp) (by rw [HEE.out]; exact HN.out))
      have hfin := Lib.hid (BX.out.trans bc)
      clear bc
      go_wp2
      refine bodyPost_ret (v := .agg m1.trap.cells.toArray) ?_ rfl ?_
      · simp [results, Tryd.results22, go_sem, lc]
      · rw [HEX.out]
        exact Comes.same (m' := m1.trap) HG.out.mem HG.out.nil HE1.out.2.2 HE1.out.1 HE1.out.2.1 hfin.out rfl

set_option maxHeartbeats 4000000 in
theorem step_k20 (m : Mc) {w : World} (hG : McG w m) (rd ra rb : Nat) (hrd : rd < 32) (hra : ra < 32) (hrb : rb < 32) (imm : Int) (hs : m.state = 0) (hf : m.tick.fetch = some ⟨20, rd, ra, rb, imm⟩) :
    Calls Tryd.prog 22 #[.agg m.cells.toArray] w (Comes w (m.tick.exec ⟨20, rd, ra, rb, imm⟩)) := by
  have hm := hG.ok
  have hl := hm.len
  obtain ⟨W1, W2, h1, h2, s1, s2, x1, x2, b2⟩ := mach_start m w
  have c36 := (x1.tail hl).2.2.2.2.1
  rw [hs] at c36
  have c38 := (x1.tail hl).2.2.2.2.2.2
  have f38 := x1.frz 38
  obtain ⟨m1, hm1⟩ : ∃ m1, m1 = m.tick := ⟨_, rfl⟩
  rw [← hm1] at hf ⊢
  have ok1 : m1.Ok := by rw [hm1]; exact hm.tick
  have hl1 := ok1.len
  obtain ⟨W3, h3, x3, s3, b3, o3⟩ := x1.step (m' := m1) ((Mc.setSteps hl _).trans (by rw [hm1]; rfl))
  have x3z := o3 _ _ (by omega) x2
  have l3 := x3.loadVar hl1
  obtain ⟨W4, h4, s4, x4t, b4, o4⟩ := mach_more W3
  rw [s3, s2] at s4 x4t b4
  obtain ⟨W5, h5, x5t, s5, b5, o5⟩ := x4t.lay rfl m1 hl1
  have e36 := (x5t.tail hl1).2.2.2.2.1
  have f36 := x5t.frz 36
  obtain ⟨W6, h6, x6t, s6, b6, o6⟩ := x5t.step (m' := m1.trap) (Mc.setState hl1 2)
  have x6 := o6 _ _ (by omega) (o5 _ _ (by omega) (o4 _ _ x3))
  have x6z := o6 _ _ (by omega) (o5 _ _ (by omega) (o4 _ _ x3z))
  have l6 := x6.loadVar hl1
  have B6 := (((b2.trans b3).trans (b4.mono (by omega))).trans (b5.mono (by omega))).trans (b6.mono (by omega))
  have hz : W3.heap.size = w.heap.size + 1 + 1 := by omega
  have hM6 := Sl.In.below hG.mem B6
  have hT6 := hG.tab.below B6 hG.tab.size
  have e1 : m1.a = m.a ∧ m1.cap = m.cap ∧ m1.mem = m.mem := by subst hm1; exact ⟨rfl, rfl, rfl⟩
  have e2 : m1.out = m.out := by subst hm1; rfl
  rw [← e1.1, ← e1.2.1, ← e1.2.2] at hM6
  have HM6 := Lib.hid hM6
  have HT6 := Lib.hid hT6
  have HB6 := Lib.hid B6
  have HX := Lib.hid x6
  have HXZ := Lib.hid x6z
  have HXT := Lib.hid x6t
  have HOK := Lib.hid ok1
  have HE1 := Lib.hid e1
  have HE2 := Lib.hid e2
  have HG := Lib.hid hG
  have hz6 : W6.heap.size = w.heap.size + 1 + 1 + 1 := by omega
  have HF := Lib.hid hf
  have ht0 := hT6.size
  have htw := hG.tab.size
  clear hM6 hT6 B6 x1 x2 b2 x3 x3z b3 o3 x4t b4 o4 x5t b5 o5 x6 x6z x6t b6 o6 ok1 e1 e2 hG hf hm hm1 hs
  go_enter Tryd.func22, Tryd.ntmps22
  go_wp2_with fail
  refine (fetch_any m1 HOK.out HT6.out (HM6.out.more (by omega))).mono ?_
  rintro e w7 ⟨rfl, hb7⟩
  have hz7 := hb7.size
  obtain ⟨W8, h8, s8, y8, b8, o8⟩ := op_new w7
  have B7 := HB6.out.trans (hb7.mono (by omega))
  have x8 := o8 _ _ (HX.out.below hb7 (by omega))
  have x8z := o8 _ _ (HXZ.out.below hb7 (by omega))
  have x8t := o8 _ _ (HXT.out.below hb7 (by omega))
  have hv : m1.fetchO.v = .agg #[.int .i64 20, .int .i64 rd, .int .i64 ra, .int .i64 rb, .int .i64 imm] := by unfold Mc.fetchO; rw [HF.out]; rfl
  rw [hv, HF.out]
  obtain ⟨W9, h9, y9, s9, b9, o9⟩ := y8.lay ⟨20, rd, ra, rb, imm⟩
  have B9 := (B7.trans (b8.mono (by omega))).trans (b9.mono (by omega))
  have x9 := o9 _ _ (by omega) x8
  have x9z := o9 _ _ (by omega) x8z
  have x9t := o9 _ _ (by omega) x8t
  have hz9 : w7.heap.size < W9.heap.size := by omega
  obtain ⟨c0, c1, c2, c3, c4⟩ := y9.cells
  have r1 := x9.reg hl1 (i := ra) (by omega)
  have r2 := x9.reg hl1 (i := rb) (by omega)
  have j0 : (0 : Int) ≤ (ra : Int) := by omega
  have j1 : (ra : Int) < 32 := by omega
  have j2 : (0 : Int) ≤ (rb : Int) := by omega
  have j3 : (rb : Int) < 32 := by omega
  obtain ⟨va, hva⟩ : ∃ v, v = m1.x.getD ra 0 := ⟨_, rfl⟩
  obtain ⟨vb, hvb⟩ : ∃ v, v = m1.x.getD rb 0 := ⟨_, rfl⟩
  rw [← hva] at r1
  rw [← hvb] at r2
  have eva : m1.reg ra = va := by rw [hva]; rfl
  have evb : m1.reg rb = vb := by rw [hvb]; rfl
  have ua : U64 va := by rw [← eva]; exact HOK.out.reg _
  have ub : U64 vb := by rw [← evb]; exact HOK.out.reg _
  have HVA := Lib.hid eva
  have HVB := Lib.hid evb
  have HUA := Lib.hid ua
  have HUB := Lib.hid ub
  have HX9 := Lib.hid x9
  have HX9Z := Lib.hid x9z
  have HX9T := Lib.hid x9t
  have HB9 := Lib.hid B9
  have HY9 := Lib.hid y9
  have p9 := (x9.tail hl1).1
  have q9 := (x9.tail hl1).2.1
  obtain ⟨imu, himu⟩ : ∃ v, IntKind.u64.wrap imm = v := ⟨_, rfl⟩
  obtain ⟨at_, hat⟩ : ∃ v, IntKind.u64.wrap (va + imu) = v := ⟨_, rfl⟩
  obtain ⟨nx, hnx⟩ : ∃ v, IntKind.u64.wrap (m1.pc + 4) = v := ⟨_, rfl⟩
  have HAT := Lib.hid (show m1.at_ ⟨20, rd, ra, rb, imm⟩ = at_ by rw [← hat, ← himu, ← eva]; rfl)
  have HNX := Lib.hid (show m1.next = nx from hnx)
  have HIM := Lib.hid himu
  have HT9 := Lib.hid (HG.out.tab.below B9 htw)
  have HM9 := Lib.hid (show Mem W9 w.heap.size m1.a m1.cap m1.mem by rw [HE1.out.1, HE1.out.2.1, HE1.out.2.2]; exact Sl.In.below HG.out.mem B9)
  clear hb7 B7 b8 x8 x8z x8t o8 y8 y9 b9 o9 x9 x9z x9t B9 eva evb ua ub hva hvb
  go_wp2
  go_region
  obtain ⟨W, hW⟩ : ∃ W, W9.drew = W := ⟨_, rfl⟩
  rw [hW]
  have X := Lib.hid (show MB W w.heap.size m1 by rw [← hW]; exact HX9.out)
  have XZ := Lib.hid (show MB W (w.heap.size + 1) Mc.zero by rw [← hW]; exact HX9Z.out)
  have XT := Lib.hid (show MB W (w.heap.size + 1 + 1) m1.trap by rw [← hW]; exact HX9T.out)
  have Y := Lib.hid (show OB W w7.heap.size ⟨20, rd, ra, rb, imm⟩ by rw [← hW]; exact HY9.out)
  have BW := Lib.hid (show Below w.heap.size w W by rw [← hW]; exact HB9.out.drew)
  have TW := Lib.hid (show Tab W by rw [← hW]; exact HT9.out)
  have MW := Lib.hid (show Mem W w.heap.size m1.a m1.cap m1.mem by rw [← hW]; exact HM9.out)
  have hzW : w7.heap.size < W.heap.size := by rw [← hW]; exact hz9
  clear c0 c1 c2 c3 c4 p9 q9 r1 r2 j0 j1 j2 j3 h9 h8 h6 h5 h4 h3 h2 h1 l3 l6 hz9 s8 s9 c36 c38 f38 e36 f36 HX9 HX9Z HX9T HY9 HB9 HT9 HM9 hW hv HX HXZ HXT HM6 HT6 HB6 hz
  obtain ⟨c0, c1, c2, c3, c4⟩ := Y.out.cells
  have p9 := (X.out.tail hl1).1
  have q9 := (X.out.tail hl1).2.1
  have l4 := Y.out.load
  have f33 := X.out.frz 33
  obtain ⟨E, hE⟩ : ∃ E, loadE m1.mem at_ 1 4 = E := ⟨_, rfl⟩
  obtain ⟨V, hV⟩ : ∃ V, loadV m1.mem at_ 1 4 = V := ⟨_, rfl⟩
  have HE := Lib.hid hE
  have HV := Lib.hid hV
  clear hE hV
  go_wp2_with fail
  refine (load_any at_ 1 4 MW.out (by omega) HOK.out.wf HOK.out.small).mono ?_
  rintro e w11 ⟨rfl, hb11⟩
  rw [HE.out, HV.out]
  have BX := Lib.hid (BW.out.trans (hb11.mono (by omega)))
  have X1 := Lib.hid (X.out.below hb11 (by omega))
  have XZ1 := Lib.hid (XZ.out.below hb11 (by omega))
  have XT1 := Lib.hid (XT.out.below hb11 (by omega))
  have Y1 := Y.out.below hb11 (by omega)
  have hz11 := hb11.size
  clear c0 c1 c2 c3 c4 p9 q9 l4 f33 hb11
  have HEE := Lib.hid (show loadE m1.mem (m1.at_ ⟨20, rd, ra, rb, imm⟩) (manyR 20) 4 = E by rw [HAT.out, ← HE.out]; rfl)
  have HVV := Lib.hid (show loadV m1.mem (m1.at_ ⟨20, rd, ra, rb, imm⟩) (manyR 20) 4 = V by rw [HAT.out, ← HV.out]; rfl)
  by_cases h0 : rd = 0
  · subst h0
    obtain ⟨c0, c1, c2, c3, c4⟩ := Y1.cells
    have p9 := (X1.out.tail hl1).1
    go_wp2_with fail
    refine (set_zero V (by simpa using c1)).mono ?_
    rintro e w12 ⟨rfl, rfl⟩
    by_cases hE0 : E = 0
    · have q0 : (E == 0) = true := beq_iff_eq.2 hE0
      obtain ⟨Wa, Wb, Wc, R, hR, ha, hb, ⟨u0, hu0⟩, f0, hpc, f32, lb, hc, lc, bc, only⟩ := mach_end X1.out hl1 XZ1.out rfl nx
      have HEX := Lib.hid (show m1.exec ⟨20, (0 : Nat), ra, rb, imm⟩ = R by rw [exec_ld (by simp) (HEE.out.trans hE0), hR, HVV.out, HNX.out]; exact congrArg (fun q : Mc => ({ q with pc := _ } : Mc)) (put_put0 V))
      clear hE0
      have hfin := Lib.hid (BX.out.trans bc)
      have HRR := Lib.hid hR
      clear bc hR
      go_wp2
      refine bodyPost_ret (v := .agg R.cells.toArray) ?_ rfl ?_
      · simp [results, Tryd.results22, go_sem, lc]
      · rw [HEX.out]
        exact Comes.same (m' := R) HG.out.mem HG.out.nil (by rw [HRR.out]; exact HE1.out.2.2) (by rw [HRR.out]; exact HE1.out.1) (by rw [HRR.out]; exact HE1.out.2.1) hfin.out rfl
    · have q0 : (E == 0) = false := beq_eq_false_iff_ne.2 hE0
      have HN := Lib.hid hE0
      clear hE0
      have lt := XT1.out.loadVar (m := m1.trap) hl1
      obtain ⟨Wc, hc, lc, bc⟩ := mach_out (m := m1.trap) XZ1.out rfl hl1
      have HEX := Lib.hid (show m1.exec ⟨20, (0 : Nat), ra, rb, imm⟩ = m1.trap from exec_ld_bad (by simp) (by rw [HEE.out]; exact HN.out))
      have hfin := Lib.hid (BX.out.trans bc)
      clear bc
      go_wp2
      refine bodyPost_ret (v := .agg m1.trap.cells.toArray) ?_ rfl ?_
      · simp [results, Tryd.results22, go_sem, lc]
      · rw [HEX.out]
        exact Comes.same (m' := m1.trap) HG.out.mem HG.out.nil HE1.out.2.2 HE1.out.1 HE1.out.2.1 hfin.out rfl
  · obtain ⟨c0, c1, c2, c3, c4⟩ := Y1.cells
    have p9 := (X1.out.tail hl1).1
    go_wp2_with fail
    refine (set_pos rd V X1.out hl1 c1 (by omega) hrd).mono ?_
    rintro e w12 ⟨rfl, hw12⟩
    obtain ⟨w13, h13, x13, _, b13, o13⟩ := X1.out.step (m' := m1.put rd V) (Mc.setReg hl1 hrd V)
    rw [hw12, h13]
    have hl13 : (m1.put rd V).x.length = 32 := by rw [Mc.put_len]; exact hl1
    have XZ1 := Lib.hid (o13 _ _ (by omega) XZ1.out)
    have XT1 := Lib.hid (o13 _ _ (by omega) XT1.out)
    have BX := Lib.hid (BX.out.trans b13)
    have Y2 : OB w13 w7.heap.size ⟨20, rd, ra, rb, imm⟩ := by rw [← h13]; exact Y1.other (by show w7.heap.size ≠ w.heap.size; omega) _
    obtain ⟨c0, c1, c2, c3, c4⟩ := Y2.cells
    have p9 := (x13.tail hl13).1
    by_cases hE0 : E = 0
    · have q0 : (E == 0) = true := beq_iff_eq.2 hE0
      obtain ⟨Wa, Wb, Wc, R, hR, ha, hb, ⟨u0, hu0⟩, f0, hpc, f32, lb, hc, lc, bc, only⟩ := mach_end x13 hl13 XZ1.out rfl nx
      have HEX := Lib.hid (show m1.exec ⟨20, rd, ra, rb, imm⟩ = R by rw [exec_ld (by simp) (HEE.out.trans hE0), hR, HVV.out, HNX.out])
      clear x13 b13 o13 hw12 hE0
      have hfin := Lib.hid (BX.out.trans bc)
      have HRR := Lib.hid hR
      clear bc hR
      go_wp2
      refine bodyPost_ret (v := .agg R.cells.toArray) ?_ rfl ?_
      · simp [results, Tryd.results22, go_sem, lc]
      · rw [HEX.out]
        exact Comes.same (m' := R) HG.out.mem HG.out.nil (by rw [HRR.out]; exact HE1.out.2.2) (by rw [HRR.out]; exact HE1.out.1) (by rw [HRR.out]; exact HE1.out.2.1) hfin.out rfl
    · have q0 : (E == 0) = false := beq_eq_false_iff_ne.2 hE0
      have HN := Lib.hid hE0
      clear x13 b13 o13 hw12 hE0
      have lt := XT1.out.loadVar (m := m1.trap) hl1
      obtain ⟨Wc, hc, lc, bc⟩ := mach_out (m := m1.trap) XZ1.out rfl hl1
      have HEX := Lib.hid (show m1.exec ⟨20, rd, ra, rb, imm⟩ = m1.trap from exec_ld_bad (by simp) (by rw [HEE.out]; exact HN.out))
      have hfin := Lib.hid (BX.out.trans bc)
      clear bc
      go_wp2
      refine bodyPost_ret (v := .agg m1.trap.cells.toArray) ?_ rfl ?_
      · simp [results, Tryd.results22, go_sem, lc]
      · rw [HEX.out]
        exact Comes.same (m' := m1.trap) HG.out.mem HG.out.nil HE1.out.2.2 HE1.out.1 HE1.out.2.1 hfin.out rfl

end Go.Proofs.YtajhehmkdlebbaaDoor
namespace Go.Proofs.YtajhehmkdlebbaaDoor
open Go.ChangeShapes Go.WideShapes Go.ChangeAt Go.RowKit Go.Deep
set_option maxRecDepth 100000
attribute [-go_sem] loadVar storeVar
set_option maxHeartbeats 4000000 in
theorem step_k21 (m : Mc) {w : World} (hG : McG w m) (rd ra rb : Nat) (_hrd : rd < 32) (hra : ra < 32) (hrb : rb < 32) (imm : Int) (hs : m.state = 0) (hf : m.tick.fetch = some ⟨21, rd, ra, rb, imm⟩) :
    Calls Tryd.prog 22 #[.agg m.cells.toArray] w (Comes w (m.tick.exec ⟨21, rd, ra, rb, imm⟩)) := by
  have hm := hG.ok
  have hl := hm.len
  obtain ⟨W1, W2, h1, h2, s1, s2, x1, x2, b2⟩ := mach_start m w
  have c36 := (x1.tail hl).2.2.2.2.1
  rw [hs] at c36
  have c38 := (x1.tail hl).2.2.2.2.2.2
  have f38 := x1.frz 38
  obtain ⟨m1, hm1⟩ : ∃ m1, m1 = m.tick := ⟨_, rfl⟩
  rw [← hm1] at hf ⊢
  have ok1 : m1.Ok := by rw [hm1]; exact hm.tick
  have hl1 := ok1.len
  obtain ⟨W3, h3, x3, s3, b3, o3⟩ := x1.step (m' := m1) ((Mc.setSteps hl _).trans (by rw [hm1]; rfl))
  have x3z := o3 _ _ (by omega) x2
  have l3 := x3.loadVar hl1
  obtain ⟨W4, h4, s4, x4t, b4, o4⟩ := mach_more W3
  rw [s3, s2] at s4 x4t b4
  obtain ⟨W5, h5, x5t, s5, b5, o5⟩ := x4t.lay rfl m1 hl1
  have e36 := (x5t.tail hl1).2.2.2.2.1
  have f36 := x5t.frz 36
  obtain ⟨W6, h6, x6t, s6, b6, o6⟩ := x5t.step (m' := m1.trap) (Mc.setState hl1 2)
  have x6 := o6 _ _ (by omega) (o5 _ _ (by omega) (o4 _ _ x3))
  have x6z := o6 _ _ (by omega) (o5 _ _ (by omega) (o4 _ _ x3z))
  have l6 := x6.loadVar hl1
  have B6 := (((b2.trans b3).trans (b4.mono (by omega))).trans (b5.mono (by omega))).trans (b6.mono (by omega))
  have hz : W3.heap.size = w.heap.size + 1 + 1 := by omega
  have hM6 := Sl.In.below hG.mem B6
  have hT6 := hG.tab.below B6 hG.tab.size
  have e1 : m1.a = m.a ∧ m1.cap = m.cap ∧ m1.mem = m.mem := by subst hm1; exact ⟨rfl, rfl, rfl⟩
  have e2 : m1.out = m.out := by subst hm1; rfl
  rw [← e1.1, ← e1.2.1, ← e1.2.2] at hM6
  have HM6 := Lib.hid hM6
  have HT6 := Lib.hid hT6
  have HB6 := Lib.hid B6
  have HX := Lib.hid x6
  have HXZ := Lib.hid x6z
  have HXT := Lib.hid x6t
  have HOK := Lib.hid ok1
  have HE1 := Lib.hid e1
  have HE2 := Lib.hid e2
  have HG := Lib.hid hG
  have hz6 : W6.heap.size = w.heap.size + 1 + 1 + 1 := by omega
  have HF := Lib.hid hf
  have ht0 := hT6.size
  have htw := hG.tab.size
  clear hM6 hT6 B6 x1 x2 b2 x3 x3z b3 o3 x4t b4 o4 x5t b5 o5 x6 x6z x6t b6 o6 ok1 e1 e2 hG hf hm hm1 hs
  go_enter Tryd.func22, Tryd.ntmps22
  go_wp2_with fail
  refine (fetch_any m1 HOK.out HT6.out (HM6.out.more (by omega))).mono ?_
  rintro e w7 ⟨rfl, hb7⟩
  have hz7 := hb7.size
  obtain ⟨W8, h8, s8, y8, b8, o8⟩ := op_new w7
  have B7 := HB6.out.trans (hb7.mono (by omega))
  have x8 := o8 _ _ (HX.out.below hb7 (by omega))
  have x8z := o8 _ _ (HXZ.out.below hb7 (by omega))
  have x8t := o8 _ _ (HXT.out.below hb7 (by omega))
  have hv : m1.fetchO.v = .agg #[.int .i64 21, .int .i64 rd, .int .i64 ra, .int .i64 rb, .int .i64 imm] := by unfold Mc.fetchO; rw [HF.out]; rfl
  rw [hv, HF.out]
  obtain ⟨W9, h9, y9, s9, b9, o9⟩ := y8.lay ⟨21, rd, ra, rb, imm⟩
  have B9 := (B7.trans (b8.mono (by omega))).trans (b9.mono (by omega))
  have x9 := o9 _ _ (by omega) x8
  have x9z := o9 _ _ (by omega) x8z
  have x9t := o9 _ _ (by omega) x8t
  have hz9 : w7.heap.size < W9.heap.size := by omega
  obtain ⟨c0, c1, c2, c3, c4⟩ := y9.cells
  have r1 := x9.reg hl1 (i := ra) (by omega)
  have r2 := x9.reg hl1 (i := rb) (by omega)
  have j0 : (0 : Int) ≤ (ra : Int) := by omega
  have j1 : (ra : Int) < 32 := by omega
  have j2 : (0 : Int) ≤ (rb : Int) := by omega
  have j3 : (rb : Int) < 32 := by omega
  obtain ⟨va, hva⟩ : ∃ v, v = m1.x.getD ra 0 := ⟨_, rfl⟩
  obtain ⟨vb, hvb⟩ : ∃ v, v = m1.x.getD rb 0 := ⟨_, rfl⟩
  rw [← hva] at r1
  rw [← hvb] at r2
  have eva : m1.reg ra = va := by rw [hva]; rfl
  have evb : m1.reg rb = vb := by rw [hvb]; rfl
  have ua : U64 va := by rw [← eva]; exact HOK.out.reg _
  have ub : U64 vb := by rw [← evb]; exact HOK.out.reg _
  have HVA := Lib.hid eva
  have HVB := Lib.hid evb
  have HUA := Lib.hid ua
  have HUB := Lib.hid ub
  have HX9 := Lib.hid x9
  have HX9Z := Lib.hid x9z
  have HX9T := Lib.hid x9t
  have HB9 := Lib.hid B9
  have HY9 := Lib.hid y9
  have p9 := (x9.tail hl1).1
  have q9 := (x9.tail hl1).2.1
  obtain ⟨imu, himu⟩ : ∃ v, IntKind.u64.wrap imm = v := ⟨_, rfl⟩
  obtain ⟨at_, hat⟩ : ∃ v, IntKind.u64.wrap (va + imu) = v := ⟨_, rfl⟩
  obtain ⟨nx, hnx⟩ : ∃ v, IntKind.u64.wrap (m1.pc + 4) = v := ⟨_, rfl⟩
  have HAT := Lib.hid (show m1.at_ ⟨21, rd, ra, rb, imm⟩ = at_ by rw [← hat, ← himu, ← eva]; rfl)
  have HNX := Lib.hid (show m1.next = nx from hnx)
  have HIM := Lib.hid himu
  have HT9 := Lib.hid (HG.out.tab.below B9 htw)
  have HM9 := Lib.hid (show Mem W9 w.heap.size m1.a m1.cap m1.mem by rw [HE1.out.1, HE1.out.2.1, HE1.out.2.2]; exact Sl.In.below HG.out.mem B9)
  clear hb7 B7 b8 x8 x8z x8t o8 y8 y9 b9 o9 x9 x9z x9t B9 eva evb ua ub hva hvb
  go_wp2
  go_region
  obtain ⟨W, hW⟩ : ∃ W, W9.drew = W := ⟨_, rfl⟩
  rw [hW]
  have X := Lib.hid (show MB W w.heap.size m1 by rw [← hW]; exact HX9.out)
  have XZ := Lib.hid (show MB W (w.heap.size + 1) Mc.zero by rw [← hW]; exact HX9Z.out)
  have XT := Lib.hid (show MB W (w.heap.size + 1 + 1) m1.trap by rw [← hW]; exact HX9T.out)
  have Y := Lib.hid (show OB W w7.heap.size ⟨21, rd, ra, rb, imm⟩ by rw [← hW]; exact HY9.out)
  have BW := Lib.hid (show Below w.heap.size w W by rw [← hW]; exact HB9.out.drew)
  have TW := Lib.hid (show Tab W by rw [← hW]; exact HT9.out)
  have MW := Lib.hid (show Mem W w.heap.size m1.a m1.cap m1.mem by rw [← hW]; exact HM9.out)
  have hzW : w7.heap.size < W.heap.size := by rw [← hW]; exact hz9
  clear c0 c1 c2 c3 c4 p9 q9 r1 r2 j0 j1 j2 j3 h9 h8 h6 h5 h4 h3 h2 h1 l3 l6 hz9 s8 s9 c36 c38 f38 e36 f36 HX9 HX9Z HX9T HY9 HB9 HT9 HM9 hW hv HX HXZ HXT HM6 HT6 HB6 hz
  obtain ⟨c0, c1, c2, c3, c4⟩ := Y.out.cells
  have p9 := (X.out.tail hl1).1
  have q9 := (X.out.tail hl1).2.1
  have l4 := Y.out.load
  have f33 := X.out.frz 33
  obtain ⟨E, hE⟩ : ∃ E, loadE m1.mem at_ 8 2 = E := ⟨_, rfl⟩
  obtain ⟨N, hN⟩ : ∃ N, storeX m1.mem at_ 8 vb = N := ⟨_, rfl⟩
  have HE := Lib.hid hE
  have HN := Lib.hid hN
  have HATB := Lib.hid (show U64 at_ by rw [← HAT.out]; exact U64.wrap _)
  clear hE hN
  go_wp2_with fail
  refine (store_any at_ 8 vb HATB.out MW.out (by rw [HE1.out.1, HE1.out.2.1]; exact HG.out.nil) (by omega) HOK.out.wf HOK.out.small).mono ?_
  rintro e w11 ⟨hb11, u, rfl, A, c, rfl, hMN, hnil⟩
  rw [HE.out, HN.out]
  have BX := Lib.hid (BW.out.trans (hb11.mono (by omega)))
  have X1 := Lib.hid (X.out.below hb11 (by omega))
  have XZ1 := Lib.hid (XZ.out.below hb11 (by omega))
  have XT1 := Lib.hid (XT.out.below hb11 (by omega))
  have Y1 := Y.out.below hb11 (by omega)
  have hz11 := hb11.size
  rw [HN.out] at hMN
  have HMN := Lib.hid hMN
  have HNIL := Lib.hid hnil
  clear c0 c1 c2 c3 c4 p9 q9 l4 f33 hMN hnil
  have HEE := Lib.hid (show loadE m1.mem (m1.at_ ⟨21, rd, ra, rb, imm⟩) (manyW 21) 2 = E by rw [HAT.out, ← HE.out]; rfl)
  have HNN := Lib.hid (show storeX m1.mem (m1.at_ ⟨21, rd, ra, rb, imm⟩) (manyW 21) vb = N by rw [HAT.out, ← HN.out]; rfl)
  have q33 := (X1.out.tail hl1).2.1
  have f33 := X1.out.frz 33
  obtain ⟨mm, hmm⟩ : ∃ mm, mm = ({ m1 with a := A, cap := c, mem := N } : Mc) := ⟨_, rfl⟩
  have hlm : mm.x.length = 32 := by rw [hmm]; exact hl1
  obtain ⟨w12, h12, x12, _, b12, o12⟩ := X1.out.step (m' := mm) ((Mc.setMem hl1 A c N).trans (by rw [hmm]))
  have hpcm : mm.pc = m1.pc := by rw [hmm]
  have HMM := Lib.hid hmm
  have XZ0 := Lib.hid XZ1.out
  have XZ1 := Lib.hid (o12 _ _ (by omega) XZ1.out)
  have XT1 := Lib.hid (o12 _ _ (by omega) XT1.out)
  have BX := Lib.hid (BX.out.trans b12)
  have Y2 : OB w12 w7.heap.size ⟨21, rd, ra, rb, imm⟩ := by rw [← h12]; exact Y1.other (by show w7.heap.size ≠ w.heap.size; omega) _
  obtain ⟨c0, c1, c2, c3, c4⟩ := Y2.cells
  have p9 := (x12.tail hlm).1
  by_cases hE0 : E = 0
  · have q0 : (E == 0) = true := beq_iff_eq.2 hE0
    obtain ⟨Wa, Wb, Wc, R, hR, ha, hb, ⟨u0, hu0⟩, f0, hpc, f32, lb, hc, lc, bc, only⟩ := mach_end x12 hlm XZ1.out rfl nx
    have HEX := Lib.hid (show (m1.exec ⟨21, rd, ra, rb, imm⟩).home A c = R by rw [exec_st (by simp) (HEE.out.trans hE0), hR, HVB.out, HNN.out, HNX.out, hmm]; rfl)
    have KEEP := Lib.hid (mem_keep HMN.out X1.out hl1 XZ0.out rfl (fun j hj hj' => by rw [only j hj hj', ← h12, Below.heap_setCell _ _ _ _ (show j ≠ w.heap.size from hj)]) (by have := bc.size; rw [← h12] at this; simpa using this))
    have hfin := Lib.hid (BX.out.trans bc)
    have HRR := Lib.hid hR
    clear bc hR x12 b12 o12 hE0 only hmm hpcm
    go_wp2
    refine bodyPost_ret (v := .agg R.cells.toArray) ?_ rfl ?_
    · simp [results, Tryd.results22, go_sem, lc]
    · refine ⟨A, c, by rw [HEX.out], hfin.out, ?_, HNIL.out⟩
      have e : (m1.exec ⟨21, rd, ra, rb, imm⟩).mem = N := by
        have := congrArg Mc.mem HEX.out
        rw [HRR.out] at this
        exact this.trans (by rw [HMM.out]; rfl)
      rw [e]
      exact KEEP.out
  · have q0 : (E == 0) = false := beq_eq_false_iff_ne.2 hE0
    have HNE := Lib.hid hE0
    clear x12 b12 o12 hE0 hmm hpcm
    have lt := XT1.out.loadVar (m := m1.trap) hl1
    obtain ⟨Wc, hc, lc, bc⟩ := mach_out (m := m1.trap) XZ1.out rfl hl1
    have HEX := Lib.hid (show m1.exec ⟨21, rd, ra, rb, imm⟩ = m1.trap from exec_st_bad (by simp) (by rw [HEE.out]; exact HNE.out))
    have hfin := Lib.hid (BX.out.trans bc)
    clear bc
    go_wp2
    refine bodyPost_ret (v := .agg m1.trap.cells.toArray) ?_ rfl ?_
    · simp [results, Tryd.results22, go_sem, lc]
    · rw [HEX.out]
      exact Comes.same (m' := m1.trap) HG.out.mem HG.out.nil HE1.out.2.2 HE1.out.1 HE1.out.2.1 hfin.out rfl

set_option maxHeartbeats 4000000 in
theorem step_k22 (m : Mc) {w : World} (hG : McG w m) (rd ra rb : Nat) (_hrd : rd < 32) (hra : ra < 32) (hrb : rb < 32) (imm : Int) (hs : m.state = 0) (hf : m.tick.fetch = some ⟨22, rd, ra, rb, imm⟩) :
    Calls Tryd.prog 22 #[.agg m.cells.toArray] w (Comes w (m.tick.exec ⟨22, rd, ra, rb, imm⟩)) := by
  have hm := hG.ok
  have hl := hm.len
  obtain ⟨W1, W2, h1, h2, s1, s2, x1, x2, b2⟩ := mach_start m w
  have c36 := (x1.tail hl).2.2.2.2.1
  rw [hs] at c36
  have c38 := (x1.tail hl).2.2.2.2.2.2
  have f38 := x1.frz 38
  obtain ⟨m1, hm1⟩ : ∃ m1, m1 = m.tick := ⟨_, rfl⟩
  rw [← hm1] at hf ⊢
  have ok1 : m1.Ok := by rw [hm1]; exact hm.tick
  have hl1 := ok1.len
  obtain ⟨W3, h3, x3, s3, b3, o3⟩ := x1.step (m' := m1) ((Mc.setSteps hl _).trans (by rw [hm1]; rfl))
  have x3z := o3 _ _ (by omega) x2
  have l3 := x3.loadVar hl1
  obtain ⟨W4, h4, s4, x4t, b4, o4⟩ := mach_more W3
  rw [s3, s2] at s4 x4t b4
  obtain ⟨W5, h5, x5t, s5, b5, o5⟩ := x4t.lay rfl m1 hl1
  have e36 := (x5t.tail hl1).2.2.2.2.1
  have f36 := x5t.frz 36
  obtain ⟨W6, h6, x6t, s6, b6, o6⟩ := x5t.step (m' := m1.trap) (Mc.setState hl1 2)
  have x6 := o6 _ _ (by omega) (o5 _ _ (by omega) (o4 _ _ x3))
  have x6z := o6 _ _ (by omega) (o5 _ _ (by omega) (o4 _ _ x3z))
  have l6 := x6.loadVar hl1
  have B6 := (((b2.trans b3).trans (b4.mono (by omega))).trans (b5.mono (by omega))).trans (b6.mono (by omega))
  have hz : W3.heap.size = w.heap.size + 1 + 1 := by omega
  have hM6 := Sl.In.below hG.mem B6
  have hT6 := hG.tab.below B6 hG.tab.size
  have e1 : m1.a = m.a ∧ m1.cap = m.cap ∧ m1.mem = m.mem := by subst hm1; exact ⟨rfl, rfl, rfl⟩
  have e2 : m1.out = m.out := by subst hm1; rfl
  rw [← e1.1, ← e1.2.1, ← e1.2.2] at hM6
  have HM6 := Lib.hid hM6
  have HT6 := Lib.hid hT6
  have HB6 := Lib.hid B6
  have HX := Lib.hid x6
  have HXZ := Lib.hid x6z
  have HXT := Lib.hid x6t
  have HOK := Lib.hid ok1
  have HE1 := Lib.hid e1
  have HE2 := Lib.hid e2
  have HG := Lib.hid hG
  have hz6 : W6.heap.size = w.heap.size + 1 + 1 + 1 := by omega
  have HF := Lib.hid hf
  have ht0 := hT6.size
  have htw := hG.tab.size
  clear hM6 hT6 B6 x1 x2 b2 x3 x3z b3 o3 x4t b4 o4 x5t b5 o5 x6 x6z x6t b6 o6 ok1 e1 e2 hG hf hm hm1 hs
  go_enter Tryd.func22, Tryd.ntmps22
  go_wp2_with fail
  refine (fetch_any m1 HOK.out HT6.out (HM6.out.more (by omega))).mono ?_
  rintro e w7 ⟨rfl, hb7⟩
  have hz7 := hb7.size
  obtain ⟨W8, h8, s8, y8, b8, o8⟩ := op_new w7
  have B7 := HB6.out.trans (hb7.mono (by omega))
  have x8 := o8 _ _ (HX.out.below hb7 (by omega))
  have x8z := o8 _ _ (HXZ.out.below hb7 (by omega))
  have x8t := o8 _ _ (HXT.out.below hb7 (by omega))
  have hv : m1.fetchO.v = .agg #[.int .i64 22, .int .i64 rd, .int .i64 ra, .int .i64 rb, .int .i64 imm] := by unfold Mc.fetchO; rw [HF.out]; rfl
  rw [hv, HF.out]
  obtain ⟨W9, h9, y9, s9, b9, o9⟩ := y8.lay ⟨22, rd, ra, rb, imm⟩
  have B9 := (B7.trans (b8.mono (by omega))).trans (b9.mono (by omega))
  have x9 := o9 _ _ (by omega) x8
  have x9z := o9 _ _ (by omega) x8z
  have x9t := o9 _ _ (by omega) x8t
  have hz9 : w7.heap.size < W9.heap.size := by omega
  obtain ⟨c0, c1, c2, c3, c4⟩ := y9.cells
  have r1 := x9.reg hl1 (i := ra) (by omega)
  have r2 := x9.reg hl1 (i := rb) (by omega)
  have j0 : (0 : Int) ≤ (ra : Int) := by omega
  have j1 : (ra : Int) < 32 := by omega
  have j2 : (0 : Int) ≤ (rb : Int) := by omega
  have j3 : (rb : Int) < 32 := by omega
  obtain ⟨va, hva⟩ : ∃ v, v = m1.x.getD ra 0 := ⟨_, rfl⟩
  obtain ⟨vb, hvb⟩ : ∃ v, v = m1.x.getD rb 0 := ⟨_, rfl⟩
  rw [← hva] at r1
  rw [← hvb] at r2
  have eva : m1.reg ra = va := by rw [hva]; rfl
  have evb : m1.reg rb = vb := by rw [hvb]; rfl
  have ua : U64 va := by rw [← eva]; exact HOK.out.reg _
  have ub : U64 vb := by rw [← evb]; exact HOK.out.reg _
  have HVA := Lib.hid eva
  have HVB := Lib.hid evb
  have HUA := Lib.hid ua
  have HUB := Lib.hid ub
  have HX9 := Lib.hid x9
  have HX9Z := Lib.hid x9z
  have HX9T := Lib.hid x9t
  have HB9 := Lib.hid B9
  have HY9 := Lib.hid y9
  have p9 := (x9.tail hl1).1
  have q9 := (x9.tail hl1).2.1
  obtain ⟨imu, himu⟩ : ∃ v, IntKind.u64.wrap imm = v := ⟨_, rfl⟩
  obtain ⟨at_, hat⟩ : ∃ v, IntKind.u64.wrap (va + imu) = v := ⟨_, rfl⟩
  obtain ⟨nx, hnx⟩ : ∃ v, IntKind.u64.wrap (m1.pc + 4) = v := ⟨_, rfl⟩
  have HAT := Lib.hid (show m1.at_ ⟨22, rd, ra, rb, imm⟩ = at_ by rw [← hat, ← himu, ← eva]; rfl)
  have HNX := Lib.hid (show m1.next = nx from hnx)
  have HIM := Lib.hid himu
  have HT9 := Lib.hid (HG.out.tab.below B9 htw)
  have HM9 := Lib.hid (show Mem W9 w.heap.size m1.a m1.cap m1.mem by rw [HE1.out.1, HE1.out.2.1, HE1.out.2.2]; exact Sl.In.below HG.out.mem B9)
  clear hb7 B7 b8 x8 x8z x8t o8 y8 y9 b9 o9 x9 x9z x9t B9 eva evb ua ub hva hvb
  go_wp2
  go_region
  obtain ⟨W, hW⟩ : ∃ W, W9.drew = W := ⟨_, rfl⟩
  rw [hW]
  have X := Lib.hid (show MB W w.heap.size m1 by rw [← hW]; exact HX9.out)
  have XZ := Lib.hid (show MB W (w.heap.size + 1) Mc.zero by rw [← hW]; exact HX9Z.out)
  have XT := Lib.hid (show MB W (w.heap.size + 1 + 1) m1.trap by rw [← hW]; exact HX9T.out)
  have Y := Lib.hid (show OB W w7.heap.size ⟨22, rd, ra, rb, imm⟩ by rw [← hW]; exact HY9.out)
  have BW := Lib.hid (show Below w.heap.size w W by rw [← hW]; exact HB9.out.drew)
  have TW := Lib.hid (show Tab W by rw [← hW]; exact HT9.out)
  have MW := Lib.hid (show Mem W w.heap.size m1.a m1.cap m1.mem by rw [← hW]; exact HM9.out)
  have hzW : w7.heap.size < W.heap.size := by rw [← hW]; exact hz9
  clear c0 c1 c2 c3 c4 p9 q9 r1 r2 j0 j1 j2 j3 h9 h8 h6 h5 h4 h3 h2 h1 l3 l6 hz9 s8 s9 c36 c38 f38 e36 f36 HX9 HX9Z HX9T HY9 HB9 HT9 HM9 hW hv HX HXZ HXT HM6 HT6 HB6 hz
  obtain ⟨c0, c1, c2, c3, c4⟩ := Y.out.cells
  have p9 := (X.out.tail hl1).1
  have q9 := (X.out.tail hl1).2.1
  have l4 := Y.out.load
  have f33 := X.out.frz 33
  obtain ⟨E, hE⟩ : ∃ E, loadE m1.mem at_ 1 2 = E := ⟨_, rfl⟩
  obtain ⟨N, hN⟩ : ∃ N, storeX m1.mem at_ 1 vb = N := ⟨_, rfl⟩
  have HE := Lib.hid hE
  have HN := Lib.hid hN
  have HATB := Lib.hid (show U64 at_ by rw [← HAT.out]; exact U64.wrap _)
  clear hE hN
  go_wp2_with fail
  refine (store_any at_ 1 vb HATB.out MW.out (by rw [HE1.out.1, HE1.out.2.1]; exact HG.out.nil) (by omega) HOK.out.wf HOK.out.small).mono ?_
  rintro e w11 ⟨hb11, u, rfl, A, c, rfl, hMN, hnil⟩
  rw [HE.out, HN.out]
  have BX := Lib.hid (BW.out.trans (hb11.mono (by omega)))
  have X1 := Lib.hid (X.out.below hb11 (by omega))
  have XZ1 := Lib.hid (XZ.out.below hb11 (by omega))
  have XT1 := Lib.hid (XT.out.below hb11 (by omega))
  have Y1 := Y.out.below hb11 (by omega)
  have hz11 := hb11.size
  rw [HN.out] at hMN
  have HMN := Lib.hid hMN
  have HNIL := Lib.hid hnil
  clear c0 c1 c2 c3 c4 p9 q9 l4 f33 hMN hnil
  have HEE := Lib.hid (show loadE m1.mem (m1.at_ ⟨22, rd, ra, rb, imm⟩) (manyW 22) 2 = E by rw [HAT.out, ← HE.out]; rfl)
  have HNN := Lib.hid (show storeX m1.mem (m1.at_ ⟨22, rd, ra, rb, imm⟩) (manyW 22) vb = N by rw [HAT.out, ← HN.out]; rfl)
  have q33 := (X1.out.tail hl1).2.1
  have f33 := X1.out.frz 33
  obtain ⟨mm, hmm⟩ : ∃ mm, mm = ({ m1 with a := A, cap := c, mem := N } : Mc) := ⟨_, rfl⟩
  have hlm : mm.x.length = 32 := by rw [hmm]; exact hl1
  obtain ⟨w12, h12, x12, _, b12, o12⟩ := X1.out.step (m' := mm) ((Mc.setMem hl1 A c N).trans (by rw [hmm]))
  have hpcm : mm.pc = m1.pc := by rw [hmm]
  have HMM := Lib.hid hmm
  have XZ0 := Lib.hid XZ1.out
  have XZ1 := Lib.hid (o12 _ _ (by omega) XZ1.out)
  have XT1 := Lib.hid (o12 _ _ (by omega) XT1.out)
  have BX := Lib.hid (BX.out.trans b12)
  have Y2 : OB w12 w7.heap.size ⟨22, rd, ra, rb, imm⟩ := by rw [← h12]; exact Y1.other (by show w7.heap.size ≠ w.heap.size; omega) _
  obtain ⟨c0, c1, c2, c3, c4⟩ := Y2.cells
  have p9 := (x12.tail hlm).1
  by_cases hE0 : E = 0
  · have q0 : (E == 0) = true := beq_iff_eq.2 hE0
    obtain ⟨Wa, Wb, Wc, R, hR, ha, hb, ⟨u0, hu0⟩, f0, hpc, f32, lb, hc, lc, bc, only⟩ := mach_end x12 hlm XZ1.out rfl nx
    have HEX := Lib.hid (show (m1.exec ⟨22, rd, ra, rb, imm⟩).home A c = R by rw [exec_st (by simp) (HEE.out.trans hE0), hR, HVB.out, HNN.out, HNX.out, hmm]; rfl)
    have KEEP := Lib.hid (mem_keep HMN.out X1.out hl1 XZ0.out rfl (fun j hj hj' => by rw [only j hj hj', ← h12, Below.heap_setCell _ _ _ _ (show j ≠ w.heap.size from hj)]) (by have := bc.size; rw [← h12] at this; simpa using this))
    have hfin := Lib.hid (BX.out.trans bc)
    have HRR := Lib.hid hR
    clear bc hR x12 b12 o12 hE0 only hmm hpcm
    go_wp2
    refine bodyPost_ret (v := .agg R.cells.toArray) ?_ rfl ?_
    · simp [results, Tryd.results22, go_sem, lc]
    · refine ⟨A, c, by rw [HEX.out], hfin.out, ?_, HNIL.out⟩
      have e : (m1.exec ⟨22, rd, ra, rb, imm⟩).mem = N := by
        have := congrArg Mc.mem HEX.out
        rw [HRR.out] at this
        exact this.trans (by rw [HMM.out]; rfl)
      rw [e]
      exact KEEP.out
  · have q0 : (E == 0) = false := beq_eq_false_iff_ne.2 hE0
    have HNE := Lib.hid hE0
    clear x12 b12 o12 hE0 hmm hpcm
    have lt := XT1.out.loadVar (m := m1.trap) hl1
    obtain ⟨Wc, hc, lc, bc⟩ := mach_out (m := m1.trap) XZ1.out rfl hl1
    have HEX := Lib.hid (show m1.exec ⟨22, rd, ra, rb, imm⟩ = m1.trap from exec_st_bad (by simp) (by rw [HEE.out]; exact HNE.out))
    have hfin := Lib.hid (BX.out.trans bc)
    clear bc
    go_wp2
    refine bodyPost_ret (v := .agg m1.trap.cells.toArray) ?_ rfl ?_
    · simp [results, Tryd.results22, go_sem, lc]
    · rw [HEX.out]
      exact Comes.same (m' := m1.trap) HG.out.mem HG.out.nil HE1.out.2.2 HE1.out.1 HE1.out.2.1 hfin.out rfl

end Go.Proofs.YtajhehmkdlebbaaDoor
