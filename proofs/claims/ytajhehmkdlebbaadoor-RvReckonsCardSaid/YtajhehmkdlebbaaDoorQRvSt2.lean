/- rv.Step: branches. rv.Step: jumps, calls. rv.Step comes to what the machine's law says. -/
import Derived.Test.YtajhehmkdlebbaaDoorQRvStep0
import Derived.Test.YtajhehmkdlebbaaDoorQRvSt1
namespace Go.Proofs.YtajhehmkdlebbaaDoor
open Go.ChangeShapes Go.WideShapes Go.ChangeAt Go.RowKit Go.Deep
set_option maxRecDepth 100000
attribute [-go_sem] loadVar storeVar
set_option maxHeartbeats 4000000 in
theorem step_k23 (m : Mc) {w : World} (hG : McG w m) (rd ra rb : Nat) (_hrd : rd < 32) (hra : ra < 32) (hrb : rb < 32) (imm : Int) (hs : m.state = 0) (hf : m.tick.fetch = some ⟨23, rd, ra, rb, imm⟩) :
    Calls Tryd.prog 22 #[.agg m.cells.toArray] w (Comes w (m.tick.exec ⟨23, rd, ra, rb, imm⟩)) := by
  have hm := hG.ok
  have hl := hm.len
  obtain ⟨W1, W2, h1, h2, s1, s2, x1, x2, b2⟩ := mach_start m w
  have c36 := (x1.tail hl).2.2.2.2.1
  rw [hs] at c36
  have c38 := (x1.tail hl).2.2.2.2.2.2
  have f38 := x1.frz 38
  obtain ⟨m1, hm1⟩ : ∃ m1, m1 = m.tick := ⟨_, rfl⟩
  rw [← hm1] at hf ⊢
  have ok1 : m1.Ok := by rw [hm1]; exact hm.tick
  have hl1 := ok1.len
  obtain ⟨W3, h3, x3, s3, b3, o3⟩ := x1.step (m' := m1) ((Mc.setSteps hl _).trans (by rw [hm1]; rfl))
  have x3z := o3 _ _ (by omega) x2
  have l3 := x3.loadVar hl1
  obtain ⟨W4, h4, s4, x4t, b4, o4⟩ := mach_more W3
  rw [s3, s2] at s4 x4t b4
  obtain ⟨W5, h5, x5t, s5, b5, o5⟩ := x4t.lay rfl m1 hl1
  have e36 := (x5t.tail hl1).2.2.2.2.1
  have f36 := x5t.frz 36
  obtain ⟨W6, h6, x6t, s6, b6, o6⟩ := x5t.step (m' := m1.trap) (Mc.setState hl1 2)
  have x6 := o6 _ _ (by omega) (o5 _ _ (by omega) (o4 _ _ x3))
  have x6z := o6 _ _ (by omega) (o5 _ _ (by omega) (o4 _ _ x3z))
  have l6 := x6.loadVar hl1
  have B6 := (((b2.trans b3).trans (b4.mono (by omega))).trans (b5.mono (by omega))).trans (b6.mono (by omega))
  have hz : W3.heap.size = w.heap.size + 1 + 1 := by omega
  have hM6 := Sl.In.below hG.mem B6
  have hT6 := hG.tab.below B6 hG.tab.size
  have e1 : m1.a = m.a ∧ m1.cap = m.cap ∧ m1.mem = m.mem := by subst hm1; exact ⟨rfl, rfl, rfl⟩
  have e2 : m1.out = m.out := by subst hm1; rfl
  rw [← e1.1, ← e1.2.1, ← e1.2.2] at hM6
  have HM6 := Lib.hid hM6
  have HT6 := Lib.hid hT6
  have HB6 := Lib.hid B6
  have HX := Lib.hid x6
  have HXZ := Lib.hid x6z
  have HXT := Lib.hid x6t
  have HOK := Lib.hid ok1
  have HE1 := Lib.hid e1
  have HE2 := Lib.hid e2
  have HG := Lib.hid hG
  have hz6 : W6.heap.size = w.heap.size + 1 + 1 + 1 := by omega
  have HF := Lib.hid hf
  have ht0 := hT6.size
  have htw := hG.tab.size
  clear hM6 hT6 B6 x1 x2 b2 x3 x3z b3 o3 x4t b4 o4 x5t b5 o5 x6 x6z x6t b6 o6 ok1 e1 e2 hG hf hm hm1 hs
  go_enter Tryd.func22, Tryd.ntmps22
  go_wp2_with fail
  refine (fetch_any m1 HOK.out HT6.out (HM6.out.more (by omega))).mono ?_
  rintro e w7 ⟨rfl, hb7⟩
  have hz7 := hb7.size
  obtain ⟨W8, h8, s8, y8, b8, o8⟩ := op_new w7
  have B7 := HB6.out.trans (hb7.mono (by omega))
  have x8 := o8 _ _ (HX.out.below hb7 (by omega))
  have x8z := o8 _ _ (HXZ.out.below hb7 (by omega))
  have x8t := o8 _ _ (HXT.out.below hb7 (by omega))
  have hv : m1.fetchO.v = .agg #[.int .i64 23, .int .i64 rd, .int .i64 ra, .int .i64 rb, .int .i64 imm] := by unfold Mc.fetchO; rw [HF.out]; rfl
  rw [hv, HF.out]
  obtain ⟨W9, h9, y9, s9, b9, o9⟩ := y8.lay ⟨23, rd, ra, rb, imm⟩
  have B9 := (B7.trans (b8.mono (by omega))).trans (b9.mono (by omega))
  have x9 := o9 _ _ (by omega) x8
  have x9z := o9 _ _ (by omega) x8z
  have x9t := o9 _ _ (by omega) x8t
  have hz9 : w7.heap.size < W9.heap.size := by omega
  obtain ⟨c0, c1, c2, c3, c4⟩ := y9.cells
  have r1 := x9.reg hl1 (i := ra) (by omega)
  have r2 := x9.reg hl1 (i := rb) (by omega)
  have j0 : (0 : Int) ≤ (ra : Int) := by omega
  have j1 : (ra : Int) < 32 := by omega
  have j2 : (0 : Int) ≤ (rb : Int) := by omega
  have j3 : (rb : Int) < 32 := by omega
  obtain ⟨va, hva⟩ : ∃ v, v = m1.x.getD ra 0 := ⟨_, rfl⟩
  obtain ⟨vb, hvb⟩ : ∃ v, v = m1.x.getD rb 0 := ⟨_, rfl⟩
  rw [← hva] at r1
  rw [← hvb] at r2
  have eva : m1.reg ra = va := by rw [hva]; rfl
  have evb : m1.reg rb = vb := by rw [hvb]; rfl
  have ua : U64 va := by rw [← eva]; exact HOK.out.reg _
  have ub : U64 vb := by rw [← evb]; exact HOK.out.reg _
  have HVA := Lib.hid eva
  have HVB := Lib.hid evb
  have HUA := Lib.hid ua
  have HUB := Lib.hid ub
  have HX9 := Lib.hid x9
  have HX9Z := Lib.hid x9z
  have HX9T := Lib.hid x9t
  have HB9 := Lib.hid B9
  have HY9 := Lib.hid y9
  have p9 := (x9.tail hl1).1
  have q9 := (x9.tail hl1).2.1
  obtain ⟨imu, himu⟩ : ∃ v, IntKind.u64.wrap imm = v := ⟨_, rfl⟩
  obtain ⟨at_, hat⟩ : ∃ v, IntKind.u64.wrap (va + imu) = v := ⟨_, rfl⟩
  obtain ⟨nx, hnx⟩ : ∃ v, IntKind.u64.wrap (m1.pc + 4) = v := ⟨_, rfl⟩
  have HAT := Lib.hid (show m1.at_ ⟨23, rd, ra, rb, imm⟩ = at_ by rw [← hat, ← himu, ← eva]; rfl)
  have HNX := Lib.hid (show m1.next = nx from hnx)
  have HIM := Lib.hid himu
  have HT9 := Lib.hid (HG.out.tab.below B9 htw)
  have HM9 := Lib.hid (show Mem W9 w.heap.size m1.a m1.cap m1.mem by rw [HE1.out.1, HE1.out.2.1, HE1.out.2.2]; exact Sl.In.below HG.out.mem B9)
  clear hb7 B7 b8 x8 x8z x8t o8 y8 y9 b9 o9 x9 x9z x9t B9 eva evb ua ub hva hvb
  go_wp2
  go_region
  obtain ⟨W, hW⟩ : ∃ W, W9.drew = W := ⟨_, rfl⟩
  rw [hW]
  have X := Lib.hid (show MB W w.heap.size m1 by rw [← hW]; exact HX9.out)
  have XZ := Lib.hid (show MB W (w.heap.size + 1) Mc.zero by rw [← hW]; exact HX9Z.out)
  have XT := Lib.hid (show MB W (w.heap.size + 1 + 1) m1.trap by rw [← hW]; exact HX9T.out)
  have Y := Lib.hid (show OB W w7.heap.size ⟨23, rd, ra, rb, imm⟩ by rw [← hW]; exact HY9.out)
  have BW := Lib.hid (show Below w.heap.size w W by rw [← hW]; exact HB9.out.drew)
  have TW := Lib.hid (show Tab W by rw [← hW]; exact HT9.out)
  have MW := Lib.hid (show Mem W w.heap.size m1.a m1.cap m1.mem by rw [← hW]; exact HM9.out)
  have hzW : w7.heap.size < W.heap.size := by rw [← hW]; exact hz9
  clear c0 c1 c2 c3 c4 p9 q9 r1 r2 j0 j1 j2 j3 h9 h8 h6 h5 h4 h3 h2 h1 l3 l6 hz9 s8 s9 c36 c38 f38 e36 f36 HX9 HX9Z HX9T HY9 HB9 HT9 HM9 hW hv HX HXZ HXT HM6 HT6 HB6 hz
  obtain ⟨c0, c1, c2, c3, c4⟩ := Y.out.cells
  have p9 := (X.out.tail hl1).1
  have q9 := (X.out.tail hl1).2.1
  have l4 := Y.out.load
  have f33 := X.out.frz 33
  have HBR := Lib.hid (show m1.branch ⟨23, rd, ra, rb, imm⟩ = if goesF 23 va vb = true then IntKind.u64.wrap (m1.pc + imu) else nx by unfold Mc.branch; rw [HVA.out, HVB.out, HNX.out, HIM.out])
  obtain ⟨g, hg⟩ : ∃ g, goesF 23 va vb = g := ⟨_, rfl⟩
  have HGO := Lib.hid hg
  clear hg
  go_wp2_with fail
  refine (goes_any 23 rd ra rb imm va vb W).mono ?_
  rintro e w11 ⟨rfl, hb11⟩
  rw [HGO.out]
  have BX := Lib.hid (BW.out.trans (hb11.mono (by omega)))
  have X1 := Lib.hid (X.out.below hb11 (by omega))
  have XZ1 := Lib.hid (XZ.out.below hb11 (by omega))
  have Y1 := Y.out.below hb11 (by omega)
  have hz11 := hb11.size
  clear c0 c1 c2 c3 c4 p9 q9 l4 f33 hb11
  obtain ⟨c0, c1, c2, c3, c4⟩ := Y1.cells
  have p9 := (X1.out.tail hl1).1
  cases g
  · obtain ⟨Wa, Wb, Wc, R, hR, ha, hb, ⟨u0, hu0⟩, f0, hpc, f32, lb, hc, lc, bc, only⟩ := mach_end X1.out hl1 XZ1.out rfl nx
    have HEX := Lib.hid (show m1.exec ⟨23, rd, ra, rb, imm⟩ = R by rw [exec_br (by simp), hR, HBR.out, HGO.out, if_neg (by simp)])
    have hfin := Lib.hid (BX.out.trans bc)
    have HRR := Lib.hid hR
    clear bc hR
    go_wp2
    refine bodyPost_ret (v := .agg R.cells.toArray) ?_ rfl ?_
    · simp [results, Tryd.results22, go_sem, lc]
    · rw [HEX.out]
      exact Comes.same (m' := R) HG.out.mem HG.out.nil (by rw [HRR.out]; exact HE1.out.2.2) (by rw [HRR.out]; exact HE1.out.1) (by rw [HRR.out]; exact HE1.out.2.1) hfin.out rfl
  · obtain ⟨Wa, Wb, Wc, R, hR, ha, hb, ⟨u0, hu0⟩, f0, hpc, f32, lb, hc, lc, bc, only⟩ := mach_end X1.out hl1 XZ1.out rfl (IntKind.u64.wrap (m1.pc + imu))
    have HEX := Lib.hid (show m1.exec ⟨23, rd, ra, rb, imm⟩ = R by rw [exec_br (by simp), hR, HBR.out, HGO.out, if_pos rfl])
    have hfin := Lib.hid (BX.out.trans bc)
    have HRR := Lib.hid hR
    clear bc hR
    go_wp2
    refine bodyPost_ret (v := .agg R.cells.toArray) ?_ rfl ?_
    · simp [results, Tryd.results22, go_sem, lc]
    · rw [HEX.out]
      exact Comes.same (m' := R) HG.out.mem HG.out.nil (by rw [HRR.out]; exact HE1.out.2.2) (by rw [HRR.out]; exact HE1.out.1) (by rw [HRR.out]; exact HE1.out.2.1) hfin.out rfl

set_option maxHeartbeats 4000000 in
theorem step_k24 (m : Mc) {w : World} (hG : McG w m) (rd ra rb : Nat) (_hrd : rd < 32) (hra : ra < 32) (hrb : rb < 32) (imm : Int) (hs : m.state = 0) (hf : m.tick.fetch = some ⟨24, rd, ra, rb, imm⟩) :
    Calls Tryd.prog 22 #[.agg m.cells.toArray] w (Comes w (m.tick.exec ⟨24, rd, ra, rb, imm⟩)) := by
  have hm := hG.ok
  have hl := hm.len
  obtain ⟨W1, W2, h1, h2, s1, s2, x1, x2, b2⟩ := mach_start m w
  have c36 := (x1.tail hl).2.2.2.2.1
  rw [hs] at c36
  have c38 := (x1.tail hl).2.2.2.2.2.2
  have f38 := x1.frz 38
  obtain ⟨m1, hm1⟩ : ∃ m1, m1 = m.tick := ⟨_, rfl⟩
  rw [← hm1] at hf ⊢
  have ok1 : m1.Ok := by rw [hm1]; exact hm.tick
  have hl1 := ok1.len
  obtain ⟨W3, h3, x3, s3, b3, o3⟩ := x1.step (m' := m1) ((Mc.setSteps hl _).trans (by rw [hm1]; rfl))
  have x3z := o3 _ _ (by omega) x2
  have l3 := x3.loadVar hl1
  obtain ⟨W4, h4, s4, x4t, b4, o4⟩ := mach_more W3
  rw [s3, s2] at s4 x4t b4
  obtain ⟨W5, h5, x5t, s5, b5, o5⟩ := x4t.lay rfl m1 hl1
  have e36 := (x5t.tail hl1).2.2.2.2.1
  have f36 := x5t.frz 36
  obtain ⟨W6, h6, x6t, s6, b6, o6⟩ := x5t.step (m' := m1.trap) (Mc.setState hl1 2)
  have x6 := o6 _ _ (by omega) (o5 _ _ (by omega) (o4 _ _ x3))
  have x6z := o6 _ _ (by omega) (o5 _ _ (by omega) (o4 _ _ x3z))
  have l6 := x6.loadVar hl1
  have B6 := (((b2.trans b3).trans (b4.mono (by omega))).trans (b5.mono (by omega))).trans (b6.mono (by omega))
  have hz : W3.heap.size = w.heap.size + 1 + 1 := by omega
  have hM6 := Sl.In.below hG.mem B6
  have hT6 := hG.tab.below B6 hG.tab.size
  have e1 : m1.a = m.a ∧ m1.cap = m.cap ∧ m1.mem = m.mem := by subst hm1; exact ⟨rfl, rfl, rfl⟩
  have e2 : m1.out = m.out := by subst hm1; rfl
  rw [← e1.1, ← e1.2.1, ← e1.2.2] at hM6
  have HM6 := Lib.hid hM6
  have HT6 := Lib.hid hT6
  have HB6 := Lib.hid B6
  have HX := Lib.hid x6
  have HXZ := Lib.hid x6z
  have HXT := Lib.hid x6t
  have HOK := Lib.hid ok1
  have HE1 := Lib.hid e1
  have HE2 := Lib.hid e2
  have HG := Lib.hid hG
  have hz6 : W6.heap.size = w.heap.size + 1 + 1 + 1 := by omega
  have HF := Lib.hid hf
  have ht0 := hT6.size
  have htw := hG.tab.size
  clear hM6 hT6 B6 x1 x2 b2 x3 x3z b3 o3 x4t b4 o4 x5t b5 o5 x6 x6z x6t b6 o6 ok1 e1 e2 hG hf hm hm1 hs
  go_enter Tryd.func22, Tryd.ntmps22
  go_wp2_with fail
  refine (fetch_any m1 HOK.out HT6.out (HM6.out.more (by omega))).mono ?_
  rintro e w7 ⟨rfl, hb7⟩
  have hz7 := hb7.size
  obtain ⟨W8, h8, s8, y8, b8, o8⟩ := op_new w7
  have B7 := HB6.out.trans (hb7.mono (by omega))
  have x8 := o8 _ _ (HX.out.below hb7 (by omega))
  have x8z := o8 _ _ (HXZ.out.below hb7 (by omega))
  have x8t := o8 _ _ (HXT.out.below hb7 (by omega))
  have hv : m1.fetchO.v = .agg #[.int .i64 24, .int .i64 rd, .int .i64 ra, .int .i64 rb, .int .i64 imm] := by unfold Mc.fetchO; rw [HF.out]; rfl
  rw [hv, HF.out]
  obtain ⟨W9, h9, y9, s9, b9, o9⟩ := y8.lay ⟨24, rd, ra, rb, imm⟩
  have B9 := (B7.trans (b8.mono (by omega))).trans (b9.mono (by omega))
  have x9 := o9 _ _ (by omega) x8
  have x9z := o9 _ _ (by omega) x8z
  have x9t := o9 _ _ (by omega) x8t
  have hz9 : w7.heap.size < W9.heap.size := by omega
  obtain ⟨c0, c1, c2, c3, c4⟩ := y9.cells
  have r1 := x9.reg hl1 (i := ra) (by omega)
  have r2 := x9.reg hl1 (i := rb) (by omega)
  have j0 : (0 : Int) ≤ (ra : Int) := by omega
  have j1 : (ra : Int) < 32 := by omega
  have j2 : (0 : Int) ≤ (rb : Int) := by omega
  have j3 : (rb : Int) < 32 := by omega
  obtain ⟨va, hva⟩ : ∃ v, v = m1.x.getD ra 0 := ⟨_, rfl⟩
  obtain ⟨vb, hvb⟩ : ∃ v, v = m1.x.getD rb 0 := ⟨_, rfl⟩
  rw [← hva] at r1
  rw [← hvb] at r2
  have eva : m1.reg ra = va := by rw [hva]; rfl
  have evb : m1.reg rb = vb := by rw [hvb]; rfl
  have ua : U64 va := by rw [← eva]; exact HOK.out.reg _
  have ub : U64 vb := by rw [← evb]; exact HOK.out.reg _
  have HVA := Lib.hid eva
  have HVB := Lib.hid evb
  have HUA := Lib.hid ua
  have HUB := Lib.hid ub
  have HX9 := Lib.hid x9
  have HX9Z := Lib.hid x9z
  have HX9T := Lib.hid x9t
  have HB9 := Lib.hid B9
  have HY9 := Lib.hid y9
  have p9 := (x9.tail hl1).1
  have q9 := (x9.tail hl1).2.1
  obtain ⟨imu, himu⟩ : ∃ v, IntKind.u64.wrap imm = v := ⟨_, rfl⟩
  obtain ⟨at_, hat⟩ : ∃ v, IntKind.u64.wrap (va + imu) = v := ⟨_, rfl⟩
  obtain ⟨nx, hnx⟩ : ∃ v, IntKind.u64.wrap (m1.pc + 4) = v := ⟨_, rfl⟩
  have HAT := Lib.hid (show m1.at_ ⟨24, rd, ra, rb, imm⟩ = at_ by rw [← hat, ← himu, ← eva]; rfl)
  have HNX := Lib.hid (show m1.next = nx from hnx)
  have HIM := Lib.hid himu
  have HT9 := Lib.hid (HG.out.tab.below B9 htw)
  have HM9 := Lib.hid (show Mem W9 w.heap.size m1.a m1.cap m1.mem by rw [HE1.out.1, HE1.out.2.1, HE1.out.2.2]; exact Sl.In.below HG.out.mem B9)
  clear hb7 B7 b8 x8 x8z x8t o8 y8 y9 b9 o9 x9 x9z x9t B9 eva evb ua ub hva hvb
  go_wp2
  go_region
  obtain ⟨W, hW⟩ : ∃ W, W9.drew = W := ⟨_, rfl⟩
  rw [hW]
  have X := Lib.hid (show MB W w.heap.size m1 by rw [← hW]; exact HX9.out)
  have XZ := Lib.hid (show MB W (w.heap.size + 1) Mc.zero by rw [← hW]; exact HX9Z.out)
  have XT := Lib.hid (show MB W (w.heap.size + 1 + 1) m1.trap by rw [← hW]; exact HX9T.out)
  have Y := Lib.hid (show OB W w7.heap.size ⟨24, rd, ra, rb, imm⟩ by rw [← hW]; exact HY9.out)
  have BW := Lib.hid (show Below w.heap.size w W by rw [← hW]; exact HB9.out.drew)
  have TW := Lib.hid (show Tab W by rw [← hW]; exact HT9.out)
  have MW := Lib.hid (show Mem W w.heap.size m1.a m1.cap m1.mem by rw [← hW]; exact HM9.out)
  have hzW : w7.heap.size < W.heap.size := by rw [← hW]; exact hz9
  clear c0 c1 c2 c3 c4 p9 q9 r1 r2 j0 j1 j2 j3 h9 h8 h6 h5 h4 h3 h2 h1 l3 l6 hz9 s8 s9 c36 c38 f38 e36 f36 HX9 HX9Z HX9T HY9 HB9 HT9 HM9 hW hv HX HXZ HXT HM6 HT6 HB6 hz
  obtain ⟨c0, c1, c2, c3, c4⟩ := Y.out.cells
  have p9 := (X.out.tail hl1).1
  have q9 := (X.out.tail hl1).2.1
  have l4 := Y.out.load
  have f33 := X.out.frz 33
  have HBR := Lib.hid (show m1.branch ⟨24, rd, ra, rb, imm⟩ = if goesF 24 va vb = true then IntKind.u64.wrap (m1.pc + imu) else nx by unfold Mc.branch; rw [HVA.out, HVB.out, HNX.out, HIM.out])
  obtain ⟨g, hg⟩ : ∃ g, goesF 24 va vb = g := ⟨_, rfl⟩
  have HGO := Lib.hid hg
  clear hg
  go_wp2_with fail
  refine (goes_any 24 rd ra rb imm va vb W).mono ?_
  rintro e w11 ⟨rfl, hb11⟩
  rw [HGO.out]
  have BX := Lib.hid (BW.out.trans (hb11.mono (by omega)))
  have X1 := Lib.hid (X.out.below hb11 (by omega))
  have XZ1 := Lib.hid (XZ.out.below hb11 (by omega))
  have Y1 := Y.out.below hb11 (by omega)
  have hz11 := hb11.size
  clear c0 c1 c2 c3 c4 p9 q9 l4 f33 hb11
  obtain ⟨c0, c1, c2, c3, c4⟩ := Y1.cells
  have p9 := (X1.out.tail hl1).1
  cases g
  · obtain ⟨Wa, Wb, Wc, R, hR, ha, hb, ⟨u0, hu0⟩, f0, hpc, f32, lb, hc, lc, bc, only⟩ := mach_end X1.out hl1 XZ1.out rfl nx
    have HEX := Lib.hid (show m1.exec ⟨24, rd, ra, rb, imm⟩ = R by rw [exec_br (by simp), hR, HBR.out, HGO.out, if_neg (by simp)])
    have hfin := Lib.hid (BX.out.trans bc)
    have HRR := Lib.hid hR
    clear bc hR
    go_wp2
    refine bodyPost_ret (v := .agg R.cells.toArray) ?_ rfl ?_
    · simp [results, Tryd.results22, go_sem, lc]
    · rw [HEX.out]
      exact Comes.same (m' := R) HG.out.mem HG.out.nil (by rw [HRR.out]; exact HE1.out.2.2) (by rw [HRR.out]; exact HE1.out.1) (by rw [HRR.out]; exact HE1.out.2.1) hfin.out rfl
  · obtain ⟨Wa, Wb, Wc, R, hR, ha, hb, ⟨u0, hu0⟩, f0, hpc, f32, lb, hc, lc, bc, only⟩ := mach_end X1.out hl1 XZ1.out rfl (IntKind.u64.wrap (m1.pc + imu))
    have HEX := Lib.hid (show m1.exec ⟨24, rd, ra, rb, imm⟩ = R by rw [exec_br (by simp), hR, HBR.out, HGO.out, if_pos rfl])
    have hfin := Lib.hid (BX.out.trans bc)
    have HRR := Lib.hid hR
    clear bc hR
    go_wp2
    refine bodyPost_ret (v := .agg R.cells.toArray) ?_ rfl ?_
    · simp [results, Tryd.results22, go_sem, lc]
    · rw [HEX.out]
      exact Comes.same (m' := R) HG.out.mem HG.out.nil (by rw [HRR.out]; exact HE1.out.2.2) (by rw [HRR.out]; exact HE1.out.1) (by rw [HRR.out]; exact HE1.out.2.1) hfin.out rfl

set_option maxHeartbeats 4000000 in
theorem step_k25 (m : Mc) {w : World} (hG : McG w m) (rd ra rb : Nat) (_hrd : rd < 32) (hra : ra < 32) (hrb : rb < 32) (imm : Int) (hs : m.state = 0) (hf : m.tick.fetch = some ⟨25, rd, ra, rb, imm⟩) :
    Calls Tryd.prog 22 #[.agg m.cells.toArray] w (Comes w (m.tick.exec ⟨25, rd, ra, rb, imm⟩)) := by
  have hm := hG.ok
  have hl := hm.len
  obtain ⟨W1, W2, h1, h2, s1, s2, x1, x2, b2⟩ := mach_start m w
  have c36 := (x1.tail hl).2.2.2.2.1
  rw [hs] at c36
  have c38 := (x1.tail hl).2.2.2.2.2.2
  have f38 := x1.frz 38
  obtain ⟨m1, hm1⟩ : ∃ m1, m1 = m.tick := ⟨_, rfl⟩
  rw [← hm1] at hf ⊢
  have ok1 : m1.Ok := by rw [hm1]; exact hm.tick
  have hl1 := ok1.len
  obtain ⟨W3, h3, x3, s3, b3, o3⟩ := x1.step (m' := m1) ((Mc.setSteps hl _).trans (by rw [hm1]; rfl))
  have x3z := o3 _ _ (by omega) x2
  have l3 := x3.loadVar hl1
  obtain ⟨W4, h4, s4, x4t, b4, o4⟩ := mach_more W3
  rw [s3, s2] at s4 x4t b4
  obtain ⟨W5, h5, x5t, s5, b5, o5⟩ := x4t.lay rfl m1 hl1
  have e36 := (x5t.tail hl1).2.2.2.2.1
  have f36 := x5t.frz 36
  obtain ⟨W6, h6, x6t, s6, b6, o6⟩ := x5t.step (m' := m1.trap) (Mc.setState hl1 2)
  have x6 := o6 _ _ (by omega) (o5 _ _ (by omega) (o4 _ _ x3))
  have x6z := o6 _ _ (by omega) (o5 _ _ (by omega) (o4 _ _ x3z))
  have l6 := x6.loadVar hl1
  have B6 := (((b2.trans b3).trans (b4.mono (by omega))).trans (b5.mono (by omega))).trans (b6.mono (by omega))
  have hz : W3.heap.size = w.heap.size + 1 + 1 := by omega
  have hM6 := Sl.In.below hG.mem B6
  have hT6 := hG.tab.below B6 hG.tab.size
  have e1 : m1.a = m.a ∧ m1.cap = m.cap ∧ m1.mem = m.mem := by subst hm1; exact ⟨rfl, rfl, rfl⟩
  have e2 : m1.out = m.out := by subst hm1; rfl
  rw [← e1.1, ← e1.2.1, ← e1.2.2] at hM6
  have HM6 := Lib.hid hM6
  have HT6 := Lib.hid hT6
  have HB6 := Lib.hid B6
  have HX := Lib.hid x6
  have HXZ := Lib.hid x6z
  have HXT := Lib.hid x6t
  have HOK := Lib.hid ok1
  have HE1 := Lib.hid e1
  have HE2 := Lib.hid e2
  have HG := Lib.hid hG
  have hz6 : W6.heap.size = w.heap.size + 1 + 1 + 1 := by omega
  have HF := Lib.hid hf
  have ht0 := hT6.size
  have htw := hG.tab.size
  clear hM6 hT6 B6 x1 x2 b2 x3 x3z b3 o3 x4t b4 o4 x5t b5 o5 x6 x6z x6t b6 o6 ok1 e1 e2 hG hf hm hm1 hs
  go_enter Tryd.func22, Tryd.ntmps22
  go_wp2_with fail
  refine (fetch_any m1 HOK.out HT6.out (HM6.out.more (by omega))).mono ?_
  rintro e w7 ⟨rfl, hb7⟩
  have hz7 := hb7.size
  obtain ⟨W8, h8, s8, y8, b8, o8⟩ := op_new w7
  have B7 := HB6.out.trans (hb7.mono (by omega))
  have x8 := o8 _ _ (HX.out.below hb7 (by omega))
  have x8z := o8 _ _ (HXZ.out.below hb7 (by omega))
  have x8t := o8 _ _ (HXT.out.below hb7 (by omega))
  have hv : m1.fetchO.v = .agg #[.int .i64 25, .int .i64 rd, .int .i64 ra, .int .i64 rb, .int .i64 imm] := by unfold Mc.fetchO; rw [HF.out]; rfl
  rw [hv, HF.out]
  obtain ⟨W9, h9, y9, s9, b9, o9⟩ := y8.lay ⟨25, rd, ra, rb, imm⟩
  have B9 := (B7.trans (b8.mono (by omega))).trans (b9.mono (by omega))
  have x9 := o9 _ _ (by omega) x8
  have x9z := o9 _ _ (by omega) x8z
  have x9t := o9 _ _ (by omega) x8t
  have hz9 : w7.heap.size < W9.heap.size := by omega
  obtain ⟨c0, c1, c2, c3, c4⟩ := y9.cells
  have r1 := x9.reg hl1 (i := ra) (by omega)
  have r2 := x9.reg hl1 (i := rb) (by omega)
  have j0 : (0 : Int) ≤ (ra : Int) := by omega
  have j1 : (ra : Int) < 32 := by omega
  have j2 : (0 : Int) ≤ (rb : Int) := by omega
  have j3 : (rb : Int) < 32 := by omega
  obtain ⟨va, hva⟩ : ∃ v, v = m1.x.getD ra 0 := ⟨_, rfl⟩
  obtain ⟨vb, hvb⟩ : ∃ v, v = m1.x.getD rb 0 := ⟨_, rfl⟩
  rw [← hva] at r1
  rw [← hvb] at r2
  have eva : m1.reg ra = va := by rw [hva]; rfl
  have evb : m1.reg rb = vb := by rw [hvb]; rfl
  have ua : U64 va := by rw [← eva]; exact HOK.out.reg _
  have ub : U64 vb := by rw [← evb]; exact HOK.out.reg _
  have HVA := Lib.hid eva
  have HVB := Lib.hid evb
  have HUA := Lib.hid ua
  have HUB := Lib.hid ub
  have HX9 := Lib.hid x9
  have HX9Z := Lib.hid x9z
  have HX9T := Lib.hid x9t
  have HB9 := Lib.hid B9
  have HY9 := Lib.hid y9
  have p9 := (x9.tail hl1).1
  have q9 := (x9.tail hl1).2.1
  obtain ⟨imu, himu⟩ : ∃ v, IntKind.u64.wrap imm = v := ⟨_, rfl⟩
  obtain ⟨at_, hat⟩ : ∃ v, IntKind.u64.wrap (va + imu) = v := ⟨_, rfl⟩
  obtain ⟨nx, hnx⟩ : ∃ v, IntKind.u64.wrap (m1.pc + 4) = v := ⟨_, rfl⟩
  have HAT := Lib.hid (show m1.at_ ⟨25, rd, ra, rb, imm⟩ = at_ by rw [← hat, ← himu, ← eva]; rfl)
  have HNX := Lib.hid (show m1.next = nx from hnx)
  have HIM := Lib.hid himu
  have HT9 := Lib.hid (HG.out.tab.below B9 htw)
  have HM9 := Lib.hid (show Mem W9 w.heap.size m1.a m1.cap m1.mem by rw [HE1.out.1, HE1.out.2.1, HE1.out.2.2]; exact Sl.In.below HG.out.mem B9)
  clear hb7 B7 b8 x8 x8z x8t o8 y8 y9 b9 o9 x9 x9z x9t B9 eva evb ua ub hva hvb
  go_wp2
  go_region
  obtain ⟨W, hW⟩ : ∃ W, W9.drew = W := ⟨_, rfl⟩
  rw [hW]
  have X := Lib.hid (show MB W w.heap.size m1 by rw [← hW]; exact HX9.out)
  have XZ := Lib.hid (show MB W (w.heap.size + 1) Mc.zero by rw [← hW]; exact HX9Z.out)
  have XT := Lib.hid (show MB W (w.heap.size + 1 + 1) m1.trap by rw [← hW]; exact HX9T.out)
  have Y := Lib.hid (show OB W w7.heap.size ⟨25, rd, ra, rb, imm⟩ by rw [← hW]; exact HY9.out)
  have BW := Lib.hid (show Below w.heap.size w W by rw [← hW]; exact HB9.out.drew)
  have TW := Lib.hid (show Tab W by rw [← hW]; exact HT9.out)
  have MW := Lib.hid (show Mem W w.heap.size m1.a m1.cap m1.mem by rw [← hW]; exact HM9.out)
  have hzW : w7.heap.size < W.heap.size := by rw [← hW]; exact hz9
  clear c0 c1 c2 c3 c4 p9 q9 r1 r2 j0 j1 j2 j3 h9 h8 h6 h5 h4 h3 h2 h1 l3 l6 hz9 s8 s9 c36 c38 f38 e36 f36 HX9 HX9Z HX9T HY9 HB9 HT9 HM9 hW hv HX HXZ HXT HM6 HT6 HB6 hz
  obtain ⟨c0, c1, c2, c3, c4⟩ := Y.out.cells
  have p9 := (X.out.tail hl1).1
  have q9 := (X.out.tail hl1).2.1
  have l4 := Y.out.load
  have f33 := X.out.frz 33
  have HBR := Lib.hid (show m1.branch ⟨25, rd, ra, rb, imm⟩ = if goesF 25 va vb = true then IntKind.u64.wrap (m1.pc + imu) else nx by unfold Mc.branch; rw [HVA.out, HVB.out, HNX.out, HIM.out])
  obtain ⟨g, hg⟩ : ∃ g, goesF 25 va vb = g := ⟨_, rfl⟩
  have HGO := Lib.hid hg
  clear hg
  go_wp2_with fail
  refine (goes_any 25 rd ra rb imm va vb W).mono ?_
  rintro e w11 ⟨rfl, hb11⟩
  rw [HGO.out]
  have BX := Lib.hid (BW.out.trans (hb11.mono (by omega)))
  have X1 := Lib.hid (X.out.below hb11 (by omega))
  have XZ1 := Lib.hid (XZ.out.below hb11 (by omega))
  have Y1 := Y.out.below hb11 (by omega)
  have hz11 := hb11.size
  clear c0 c1 c2 c3 c4 p9 q9 l4 f33 hb11
  obtain ⟨c0, c1, c2, c3, c4⟩ := Y1.cells
  have p9 := (X1.out.tail hl1).1
  cases g
  · obtain ⟨Wa, Wb, Wc, R, hR, ha, hb, ⟨u0, hu0⟩, f0, hpc, f32, lb, hc, lc, bc, only⟩ := mach_end X1.out hl1 XZ1.out rfl nx
    have HEX := Lib.hid (show m1.exec ⟨25, rd, ra, rb, imm⟩ = R by rw [exec_br (by simp), hR, HBR.out, HGO.out, if_neg (by simp)])
    have hfin := Lib.hid (BX.out.trans bc)
    have HRR := Lib.hid hR
    clear bc hR
    go_wp2
    refine bodyPost_ret (v := .agg R.cells.toArray) ?_ rfl ?_
    · simp [results, Tryd.results22, go_sem, lc]
    · rw [HEX.out]
      exact Comes.same (m' := R) HG.out.mem HG.out.nil (by rw [HRR.out]; exact HE1.out.2.2) (by rw [HRR.out]; exact HE1.out.1) (by rw [HRR.out]; exact HE1.out.2.1) hfin.out rfl
  · obtain ⟨Wa, Wb, Wc, R, hR, ha, hb, ⟨u0, hu0⟩, f0, hpc, f32, lb, hc, lc, bc, only⟩ := mach_end X1.out hl1 XZ1.out rfl (IntKind.u64.wrap (m1.pc + imu))
    have HEX := Lib.hid (show m1.exec ⟨25, rd, ra, rb, imm⟩ = R by rw [exec_br (by simp), hR, HBR.out, HGO.out, if_pos rfl])
    have hfin := Lib.hid (BX.out.trans bc)
    have HRR := Lib.hid hR
    clear bc hR
    go_wp2
    refine bodyPost_ret (v := .agg R.cells.toArray) ?_ rfl ?_
    · simp [results, Tryd.results22, go_sem, lc]
    · rw [HEX.out]
      exact Comes.same (m' := R) HG.out.mem HG.out.nil (by rw [HRR.out]; exact HE1.out.2.2) (by rw [HRR.out]; exact HE1.out.1) (by rw [HRR.out]; exact HE1.out.2.1) hfin.out rfl

set_option maxHeartbeats 4000000 in
theorem step_k26 (m : Mc) {w : World} (hG : McG w m) (rd ra rb : Nat) (_hrd : rd < 32) (hra : ra < 32) (hrb : rb < 32) (imm : Int) (hs : m.state = 0) (hf : m.tick.fetch = some ⟨26, rd, ra, rb, imm⟩) :
    Calls Tryd.prog 22 #[.agg m.cells.toArray] w (Comes w (m.tick.exec ⟨26, rd, ra, rb, imm⟩)) := by
  have hm := hG.ok
  have hl := hm.len
  obtain ⟨W1, W2, h1, h2, s1, s2, x1, x2, b2⟩ := mach_start m w
  have c36 := (x1.tail hl).2.2.2.2.1
  rw [hs] at c36
  have c38 := (x1.tail hl).2.2.2.2.2.2
  have f38 := x1.frz 38
  obtain ⟨m1, hm1⟩ : ∃ m1, m1 = m.tick := ⟨_, rfl⟩
  rw [← hm1] at hf ⊢
  have ok1 : m1.Ok := by rw [hm1]; exact hm.tick
  have hl1 := ok1.len
  obtain ⟨W3, h3, x3, s3, b3, o3⟩ := x1.step (m' := m1) ((Mc.setSteps hl _).trans (by rw [hm1]; rfl))
  have x3z := o3 _ _ (by omega) x2
  have l3 := x3.loadVar hl1
  obtain ⟨W4, h4, s4, x4t, b4, o4⟩ := mach_more W3
  rw [s3, s2] at s4 x4t b4
  obtain ⟨W5, h5, x5t, s5, b5, o5⟩ := x4t.lay rfl m1 hl1
  have e36 := (x5t.tail hl1).2.2.2.2.1
  have f36 := x5t.frz 36
  obtain ⟨W6, h6, x6t, s6, b6, o6⟩ := x5t.step (m' := m1.trap) (Mc.setState hl1 2)
  have x6 := o6 _ _ (by omega) (o5 _ _ (by omega) (o4 _ _ x3))
  have x6z := o6 _ _ (by omega) (o5 _ _ (by omega) (o4 _ _ x3z))
  have l6 := x6.loadVar hl1
  have B6 := (((b2.trans b3).trans (b4.mono (by omega))).trans (b5.mono (by omega))).trans (b6.mono (by omega))
  have hz : W3.heap.size = w.heap.size + 1 + 1 := by omega
  have hM6 := Sl.In.below hG.mem B6
  have hT6 := hG.tab.below B6 hG.tab.size
  have e1 : m1.a = m.a ∧ m1.cap = m.cap ∧ m1.mem = m.mem := by subst hm1; exact ⟨rfl, rfl, rfl⟩
  have e2 : m1.out = m.out := by subst hm1; rfl
  rw [← e1.1, ← e1.2.1, ← e1.2.2] at hM6
  have HM6 := Lib.hid hM6
  have HT6 := Lib.hid hT6
  have HB6 := Lib.hid B6
  have HX := Lib.hid x6
  have HXZ := Lib.hid x6z
  have HXT := Lib.hid x6t
  have HOK := Lib.hid ok1
  have HE1 := Lib.hid e1
  have HE2 := Lib.hid e2
  have HG := Lib.hid hG
  have hz6 : W6.heap.size = w.heap.size + 1 + 1 + 1 := by omega
  have HF := Lib.hid hf
  have ht0 := hT6.size
  have htw := hG.tab.size
  clear hM6 hT6 B6 x1 x2 b2 x3 x3z b3 o3 x4t b4 o4 x5t b5 o5 x6 x6z x6t b6 o6 ok1 e1 e2 hG hf hm hm1 hs
  go_enter Tryd.func22, Tryd.ntmps22
  go_wp2_with fail
  refine (fetch_any m1 HOK.out HT6.out (HM6.out.more (by omega))).mono ?_
  rintro e w7 ⟨rfl, hb7⟩
  have hz7 := hb7.size
  obtain ⟨W8, h8, s8, y8, b8, o8⟩ := op_new w7
  have B7 := HB6.out.trans (hb7.mono (by omega))
  have x8 := o8 _ _ (HX.out.below hb7 (by omega))
  have x8z := o8 _ _ (HXZ.out.below hb7 (by omega))
  have x8t := o8 _ _ (HXT.out.below hb7 (by omega))
  have hv : m1.fetchO.v = .agg #[.int .i64 26, .int .i64 rd, .int .i64 ra, .int .i64 rb, .int .i64 imm] := by unfold Mc.fetchO; rw [HF.out]; rfl
  rw [hv, HF.out]
  obtain ⟨W9, h9, y9, s9, b9, o9⟩ := y8.lay ⟨26, rd, ra, rb, imm⟩
  have B9 := (B7.trans (b8.mono (by omega))).trans (b9.mono (by omega))
  have x9 := o9 _ _ (by omega) x8
  have x9z := o9 _ _ (by omega) x8z
  have x9t := o9 _ _ (by omega) x8t
  have hz9 : w7.heap.size < W9.heap.size := by omega
  obtain ⟨c0, c1, c2, c3, c4⟩ := y9.cells
  have r1 := x9.reg hl1 (i := ra) (by omega)
  have r2 := x9.reg hl1 (i := rb) (by omega)
  have j0 : (0 : Int) ≤ (ra : Int) := by omega
  have j1 : (ra : Int) < 32 := by omega
  have j2 : (0 : Int) ≤ (rb : Int) := by omega
  have j3 : (rb : Int) < 32 := by omega
  obtain ⟨va, hva⟩ : ∃ v, v = m1.x.getD ra 0 := ⟨_, rfl⟩
  obtain ⟨vb, hvb⟩ : ∃ v, v = m1.x.getD rb 0 := ⟨_, rfl⟩
  rw [← hva] at r1
  rw [← hvb] at r2
  have eva : m1.reg ra = va := by rw [hva]; rfl
  have evb : m1.reg rb = vb := by rw [hvb]; rfl
  have ua : U64 va := by rw [← eva]; exact HOK.out.reg _
  have ub : U64 vb := by rw [← evb]; exact HOK.out.reg _
  have HVA := Lib.hid eva
  have HVB := Lib.hid evb
  have HUA := Lib.hid ua
  have HUB := Lib.hid ub
  have HX9 := Lib.hid x9
  have HX9Z := Lib.hid x9z
  have HX9T := Lib.hid x9t
  have HB9 := Lib.hid B9
  have HY9 := Lib.hid y9
  have p9 := (x9.tail hl1).1
  have q9 := (x9.tail hl1).2.1
  obtain ⟨imu, himu⟩ : ∃ v, IntKind.u64.wrap imm = v := ⟨_, rfl⟩
  obtain ⟨at_, hat⟩ : ∃ v, IntKind.u64.wrap (va + imu) = v := ⟨_, rfl⟩
  obtain ⟨nx, hnx⟩ : ∃ v, IntKind.u64.wrap (m1.pc + 4) = v := ⟨_, rfl⟩
  have HAT := Lib.hid (show m1.at_ ⟨26, rd, ra, rb, imm⟩ = at_ by rw [← hat, ← himu, ← eva]; rfl)
  have HNX := Lib.hid (show m1.next = nx from hnx)
  have HIM := Lib.hid himu
  have HT9 := Lib.hid (HG.out.tab.below B9 htw)
  have HM9 := Lib.hid (show Mem W9 w.heap.size m1.a m1.cap m1.mem by rw [HE1.out.1, HE1.out.2.1, HE1.out.2.2]; exact Sl.In.below HG.out.mem B9)
  clear hb7 B7 b8 x8 x8z x8t o8 y8 y9 b9 o9 x9 x9z x9t B9 eva evb ua ub hva hvb
  go_wp2
  go_region
  obtain ⟨W, hW⟩ : ∃ W, W9.drew = W := ⟨_, rfl⟩
  rw [hW]
  have X := Lib.hid (show MB W w.heap.size m1 by rw [← hW]; exact HX9.out)
  have XZ := Lib.hid (show MB W (w.heap.size + 1) Mc.zero by rw [← hW]; exact HX9Z.out)
  have XT := Lib.hid (show MB W (w.heap.size + 1 + 1) m1.trap by rw [← hW]; exact HX9T.out)
  have Y := Lib.hid (show OB W w7.heap.size ⟨26, rd, ra, rb, imm⟩ by rw [← hW]; exact HY9.out)
  have BW := Lib.hid (show Below w.heap.size w W by rw [← hW]; exact HB9.out.drew)
  have TW := Lib.hid (show Tab W by rw [← hW]; exact HT9.out)
  have MW := Lib.hid (show Mem W w.heap.size m1.a m1.cap m1.mem by rw [← hW]; exact HM9.out)
  have hzW : w7.heap.size < W.heap.size := by rw [← hW]; exact hz9
  clear c0 c1 c2 c3 c4 p9 q9 r1 r2 j0 j1 j2 j3 h9 h8 h6 h5 h4 h3 h2 h1 l3 l6 hz9 s8 s9 c36 c38 f38 e36 f36 HX9 HX9Z HX9T HY9 HB9 HT9 HM9 hW hv HX HXZ HXT HM6 HT6 HB6 hz
  obtain ⟨c0, c1, c2, c3, c4⟩ := Y.out.cells
  have p9 := (X.out.tail hl1).1
  have q9 := (X.out.tail hl1).2.1
  have l4 := Y.out.load
  have f33 := X.out.frz 33
  have HBR := Lib.hid (show m1.branch ⟨26, rd, ra, rb, imm⟩ = if goesF 26 va vb = true then IntKind.u64.wrap (m1.pc + imu) else nx by unfold Mc.branch; rw [HVA.out, HVB.out, HNX.out, HIM.out])
  obtain ⟨g, hg⟩ : ∃ g, goesF 26 va vb = g := ⟨_, rfl⟩
  have HGO := Lib.hid hg
  clear hg
  go_wp2_with fail
  refine (goes_any 26 rd ra rb imm va vb W).mono ?_
  rintro e w11 ⟨rfl, hb11⟩
  rw [HGO.out]
  have BX := Lib.hid (BW.out.trans (hb11.mono (by omega)))
  have X1 := Lib.hid (X.out.below hb11 (by omega))
  have XZ1 := Lib.hid (XZ.out.below hb11 (by omega))
  have Y1 := Y.out.below hb11 (by omega)
  have hz11 := hb11.size
  clear c0 c1 c2 c3 c4 p9 q9 l4 f33 hb11
  obtain ⟨c0, c1, c2, c3, c4⟩ := Y1.cells
  have p9 := (X1.out.tail hl1).1
  cases g
  · obtain ⟨Wa, Wb, Wc, R, hR, ha, hb, ⟨u0, hu0⟩, f0, hpc, f32, lb, hc, lc, bc, only⟩ := mach_end X1.out hl1 XZ1.out rfl nx
    have HEX := Lib.hid (show m1.exec ⟨26, rd, ra, rb, imm⟩ = R by rw [exec_br (by simp), hR, HBR.out, HGO.out, if_neg (by simp)])
    have hfin := Lib.hid (BX.out.trans bc)
    have HRR := Lib.hid hR
    clear bc hR
    go_wp2
    refine bodyPost_ret (v := .agg R.cells.toArray) ?_ rfl ?_
    · simp [results, Tryd.results22, go_sem, lc]
    · rw [HEX.out]
      exact Comes.same (m' := R) HG.out.mem HG.out.nil (by rw [HRR.out]; exact HE1.out.2.2) (by rw [HRR.out]; exact HE1.out.1) (by rw [HRR.out]; exact HE1.out.2.1) hfin.out rfl
  · obtain ⟨Wa, Wb, Wc, R, hR, ha, hb, ⟨u0, hu0⟩, f0, hpc, f32, lb, hc, lc, bc, only⟩ := mach_end X1.out hl1 XZ1.out rfl (IntKind.u64.wrap (m1.pc + imu))
    have HEX := Lib.hid (show m1.exec ⟨26, rd, ra, rb, imm⟩ = R by rw [exec_br (by simp), hR, HBR.out, HGO.out, if_pos rfl])
    have hfin := Lib.hid (BX.out.trans bc)
    have HRR := Lib.hid hR
    clear bc hR
    go_wp2
    refine bodyPost_ret (v := .agg R.cells.toArray) ?_ rfl ?_
    · simp [results, Tryd.results22, go_sem, lc]
    · rw [HEX.out]
      exact Comes.same (m' := R) HG.out.mem HG.out.nil (by rw [HRR.out]; exact HE1.out.2.2) (by rw [HRR.out]; exact HE1.out.1) (by rw [HRR.out]; exact HE1.out.2.1) hfin.out rfl

end Go.Proofs.YtajhehmkdlebbaaDoor
namespace Go.Proofs.YtajhehmkdlebbaaDoor
open Go.ChangeShapes Go.WideShapes Go.ChangeAt Go.RowKit Go.Deep
set_option maxRecDepth 100000
attribute [-go_sem] loadVar storeVar
set_option maxHeartbeats 4000000 in
theorem step_k29 (m : Mc) {w : World} (hG : McG w m) (rd ra rb : Nat) (hrd : rd < 32) (hra : ra < 32) (hrb : rb < 32) (imm : Int) (hs : m.state = 0) (hf : m.tick.fetch = some ⟨29, rd, ra, rb, imm⟩) :
    Calls Tryd.prog 22 #[.agg m.cells.toArray] w (Comes w (m.tick.exec ⟨29, rd, ra, rb, imm⟩)) := by
  have hm := hG.ok
  have hl := hm.len
  obtain ⟨W1, W2, h1, h2, s1, s2, x1, x2, b2⟩ := mach_start m w
  have c36 := (x1.tail hl).2.2.2.2.1
  rw [hs] at c36
  have c38 := (x1.tail hl).2.2.2.2.2.2
  have f38 := x1.frz 38
  obtain ⟨m1, hm1⟩ : ∃ m1, m1 = m.tick := ⟨_, rfl⟩
  rw [← hm1] at hf ⊢
  have ok1 : m1.Ok := by rw [hm1]; exact hm.tick
  have hl1 := ok1.len
  obtain ⟨W3, h3, x3, s3, b3, o3⟩ := x1.step (m' := m1) ((Mc.setSteps hl _).trans (by rw [hm1]; rfl))
  have x3z := o3 _ _ (by omega) x2
  have l3 := x3.loadVar hl1
  obtain ⟨W4, h4, s4, x4t, b4, o4⟩ := mach_more W3
  rw [s3, s2] at s4 x4t b4
  obtain ⟨W5, h5, x5t, s5, b5, o5⟩ := x4t.lay rfl m1 hl1
  have e36 := (x5t.tail hl1).2.2.2.2.1
  have f36 := x5t.frz 36
  obtain ⟨W6, h6, x6t, s6, b6, o6⟩ := x5t.step (m' := m1.trap) (Mc.setState hl1 2)
  have x6 := o6 _ _ (by omega) (o5 _ _ (by omega) (o4 _ _ x3))
  have x6z := o6 _ _ (by omega) (o5 _ _ (by omega) (o4 _ _ x3z))
  have l6 := x6.loadVar hl1
  have B6 := (((b2.trans b3).trans (b4.mono (by omega))).trans (b5.mono (by omega))).trans (b6.mono (by omega))
  have hz : W3.heap.size = w.heap.size + 1 + 1 := by omega
  have hM6 := Sl.In.below hG.mem B6
  have hT6 := hG.tab.below B6 hG.tab.size
  have e1 : m1.a = m.a ∧ m1.cap = m.cap ∧ m1.mem = m.mem := by subst hm1; exact ⟨rfl, rfl, rfl⟩
  have e2 : m1.out = m.out := by subst hm1; rfl
  rw [← e1.1, ← e1.2.1, ← e1.2.2] at hM6
  have HM6 := Lib.hid hM6
  have HT6 := Lib.hid hT6
  have HB6 := Lib.hid B6
  have HX := Lib.hid x6
  have HXZ := Lib.hid x6z
  have HXT := Lib.hid x6t
  have HOK := Lib.hid ok1
  have HE1 := Lib.hid e1
  have HE2 := Lib.hid e2
  have HG := Lib.hid hG
  have hz6 : W6.heap.size = w.heap.size + 1 + 1 + 1 := by omega
  have HF := Lib.hid hf
  have ht0 := hT6.size
  have htw := hG.tab.size
  clear hM6 hT6 B6 x1 x2 b2 x3 x3z b3 o3 x4t b4 o4 x5t b5 o5 x6 x6z x6t b6 o6 ok1 e1 e2 hG hf hm hm1 hs
  go_enter Tryd.func22, Tryd.ntmps22
  go_wp2_with fail
  refine (fetch_any m1 HOK.out HT6.out (HM6.out.more (by omega))).mono ?_
  rintro e w7 ⟨rfl, hb7⟩
  have hz7 := hb7.size
  obtain ⟨W8, h8, s8, y8, b8, o8⟩ := op_new w7
  have B7 := HB6.out.trans (hb7.mono (by omega))
  have x8 := o8 _ _ (HX.out.below hb7 (by omega))
  have x8z := o8 _ _ (HXZ.out.below hb7 (by omega))
  have x8t := o8 _ _ (HXT.out.below hb7 (by omega))
  have hv : m1.fetchO.v = .agg #[.int .i64 29, .int .i64 rd, .int .i64 ra, .int .i64 rb, .int .i64 imm] := by unfold Mc.fetchO; rw [HF.out]; rfl
  rw [hv, HF.out]
  obtain ⟨W9, h9, y9, s9, b9, o9⟩ := y8.lay ⟨29, rd, ra, rb, imm⟩
  have B9 := (B7.trans (b8.mono (by omega))).trans (b9.mono (by omega))
  have x9 := o9 _ _ (by omega) x8
  have x9z := o9 _ _ (by omega) x8z
  have x9t := o9 _ _ (by omega) x8t
  have hz9 : w7.heap.size < W9.heap.size := by omega
  obtain ⟨c0, c1, c2, c3, c4⟩ := y9.cells
  have r1 := x9.reg hl1 (i := ra) (by omega)
  have r2 := x9.reg hl1 (i := rb) (by omega)
  have j0 : (0 : Int) ≤ (ra : Int) := by omega
  have j1 : (ra : Int) < 32 := by omega
  have j2 : (0 : Int) ≤ (rb : Int) := by omega
  have j3 : (rb : Int) < 32 := by omega
  obtain ⟨va, hva⟩ : ∃ v, v = m1.x.getD ra 0 := ⟨_, rfl⟩
  obtain ⟨vb, hvb⟩ : ∃ v, v = m1.x.getD rb 0 := ⟨_, rfl⟩
  rw [← hva] at r1
  rw [← hvb] at r2
  have eva : m1.reg ra = va := by rw [hva]; rfl
  have evb : m1.reg rb = vb := by rw [hvb]; rfl
  have ua : U64 va := by rw [← eva]; exact HOK.out.reg _
  have ub : U64 vb := by rw [← evb]; exact HOK.out.reg _
  have HVA := Lib.hid eva
  have HVB := Lib.hid evb
  have HUA := Lib.hid ua
  have HUB := Lib.hid ub
  have HX9 := Lib.hid x9
  have HX9Z := Lib.hid x9z
  have HX9T := Lib.hid x9t
  have HB9 := Lib.hid B9
  have HY9 := Lib.hid y9
  have p9 := (x9.tail hl1).1
  have q9 := (x9.tail hl1).2.1
  obtain ⟨imu, himu⟩ : ∃ v, IntKind.u64.wrap imm = v := ⟨_, rfl⟩
  obtain ⟨at_, hat⟩ : ∃ v, IntKind.u64.wrap (va + imu) = v := ⟨_, rfl⟩
  obtain ⟨nx, hnx⟩ : ∃ v, IntKind.u64.wrap (m1.pc + 4) = v := ⟨_, rfl⟩
  have HAT := Lib.hid (show m1.at_ ⟨29, rd, ra, rb, imm⟩ = at_ by rw [← hat, ← himu, ← eva]; rfl)
  have HNX := Lib.hid (show m1.next = nx from hnx)
  have HIM := Lib.hid himu
  have HT9 := Lib.hid (HG.out.tab.below B9 htw)
  have HM9 := Lib.hid (show Mem W9 w.heap.size m1.a m1.cap m1.mem by rw [HE1.out.1, HE1.out.2.1, HE1.out.2.2]; exact Sl.In.below HG.out.mem B9)
  clear hb7 B7 b8 x8 x8z x8t o8 y8 y9 b9 o9 x9 x9z x9t B9 eva evb ua ub hva hvb
  go_wp2
  go_region
  obtain ⟨W, hW⟩ : ∃ W, W9.drew = W := ⟨_, rfl⟩
  rw [hW]
  have X := Lib.hid (show MB W w.heap.size m1 by rw [← hW]; exact HX9.out)
  have XZ := Lib.hid (show MB W (w.heap.size + 1) Mc.zero by rw [← hW]; exact HX9Z.out)
  have XT := Lib.hid (show MB W (w.heap.size + 1 + 1) m1.trap by rw [← hW]; exact HX9T.out)
  have Y := Lib.hid (show OB W w7.heap.size ⟨29, rd, ra, rb, imm⟩ by rw [← hW]; exact HY9.out)
  have BW := Lib.hid (show Below w.heap.size w W by rw [← hW]; exact HB9.out.drew)
  have TW := Lib.hid (show Tab W by rw [← hW]; exact HT9.out)
  have MW := Lib.hid (show Mem W w.heap.size m1.a m1.cap m1.mem by rw [← hW]; exact HM9.out)
  have hzW : w7.heap.size < W.heap.size := by rw [← hW]; exact hz9
  clear c0 c1 c2 c3 c4 p9 q9 r1 r2 j0 j1 j2 j3 h9 h8 h6 h5 h4 h3 h2 h1 l3 l6 hz9 s8 s9 c36 c38 f38 e36 f36 HX9 HX9Z HX9T HY9 HB9 HT9 HM9 hW hv HX HXZ HXT HM6 HT6 HB6 hz
  obtain ⟨c0, c1, c2, c3, c4⟩ := Y.out.cells
  have p9 := (X.out.tail hl1).1
  have q9 := (X.out.tail hl1).2.1
  have l4 := Y.out.load
  have f33 := X.out.frz 33
  obtain ⟨dv, hdv⟩ : ∃ v, doesF 29 imm va vb m1.pc = v := ⟨_, rfl⟩
  have HDV := Lib.hid hdv
  clear hdv
  go_wp2_with fail
  refine (does_any 29 rd ra rb imm va vb m1.pc W HUA.out HUB.out).mono ?_
  rintro e w11 ⟨rfl, hb11⟩
  rw [HDV.out]
  have BX := Lib.hid (BW.out.trans (hb11.mono (by omega)))
  have X1 := Lib.hid (X.out.below hb11 (by omega))
  have XZ1 := Lib.hid (XZ.out.below hb11 (by omega))
  have Y1 := Y.out.below hb11 (by omega)
  have hz11 := hb11.size
  clear c0 c1 c2 c3 c4 p9 q9 l4 f33 hb11
  by_cases h0 : rd = 0
  · subst h0
    obtain ⟨c0, c1, c2, c3, c4⟩ := Y1.cells
    have p9 := (X1.out.tail hl1).1
    go_wp2_with fail
    refine (set_zero dv (by simpa using c1)).mono ?_
    rintro e w12 ⟨rfl, rfl⟩
    obtain ⟨Wa, Wb, Wc, R, hR, ha, hb, ⟨u0, hu0⟩, f0, hpc, f32, lb, hc, lc, bc, only⟩ := mach_end X1.out hl1 XZ1.out rfl (IntKind.u64.wrap (m1.pc + imu))
    have HEX := Lib.hid (show m1.exec ⟨29, (0 : Nat), ra, rb, imm⟩ = R by rw [exec_do (by simp), hR, HVA.out, HVB.out, HDV.out]; exact (congrArg (fun q : Mc => ({ q with pc := _ } : Mc)) (put_put0 dv)).trans (by unfold Mc.goto; rw [if_pos rfl, HIM.out]))
    have hfin := Lib.hid (BX.out.trans bc)
    have HRR := Lib.hid hR
    clear bc hR
    go_wp2
    refine bodyPost_ret (v := .agg R.cells.toArray) ?_ rfl ?_
    · simp [results, Tryd.results22, go_sem, lc]
    · rw [HEX.out]
      exact Comes.same (m' := R) HG.out.mem HG.out.nil (by rw [HRR.out]; exact HE1.out.2.2) (by rw [HRR.out]; exact HE1.out.1) (by rw [HRR.out]; exact HE1.out.2.1) hfin.out rfl
  · obtain ⟨c0, c1, c2, c3, c4⟩ := Y1.cells
    have p9 := (X1.out.tail hl1).1
    go_wp2_with fail
    refine (set_pos rd dv X1.out hl1 c1 (by omega) hrd).mono ?_
    rintro e w12 ⟨rfl, hw12⟩
    obtain ⟨w13, h13, x13, _, b13, o13⟩ := X1.out.step (m' := m1.put rd dv) (Mc.setReg hl1 hrd dv)
    rw [hw12, h13]
    have hl13 : (m1.put rd dv).x.length = 32 := by rw [Mc.put_len]; exact hl1
    have x13z := o13 _ _ (by omega) XZ1.out
    have BX := Lib.hid (BX.out.trans b13)
    have Y2 : OB w13 w7.heap.size ⟨29, rd, ra, rb, imm⟩ := by rw [← h13]; exact Y1.other (by show w7.heap.size ≠ w.heap.size; omega) _
    obtain ⟨c0, c1, c2, c3, c4⟩ := Y2.cells
    have p9 : w13.cell? ⟨w.heap.size, 32, none⟩ = some (.int .u64 m1.pc) := (x13.tail hl13).1
    obtain ⟨Wa, Wb, Wc, R, hR, ha, hb, ⟨u0, hu0⟩, f0, hpc, f32, lb, hc, lc, bc, only⟩ := mach_end x13 hl13 x13z rfl (IntKind.u64.wrap (m1.pc + imu))
    have HEX := Lib.hid (show m1.exec ⟨29, rd, ra, rb, imm⟩ = R by rw [exec_do (by simp), hR, HVA.out, HVB.out, HDV.out]; exact (by unfold Mc.goto; rw [if_pos rfl, HIM.out]))
    clear x13 x13z b13 o13 hw12
    have hfin := Lib.hid (BX.out.trans bc)
    have HRR := Lib.hid hR
    clear bc hR
    go_wp2
    refine bodyPost_ret (v := .agg R.cells.toArray) ?_ rfl ?_
    · simp [results, Tryd.results22, go_sem, lc]
    · rw [HEX.out]
      exact Comes.same (m' := R) HG.out.mem HG.out.nil (by rw [HRR.out]; exact HE1.out.2.2) (by rw [HRR.out]; exact HE1.out.1) (by rw [HRR.out]; exact HE1.out.2.1) hfin.out rfl

set_option maxHeartbeats 4000000 in
theorem step_k30 (m : Mc) {w : World} (hG : McG w m) (rd ra rb : Nat) (hrd : rd < 32) (hra : ra < 32) (hrb : rb < 32) (imm : Int) (hs : m.state = 0) (hf : m.tick.fetch = some ⟨30, rd, ra, rb, imm⟩) :
    Calls Tryd.prog 22 #[.agg m.cells.toArray] w (Comes w (m.tick.exec ⟨30, rd, ra, rb, imm⟩)) := by
  have hm := hG.ok
  have hl := hm.len
  obtain ⟨W1, W2, h1, h2, s1, s2, x1, x2, b2⟩ := mach_start m w
  have c36 := (x1.tail hl).2.2.2.2.1
  rw [hs] at c36
  have c38 := (x1.tail hl).2.2.2.2.2.2
  have f38 := x1.frz 38
  obtain ⟨m1, hm1⟩ : ∃ m1, m1 = m.tick := ⟨_, rfl⟩
  rw [← hm1] at hf ⊢
  have ok1 : m1.Ok := by rw [hm1]; exact hm.tick
  have hl1 := ok1.len
  obtain ⟨W3, h3, x3, s3, b3, o3⟩ := x1.step (m' := m1) ((Mc.setSteps hl _).trans (by rw [hm1]; rfl))
  have x3z := o3 _ _ (by omega) x2
  have l3 := x3.loadVar hl1
  obtain ⟨W4, h4, s4, x4t, b4, o4⟩ := mach_more W3
  rw [s3, s2] at s4 x4t b4
  obtain ⟨W5, h5, x5t, s5, b5, o5⟩ := x4t.lay rfl m1 hl1
  have e36 := (x5t.tail hl1).2.2.2.2.1
  have f36 := x5t.frz 36
  obtain ⟨W6, h6, x6t, s6, b6, o6⟩ := x5t.step (m' := m1.trap) (Mc.setState hl1 2)
  have x6 := o6 _ _ (by omega) (o5 _ _ (by omega) (o4 _ _ x3))
  have x6z := o6 _ _ (by omega) (o5 _ _ (by omega) (o4 _ _ x3z))
  have l6 := x6.loadVar hl1
  have B6 := (((b2.trans b3).trans (b4.mono (by omega))).trans (b5.mono (by omega))).trans (b6.mono (by omega))
  have hz : W3.heap.size = w.heap.size + 1 + 1 := by omega
  have hM6 := Sl.In.below hG.mem B6
  have hT6 := hG.tab.below B6 hG.tab.size
  have e1 : m1.a = m.a ∧ m1.cap = m.cap ∧ m1.mem = m.mem := by subst hm1; exact ⟨rfl, rfl, rfl⟩
  have e2 : m1.out = m.out := by subst hm1; rfl
  rw [← e1.1, ← e1.2.1, ← e1.2.2] at hM6
  have HM6 := Lib.hid hM6
  have HT6 := Lib.hid hT6
  have HB6 := Lib.hid B6
  have HX := Lib.hid x6
  have HXZ := Lib.hid x6z
  have HXT := Lib.hid x6t
  have HOK := Lib.hid ok1
  have HE1 := Lib.hid e1
  have HE2 := Lib.hid e2
  have HG := Lib.hid hG
  have hz6 : W6.heap.size = w.heap.size + 1 + 1 + 1 := by omega
  have HF := Lib.hid hf
  have ht0 := hT6.size
  have htw := hG.tab.size
  clear hM6 hT6 B6 x1 x2 b2 x3 x3z b3 o3 x4t b4 o4 x5t b5 o5 x6 x6z x6t b6 o6 ok1 e1 e2 hG hf hm hm1 hs
  go_enter Tryd.func22, Tryd.ntmps22
  go_wp2_with fail
  refine (fetch_any m1 HOK.out HT6.out (HM6.out.more (by omega))).mono ?_
  rintro e w7 ⟨rfl, hb7⟩
  have hz7 := hb7.size
  obtain ⟨W8, h8, s8, y8, b8, o8⟩ := op_new w7
  have B7 := HB6.out.trans (hb7.mono (by omega))
  have x8 := o8 _ _ (HX.out.below hb7 (by omega))
  have x8z := o8 _ _ (HXZ.out.below hb7 (by omega))
  have x8t := o8 _ _ (HXT.out.below hb7 (by omega))
  have hv : m1.fetchO.v = .agg #[.int .i64 30, .int .i64 rd, .int .i64 ra, .int .i64 rb, .int .i64 imm] := by unfold Mc.fetchO; rw [HF.out]; rfl
  rw [hv, HF.out]
  obtain ⟨W9, h9, y9, s9, b9, o9⟩ := y8.lay ⟨30, rd, ra, rb, imm⟩
  have B9 := (B7.trans (b8.mono (by omega))).trans (b9.mono (by omega))
  have x9 := o9 _ _ (by omega) x8
  have x9z := o9 _ _ (by omega) x8z
  have x9t := o9 _ _ (by omega) x8t
  have hz9 : w7.heap.size < W9.heap.size := by omega
  obtain ⟨c0, c1, c2, c3, c4⟩ := y9.cells
  have r1 := x9.reg hl1 (i := ra) (by omega)
  have r2 := x9.reg hl1 (i := rb) (by omega)
  have j0 : (0 : Int) ≤ (ra : Int) := by omega
  have j1 : (ra : Int) < 32 := by omega
  have j2 : (0 : Int) ≤ (rb : Int) := by omega
  have j3 : (rb : Int) < 32 := by omega
  obtain ⟨va, hva⟩ : ∃ v, v = m1.x.getD ra 0 := ⟨_, rfl⟩
  obtain ⟨vb, hvb⟩ : ∃ v, v = m1.x.getD rb 0 := ⟨_, rfl⟩
  rw [← hva] at r1
  rw [← hvb] at r2
  have eva : m1.reg ra = va := by rw [hva]; rfl
  have evb : m1.reg rb = vb := by rw [hvb]; rfl
  have ua : U64 va := by rw [← eva]; exact HOK.out.reg _
  have ub : U64 vb := by rw [← evb]; exact HOK.out.reg _
  have HVA := Lib.hid eva
  have HVB := Lib.hid evb
  have HUA := Lib.hid ua
  have HUB := Lib.hid ub
  have HX9 := Lib.hid x9
  have HX9Z := Lib.hid x9z
  have HX9T := Lib.hid x9t
  have HB9 := Lib.hid B9
  have HY9 := Lib.hid y9
  have p9 := (x9.tail hl1).1
  have q9 := (x9.tail hl1).2.1
  obtain ⟨imu, himu⟩ : ∃ v, IntKind.u64.wrap imm = v := ⟨_, rfl⟩
  obtain ⟨at_, hat⟩ : ∃ v, IntKind.u64.wrap (va + imu) = v := ⟨_, rfl⟩
  obtain ⟨nx, hnx⟩ : ∃ v, IntKind.u64.wrap (m1.pc + 4) = v := ⟨_, rfl⟩
  have HAT := Lib.hid (show m1.at_ ⟨30, rd, ra, rb, imm⟩ = at_ by rw [← hat, ← himu, ← eva]; rfl)
  have HNX := Lib.hid (show m1.next = nx from hnx)
  have HIM := Lib.hid himu
  have HT9 := Lib.hid (HG.out.tab.below B9 htw)
  have HM9 := Lib.hid (show Mem W9 w.heap.size m1.a m1.cap m1.mem by rw [HE1.out.1, HE1.out.2.1, HE1.out.2.2]; exact Sl.In.below HG.out.mem B9)
  clear hb7 B7 b8 x8 x8z x8t o8 y8 y9 b9 o9 x9 x9z x9t B9 eva evb ua ub hva hvb
  go_wp2
  go_region
  obtain ⟨W, hW⟩ : ∃ W, W9.drew = W := ⟨_, rfl⟩
  rw [hW]
  have X := Lib.hid (show MB W w.heap.size m1 by rw [← hW]; exact HX9.out)
  have XZ := Lib.hid (show MB W (w.heap.size + 1) Mc.zero by rw [← hW]; exact HX9Z.out)
  have XT := Lib.hid (show MB W (w.heap.size + 1 + 1) m1.trap by rw [← hW]; exact HX9T.out)
  have Y := Lib.hid (show OB W w7.heap.size ⟨30, rd, ra, rb, imm⟩ by rw [← hW]; exact HY9.out)
  have BW := Lib.hid (show Below w.heap.size w W by rw [← hW]; exact HB9.out.drew)
  have TW := Lib.hid (show Tab W by rw [← hW]; exact HT9.out)
  have MW := Lib.hid (show Mem W w.heap.size m1.a m1.cap m1.mem by rw [← hW]; exact HM9.out)
  have hzW : w7.heap.size < W.heap.size := by rw [← hW]; exact hz9
  clear c0 c1 c2 c3 c4 p9 q9 r1 r2 j0 j1 j2 j3 h9 h8 h6 h5 h4 h3 h2 h1 l3 l6 hz9 s8 s9 c36 c38 f38 e36 f36 HX9 HX9Z HX9T HY9 HB9 HT9 HM9 hW hv HX HXZ HXT HM6 HT6 HB6 hz
  obtain ⟨c0, c1, c2, c3, c4⟩ := Y.out.cells
  have p9 := (X.out.tail hl1).1
  have q9 := (X.out.tail hl1).2.1
  have l4 := Y.out.load
  have f33 := X.out.frz 33
  obtain ⟨at2, hat2⟩ : ∃ v, bits .andNot .u64 at_ 1 = v := ⟨_, rfl⟩
  have HAT2 := Lib.hid (show at_ / 2 * 2 = at2 by rw [← hat2]; exact (andNot_one (show U64 at_ by rw [← HAT.out]; exact U64.wrap _)).symm)
  obtain ⟨dv, hdv⟩ : ∃ v, doesF 30 imm va vb m1.pc = v := ⟨_, rfl⟩
  have HDV := Lib.hid hdv
  clear hdv
  go_wp2_with fail
  refine (does_any 30 rd ra rb imm va vb m1.pc W HUA.out HUB.out).mono ?_
  rintro e w11 ⟨rfl, hb11⟩
  rw [HDV.out]
  have BX := Lib.hid (BW.out.trans (hb11.mono (by omega)))
  have X1 := Lib.hid (X.out.below hb11 (by omega))
  have XZ1 := Lib.hid (XZ.out.below hb11 (by omega))
  have Y1 := Y.out.below hb11 (by omega)
  have hz11 := hb11.size
  clear c0 c1 c2 c3 c4 p9 q9 l4 f33 hb11
  by_cases h0 : rd = 0
  · subst h0
    obtain ⟨c0, c1, c2, c3, c4⟩ := Y1.cells
    have p9 := (X1.out.tail hl1).1
    go_wp2_with fail
    refine (set_zero dv (by simpa using c1)).mono ?_
    rintro e w12 ⟨rfl, rfl⟩
    obtain ⟨Wa, Wb, Wc, R, hR, ha, hb, ⟨u0, hu0⟩, f0, hpc, f32, lb, hc, lc, bc, only⟩ := mach_end X1.out hl1 XZ1.out rfl at2
    have HEX := Lib.hid (show m1.exec ⟨30, (0 : Nat), ra, rb, imm⟩ = R by rw [exec_do (by simp), hR, HVA.out, HVB.out, HDV.out]; exact (congrArg (fun q : Mc => ({ q with pc := _ } : Mc)) (put_put0 dv)).trans (by unfold Mc.goto; rw [if_neg (by simp), if_pos rfl, HAT.out, HAT2.out]))
    have hfin := Lib.hid (BX.out.trans bc)
    have HRR := Lib.hid hR
    clear bc hR
    go_wp2
    refine bodyPost_ret (v := .agg R.cells.toArray) ?_ rfl ?_
    · simp [results, Tryd.results22, go_sem, lc]
    · rw [HEX.out]
      exact Comes.same (m' := R) HG.out.mem HG.out.nil (by rw [HRR.out]; exact HE1.out.2.2) (by rw [HRR.out]; exact HE1.out.1) (by rw [HRR.out]; exact HE1.out.2.1) hfin.out rfl
  · obtain ⟨c0, c1, c2, c3, c4⟩ := Y1.cells
    have p9 := (X1.out.tail hl1).1
    go_wp2_with fail
    refine (set_pos rd dv X1.out hl1 c1 (by omega) hrd).mono ?_
    rintro e w12 ⟨rfl, hw12⟩
    obtain ⟨w13, h13, x13, _, b13, o13⟩ := X1.out.step (m' := m1.put rd dv) (Mc.setReg hl1 hrd dv)
    rw [hw12, h13]
    have hl13 : (m1.put rd dv).x.length = 32 := by rw [Mc.put_len]; exact hl1
    have x13z := o13 _ _ (by omega) XZ1.out
    have BX := Lib.hid (BX.out.trans b13)
    have Y2 : OB w13 w7.heap.size ⟨30, rd, ra, rb, imm⟩ := by rw [← h13]; exact Y1.other (by show w7.heap.size ≠ w.heap.size; omega) _
    obtain ⟨c0, c1, c2, c3, c4⟩ := Y2.cells
    have p9 : w13.cell? ⟨w.heap.size, 32, none⟩ = some (.int .u64 m1.pc) := (x13.tail hl13).1
    obtain ⟨Wa, Wb, Wc, R, hR, ha, hb, ⟨u0, hu0⟩, f0, hpc, f32, lb, hc, lc, bc, only⟩ := mach_end x13 hl13 x13z rfl at2
    have HEX := Lib.hid (show m1.exec ⟨30, rd, ra, rb, imm⟩ = R by rw [exec_do (by simp), hR, HVA.out, HVB.out, HDV.out]; exact (by unfold Mc.goto; rw [if_neg (by simp), if_pos rfl, HAT.out, HAT2.out]))
    clear x13 x13z b13 o13 hw12
    have hfin := Lib.hid (BX.out.trans bc)
    have HRR := Lib.hid hR
    clear bc hR
    go_wp2
    refine bodyPost_ret (v := .agg R.cells.toArray) ?_ rfl ?_
    · simp [results, Tryd.results22, go_sem, lc]
    · rw [HEX.out]
      exact Comes.same (m' := R) HG.out.mem HG.out.nil (by rw [HRR.out]; exact HE1.out.2.2) (by rw [HRR.out]; exact HE1.out.1) (by rw [HRR.out]; exact HE1.out.2.1) hfin.out rfl

set_option maxHeartbeats 4000000 in
theorem step_k31 (m : Mc) {w : World} (hG : McG w m) (ho : m.out.size ≤ 900000000000000) (rd ra rb : Nat) (_hrd : rd < 32) (hra : ra < 32) (hrb : rb < 32) (imm : Int) (hs : m.state = 0) (hf : m.tick.fetch = some ⟨31, rd, ra, rb, imm⟩) :
    Calls Tryd.prog 22 #[.agg m.cells.toArray] w (Comes w (m.tick.exec ⟨31, rd, ra, rb, imm⟩)) := by
  have hm := hG.ok
  have hl := hm.len
  obtain ⟨W1, W2, h1, h2, s1, s2, x1, x2, b2⟩ := mach_start m w
  have c36 := (x1.tail hl).2.2.2.2.1
  rw [hs] at c36
  have c38 := (x1.tail hl).2.2.2.2.2.2
  have f38 := x1.frz 38
  obtain ⟨m1, hm1⟩ : ∃ m1, m1 = m.tick := ⟨_, rfl⟩
  rw [← hm1] at hf ⊢
  have ok1 : m1.Ok := by rw [hm1]; exact hm.tick
  have hl1 := ok1.len
  obtain ⟨W3, h3, x3, s3, b3, o3⟩ := x1.step (m' := m1) ((Mc.setSteps hl _).trans (by rw [hm1]; rfl))
  have x3z := o3 _ _ (by omega) x2
  have l3 := x3.loadVar hl1
  obtain ⟨W4, h4, s4, x4t, b4, o4⟩ := mach_more W3
  rw [s3, s2] at s4 x4t b4
  obtain ⟨W5, h5, x5t, s5, b5, o5⟩ := x4t.lay rfl m1 hl1
  have e36 := (x5t.tail hl1).2.2.2.2.1
  have f36 := x5t.frz 36
  obtain ⟨W6, h6, x6t, s6, b6, o6⟩ := x5t.step (m' := m1.trap) (Mc.setState hl1 2)
  have x6 := o6 _ _ (by omega) (o5 _ _ (by omega) (o4 _ _ x3))
  have x6z := o6 _ _ (by omega) (o5 _ _ (by omega) (o4 _ _ x3z))
  have l6 := x6.loadVar hl1
  have B6 := (((b2.trans b3).trans (b4.mono (by omega))).trans (b5.mono (by omega))).trans (b6.mono (by omega))
  have hz : W3.heap.size = w.heap.size + 1 + 1 := by omega
  have hM6 := Sl.In.below hG.mem B6
  have hT6 := hG.tab.below B6 hG.tab.size
  have e1 : m1.a = m.a ∧ m1.cap = m.cap ∧ m1.mem = m.mem := by subst hm1; exact ⟨rfl, rfl, rfl⟩
  have e2 : m1.out = m.out := by subst hm1; rfl
  rw [← e1.1, ← e1.2.1, ← e1.2.2] at hM6
  have HM6 := Lib.hid hM6
  have HT6 := Lib.hid hT6
  have HB6 := Lib.hid B6
  have HX := Lib.hid x6
  have HXZ := Lib.hid x6z
  have HXT := Lib.hid x6t
  have HOK := Lib.hid ok1
  have HE1 := Lib.hid e1
  have HE2 := Lib.hid e2
  have HG := Lib.hid hG
  have hz6 : W6.heap.size = w.heap.size + 1 + 1 + 1 := by omega
  have HF := Lib.hid hf
  have ht0 := hT6.size
  have htw := hG.tab.size
  clear hM6 hT6 B6 x1 x2 b2 x3 x3z b3 o3 x4t b4 o4 x5t b5 o5 x6 x6z x6t b6 o6 ok1 e1 e2 hG hf hm hm1 hs
  go_enter Tryd.func22, Tryd.ntmps22
  go_wp2_with fail
  refine (fetch_any m1 HOK.out HT6.out (HM6.out.more (by omega))).mono ?_
  rintro e w7 ⟨rfl, hb7⟩
  have hz7 := hb7.size
  obtain ⟨W8, h8, s8, y8, b8, o8⟩ := op_new w7
  have B7 := HB6.out.trans (hb7.mono (by omega))
  have x8 := o8 _ _ (HX.out.below hb7 (by omega))
  have x8z := o8 _ _ (HXZ.out.below hb7 (by omega))
  have x8t := o8 _ _ (HXT.out.below hb7 (by omega))
  have hv : m1.fetchO.v = .agg #[.int .i64 31, .int .i64 rd, .int .i64 ra, .int .i64 rb, .int .i64 imm] := by unfold Mc.fetchO; rw [HF.out]; rfl
  rw [hv, HF.out]
  obtain ⟨W9, h9, y9, s9, b9, o9⟩ := y8.lay ⟨31, rd, ra, rb, imm⟩
  have B9 := (B7.trans (b8.mono (by omega))).trans (b9.mono (by omega))
  have x9 := o9 _ _ (by omega) x8
  have x9z := o9 _ _ (by omega) x8z
  have x9t := o9 _ _ (by omega) x8t
  have hz9 : w7.heap.size < W9.heap.size := by omega
  obtain ⟨c0, c1, c2, c3, c4⟩ := y9.cells
  have r1 := x9.reg hl1 (i := ra) (by omega)
  have r2 := x9.reg hl1 (i := rb) (by omega)
  have j0 : (0 : Int) ≤ (ra : Int) := by omega
  have j1 : (ra : Int) < 32 := by omega
  have j2 : (0 : Int) ≤ (rb : Int) := by omega
  have j3 : (rb : Int) < 32 := by omega
  obtain ⟨va, hva⟩ : ∃ v, v = m1.x.getD ra 0 := ⟨_, rfl⟩
  obtain ⟨vb, hvb⟩ : ∃ v, v = m1.x.getD rb 0 := ⟨_, rfl⟩
  rw [← hva] at r1
  rw [← hvb] at r2
  have eva : m1.reg ra = va := by rw [hva]; rfl
  have evb : m1.reg rb = vb := by rw [hvb]; rfl
  have ua : U64 va := by rw [← eva]; exact HOK.out.reg _
  have ub : U64 vb := by rw [← evb]; exact HOK.out.reg _
  have HVA := Lib.hid eva
  have HVB := Lib.hid evb
  have HUA := Lib.hid ua
  have HUB := Lib.hid ub
  have HX9 := Lib.hid x9
  have HX9Z := Lib.hid x9z
  have HX9T := Lib.hid x9t
  have HB9 := Lib.hid B9
  have HY9 := Lib.hid y9
  have p9 := (x9.tail hl1).1
  have q9 := (x9.tail hl1).2.1
  obtain ⟨imu, himu⟩ : ∃ v, IntKind.u64.wrap imm = v := ⟨_, rfl⟩
  obtain ⟨at_, hat⟩ : ∃ v, IntKind.u64.wrap (va + imu) = v := ⟨_, rfl⟩
  obtain ⟨nx, hnx⟩ : ∃ v, IntKind.u64.wrap (m1.pc + 4) = v := ⟨_, rfl⟩
  have HAT := Lib.hid (show m1.at_ ⟨31, rd, ra, rb, imm⟩ = at_ by rw [← hat, ← himu, ← eva]; rfl)
  have HNX := Lib.hid (show m1.next = nx from hnx)
  have HIM := Lib.hid himu
  have HT9 := Lib.hid (HG.out.tab.below B9 htw)
  have HM9 := Lib.hid (show Mem W9 w.heap.size m1.a m1.cap m1.mem by rw [HE1.out.1, HE1.out.2.1, HE1.out.2.2]; exact Sl.In.below HG.out.mem B9)
  clear hb7 B7 b8 x8 x8z x8t o8 y8 y9 b9 o9 x9 x9z x9t B9 eva evb ua ub hva hvb
  go_wp2
  go_region
  obtain ⟨W, hW⟩ : ∃ W, W9.drew = W := ⟨_, rfl⟩
  rw [hW]
  have X := Lib.hid (show MB W w.heap.size m1 by rw [← hW]; exact HX9.out)
  have XZ := Lib.hid (show MB W (w.heap.size + 1) Mc.zero by rw [← hW]; exact HX9Z.out)
  have XT := Lib.hid (show MB W (w.heap.size + 1 + 1) m1.trap by rw [← hW]; exact HX9T.out)
  have Y := Lib.hid (show OB W w7.heap.size ⟨31, rd, ra, rb, imm⟩ by rw [← hW]; exact HY9.out)
  have BW := Lib.hid (show Below w.heap.size w W by rw [← hW]; exact HB9.out.drew)
  have TW := Lib.hid (show Tab W by rw [← hW]; exact HT9.out)
  have MW := Lib.hid (show Mem W w.heap.size m1.a m1.cap m1.mem by rw [← hW]; exact HM9.out)
  have hzW : w7.heap.size < W.heap.size := by rw [← hW]; exact hz9
  clear c0 c1 c2 c3 c4 p9 q9 r1 r2 j0 j1 j2 j3 h9 h8 h6 h5 h4 h3 h2 h1 l3 l6 hz9 s8 s9 c36 c38 f38 e36 f36 HX9 HX9Z HX9T HY9 HB9 HT9 HM9 hW hv HX HXZ HXT HM6 HT6 HB6 hz
  obtain ⟨c0, c1, c2, c3, c4⟩ := Y.out.cells
  have p9 := (X.out.tail hl1).1
  have q9 := (X.out.tail hl1).2.1
  have l4 := Y.out.load
  have f33 := X.out.frz 33
  have l1 := X.out.loadVar hl1
  go_wp2_with fail
  refine (calls_any m1 W HOK.out (by rw [HE2.out]; omega)).mono ?_
  rintro e w11 ⟨rfl, hb11⟩
  have BX := Lib.hid (BW.out.trans (hb11.mono (by omega)))
  have XZ1 := Lib.hid (XZ.out.below hb11 (by omega))
  obtain ⟨R, hR⟩ : ∃ R, R = m1.calls := ⟨_, rfl⟩
  rw [← hR]
  have hlR : R.x.length = 32 := by rw [hR]; exact HOK.out.calls.len
  obtain ⟨Wc, hc, lc, bc⟩ := mach_out (m := R) XZ1.out rfl hlR
  have HEX := Lib.hid (show m1.exec ⟨31, rd, ra, rb, imm⟩ = R by rw [exec_ecall rfl, hR])
  have hfin := Lib.hid (BX.out.trans bc)
  have HRR := Lib.hid hR
  clear bc hR hb11
  go_wp2
  refine bodyPost_ret (v := .agg R.cells.toArray) ?_ rfl ?_
  · simp [results, Tryd.results22, go_sem, lc]
  · rw [HEX.out]
    exact Comes.same (m' := R) HG.out.mem HG.out.nil (by rw [HRR.out, Mc.calls_mem]; exact HE1.out.2.2) (by rw [HRR.out, (calls_place m1).1]; exact HE1.out.1) (by rw [HRR.out, (calls_place m1).2]; exact HE1.out.2.1) hfin.out rfl

end Go.Proofs.YtajhehmkdlebbaaDoor
namespace Go.Proofs.YtajhehmkdlebbaaDoor
open Go.ChangeShapes Go.WideShapes Go.ChangeAt Go.RowKit Go.Deep
theorem step_any (m : Mc) {w : World} (hG : McG w m) (ho : m.out.size ≤ 900000000000000) :
    Calls Tryd.prog 22 #[.agg m.cells.toArray] w (Comes w m.step) := by
  by_cases hs : m.state = 0
  · unfold Mc.step
    rw [if_neg (by simp [hs])]
    cases hf : m.tick.fetch with
    | none =>
      have hf' : Mc.fetch { m with steps := IntKind.u64.wrap (m.steps + 1) } = none := hf
      rw [hf']
      exact step_none m hG hs hf
    | some o =>
      have hf' : Mc.fetch { m with steps := IntKind.u64.wrap (m.steps + 1) } = some o := hf
      rw [hf']
      have hb : (1 ≤ o.kind ∧ o.kind ≤ 31) ∧ (0 ≤ o.rd ∧ o.rd ≤ 31) ∧ (0 ≤ o.a ∧ o.a ≤ 31) ∧ (0 ≤ o.b ∧ o.b ≤ 31) := by
        unfold Mc.fetch at hf
        split at hf
        · split at hf
          · exact takeO_bd hf
          · cases hf
        · cases hf
      obtain ⟨k, rd, ra, rb, imm⟩ := o
      obtain ⟨⟨k1, k2⟩, ⟨d1, d2⟩, ⟨a1, a2⟩, ⟨b1, b2⟩⟩ := hb
      simp only at k1 k2 d1 d2 a1 a2 b1 b2
      obtain ⟨rd, rfl⟩ := Int.eq_ofNat_of_zero_le d1
      obtain ⟨ra, rfl⟩ := Int.eq_ofNat_of_zero_le a1
      obtain ⟨rb, rfl⟩ := Int.eq_ofNat_of_zero_le b1
      show Calls _ _ _ w (Comes w (m.tick.exec _))
      have hc : (k ≠ 31 ∧ ¬ (19 ≤ k ∧ k ≤ 26) ∧ k ≠ 29 ∧ k ≠ 30) ∨ k = 19 ∨ k = 20 ∨ k = 21 ∨ k = 22 ∨ k = 23 ∨ k = 24 ∨ k = 25 ∨ k = 26 ∨ k = 29 ∨ k = 30 ∨ k = 31 := by omega
      rcases hc with hk | rfl | rfl | rfl | rfl | rfl | rfl | rfl | rfl | rfl | rfl | rfl
      · exact step_kd m hG k hk rd ra rb (by omega) (by omega) (by omega) imm hs hf
      · exact step_k19 m hG rd ra rb (by omega) (by omega) (by omega) imm hs hf
      · exact step_k20 m hG rd ra rb (by omega) (by omega) (by omega) imm hs hf
      · exact step_k21 m hG rd ra rb (by omega) (by omega) (by omega) imm hs hf
      · exact step_k22 m hG rd ra rb (by omega) (by omega) (by omega) imm hs hf
      · exact step_k23 m hG rd ra rb (by omega) (by omega) (by omega) imm hs hf
      · exact step_k24 m hG rd ra rb (by omega) (by omega) (by omega) imm hs hf
      · exact step_k25 m hG rd ra rb (by omega) (by omega) (by omega) imm hs hf
      · exact step_k26 m hG rd ra rb (by omega) (by omega) (by omega) imm hs hf
      · exact step_k29 m hG rd ra rb (by omega) (by omega) (by omega) imm hs hf
      · exact step_k30 m hG rd ra rb (by omega) (by omega) (by omega) imm hs hf
      · exact step_k31 m hG ho rd ra rb (by omega) (by omega) (by omega) imm hs hf
  · rw [Mc.step_done hs]
    exact step_stopped m hG hs
end Go.Proofs.YtajhehmkdlebbaaDoor
