/- The reference's Step: stores. The reference's Step: branches. -/
import Derived.Test.YtajhehmkdlebbaaDoorQRvRStep0
namespace Go.Proofs.YtajhehmkdlebbaaDoor
open Go.ChangeShapes Go.WideShapes Go.ChangeAt Go.RowKit Go.Deep
set_option maxRecDepth 100000
attribute [-go_sem] loadVar storeVar
set_option maxHeartbeats 4000000 in
theorem rstep_k21 (m : Mc) {w : World} (hG : McG w m) (h00 : m.reg 0 = 0) (rd ra rb : Nat) (_hrd : rd < 32) (hra : ra < 32) (hrb : rb < 32) (imm : Int) (hs : m.state = 0) (hf : m.tick.fetch = some ⟨21, rd, ra, rb, imm⟩) :
    Calls Tryd.prog 23 #[.agg m.cells.toArray] w (Comes w (m.tick.exec ⟨21, rd, ra, rb, imm⟩)) := by
  have hm := hG.ok
  have hl := hm.len
  obtain ⟨W1, W2, h1, h2, s1, s2, x1, x2, b2⟩ := mach_start m w
  have c36 := (x1.tail hl).2.2.2.2.1
  rw [hs] at c36
  have c38 := (x1.tail hl).2.2.2.2.2.2
  have f38 := x1.frz 38
  obtain ⟨m1, hm1⟩ : ∃ m1, m1 = m.tick := ⟨_, rfl⟩
  rw [← hm1] at hf ⊢
  have ok1 : m1.Ok := by rw [hm1]; exact hm.tick
  have hl1 := ok1.len
  obtain ⟨W3, h3, x3, s3, b3, o3⟩ := x1.step (m' := m1) ((Mc.setSteps hl _).trans (by rw [hm1]; rfl))
  have x3z := o3 _ _ (by omega) x2
  have p3 := (x3.tail hl1).1
  have q3 := (x3.tail hl1).2.1
  have B3 := b2.trans b3
  have hM3 := Sl.In.below hG.mem B3
  have e1 : m1.a = m.a ∧ m1.cap = m.cap ∧ m1.mem = m.mem := by subst hm1; exact ⟨rfl, rfl, rfl⟩
  have e2 : m1.out = m.out := by subst hm1; rfl
  rw [← e1.1, ← e1.2.1, ← e1.2.2] at hM3
  have HM3 := Lib.hid hM3
  have HB3 := Lib.hid B3
  have HX := Lib.hid x3
  have HXZ := Lib.hid x3z
  have HOK := Lib.hid ok1
  have HE1 := Lib.hid e1
  have HE2 := Lib.hid e2
  have HG := Lib.hid hG
  have hz3 : W3.heap.size = w.heap.size + 1 + 1 := by omega
  have hpb := ok1.pc_
  unfold U64 at hpb
  obtain ⟨hp0, hp1⟩ := hpb
  have HR0 := Lib.hid (show m1.reg 0 = 0 by rw [hm1]; exact h00)
  obtain ⟨E, hE⟩ : ∃ E, loadE m1.mem m1.pc 4 1 = E := ⟨_, rfl⟩
  obtain ⟨V, hV⟩ : ∃ V, loadV m1.mem m1.pc 4 1 = V := ⟨_, rfl⟩
  obtain ⟨e4, eE, eT⟩ := fetch_some hf
  rw [hE] at eE
  subst eE
  rw [hV] at eT
  have HTK := Lib.hid eT
  have q4 : (m1.pc % 4 == 0) = true := beq_iff_eq.2 e4
  clear eT hf
  have HE := Lib.hid hE
  have HV := Lib.hid hV
  clear hM3 B3 x1 x2 b2 x3 x3z b3 o3 ok1 e1 e2 hG hm hm1 hs hE hV h00
  go_enter Tryd.func23, Tryd.ntmps23
  go_wp2_with fail
  refine (rload_any m1.pc 4 1 ⟨hp0, hp1⟩ (by omega) HM3.out (by omega) HOK.out.wf HOK.out.small).mono ?_
  rintro e w4 ⟨rfl, hb4⟩
  rw [HE.out, HV.out]
  have hz4 := hb4.size
  have B4 := Lib.hid (HB3.out.trans (hb4.mono (by omega)))
  have X4 := Lib.hid (HX.out.below hb4 (by omega))
  have XZ4 := Lib.hid (HXZ.out.below hb4 (by omega))
  have p4 := (X4.out.tail hl1).1
  clear hb4
  have l1 := X4.out.loadVar hl1
  go_wp2_with fail
  refine (rtake_any _ w4 (u32_wrap_bd V)).mono ?_
  rintro e w5 ⟨rfl, hb5⟩
  rw [takeV_eq, takeE_eq, HTK.out]
  have hz5 := hb5.size
  obtain ⟨W6, h6, s6, y6, b6, o6⟩ := op_new w5
  have B5 := B4.out.trans (hb5.mono (by omega))
  have x6 := o6 _ _ (X4.out.below hb5 (by omega))
  have x6z := o6 _ _ (XZ4.out.below hb5 (by omega))
  have hv : (Option.getD (some (⟨21, rd, ra, rb, imm⟩ : OpD)) OpD.zero).v = .agg #[.int .i64 21, .int .i64 rd, .int .i64 ra, .int .i64 rb, .int .i64 imm] := rfl
  rw [hv]
  obtain ⟨W7, h7, y7, s7, b7, o7⟩ := y6.lay ⟨21, rd, ra, rb, imm⟩
  have x7 := o7 _ _ (by omega) x6
  have x7z := o7 _ _ (by omega) x6z
  have B7 := (B5.trans (b6.mono (by omega))).trans (b7.mono (by omega))
  have g7 := y7.cells
  obtain ⟨a0, a1, a2, a3, a4⟩ := g7
  have r1 := x7.reg hl1 (i := ra) (by omega)
  have r2 := x7.reg hl1 (i := rb) (by omega)
  have l7 := x7.loadVar hl1
  obtain ⟨nx, hnx⟩ : ∃ v, IntKind.u64.wrap (m1.pc + 4) = v := ⟨_, rfl⟩
  obtain ⟨n1, hn1⟩ : ∃ n1, n1 = ({ m1 with pc := nx } : Mc) := ⟨_, rfl⟩
  have hln : n1.x.length = 32 := by rw [hn1]; exact hl1
  obtain ⟨q, hq⟩ : ∃ q, w5.heap.size = q := ⟨_, rfl⟩
  rw [hq] at y7 a0 a1 a2 a3 a4
  obtain ⟨W8, h8, s8, x8n, b8, o8⟩ := mach_more W7
  rw [s7, s6, hq] at s8 x8n b8
  have x8 := o8 _ _ x7
  have x8z := o8 _ _ x7z
  have y8 := y7.below b8 (by omega)
  obtain ⟨W9, h9, x9n, s9, b9, o9⟩ := x8n.lay rfl m1 hl1
  have x9 := o9 _ _ (by omega) x8
  have x9z := o9 _ _ (by omega) x8z
  have y9 := y8.below b9 (by omega)
  have p9 := (x9.tail hl1).1
  have p9n := (x9n.tail hl1).1
  have f9n := x9n.frz 32
  obtain ⟨W10, h10, x10n, s10, b10, o10⟩ := x9n.step (m' := n1) ((Mc.setPc hl1 nx).trans (by rw [hn1]))
  have x10 := o10 _ _ (by omega) x9
  have x10z := o10 _ _ (by omega) x9z
  have y10 := y9.below b10 (by omega)
  have j0 : (0 : Int) ≤ (ra : Int) := by omega
  have j1 : (ra : Int) < 32 := by omega
  have j2 : (0 : Int) ≤ (rb : Int) := by omega
  have j3 : (rb : Int) < 32 := by omega
  obtain ⟨va, hva⟩ : ∃ v, v = m1.x.getD ra 0 := ⟨_, rfl⟩
  obtain ⟨vb, hvb⟩ : ∃ v, v = m1.x.getD rb 0 := ⟨_, rfl⟩
  rw [← hva] at r1
  rw [← hvb] at r2
  have eva : m1.reg ra = va := by rw [hva]; rfl
  have evb : m1.reg rb = vb := by rw [hvb]; rfl
  have HVA := Lib.hid eva
  have HVB := Lib.hid evb
  have HUA := Lib.hid (show U64 va by rw [← eva]; exact HOK.out.reg _)
  have HUB := Lib.hid (show U64 vb by rw [← evb]; exact HOK.out.reg _)
  obtain ⟨imu, himu⟩ : ∃ v, IntKind.u64.wrap imm = v := ⟨_, rfl⟩
  obtain ⟨at_, hat⟩ : ∃ v, IntKind.u64.wrap (va + imu) = v := ⟨_, rfl⟩
  have HIM := Lib.hid himu
  have HAT := Lib.hid (show m1.at_ ⟨21, rd, ra, rb, imm⟩ = at_ by rw [← hat, ← himu, ← eva]; rfl)
  have HATB := Lib.hid (show U64 at_ by rw [← hat]; exact U64.wrap _)
  have HNX := Lib.hid (show m1.next = nx from hnx)
  have HN1 := Lib.hid hn1
  have B10 := ((B7.trans (b8.mono (by omega))).trans (b9.mono (by omega))).trans (b10.mono (by omega))
  have HM10 := Lib.hid (show Mem W10 w.heap.size m1.a m1.cap m1.mem by rw [HE1.out.1, HE1.out.2.1, HE1.out.2.2]; exact Sl.In.below HG.out.mem B10)
  have X := Lib.hid x10
  have XZ := Lib.hid x10z
  have XN := Lib.hid x10n
  have Y := Lib.hid y10
  have BX := Lib.hid B10
  have hqw : w.heap.size + 1 + 1 ≤ q := by omega
  have hzW : q + 1 < W10.heap.size := by omega
  have h6' := h6
  rw [hq] at h7
  clear hb5 B5 b6 x6 x6z o6 y6 y7 b7 o7 l1 hv x7 x7z B7 x8n b8 o8 x8 x8z y8 x9n b9 o9 x9 x9z y9 x10n b10 o10 x10 x10z y10 eva evb hva hvb hn1 B10 h6'
  obtain ⟨c0, c1, c2, c3, c4⟩ := Y.out.cells
  obtain ⟨E, hE⟩ : ∃ E, loadE m1.mem at_ 8 2 = E := ⟨_, rfl⟩
  obtain ⟨N, hN⟩ : ∃ N, storeX m1.mem at_ 8 vb = N := ⟨_, rfl⟩
  have HE := Lib.hid hE
  have HN := Lib.hid hN
  have q10 := (X.out.tail hl1).2.1
  clear hE hN
  go_wp2_with fail
  refine (rstore_any at_ 8 vb HATB.out HUB.out HM10.out (by rw [HE1.out.1, HE1.out.2.1]; exact HG.out.nil) (by omega) HOK.out.wf HOK.out.small).mono ?_
  rintro e w11 ⟨hb11, u, rfl, A, c, rfl, hMN, hnil⟩
  rw [HE.out, HN.out]
  rw [HN.out] at hMN
  have hz11 := hb11.size
  have B1 := Lib.hid (BX.out.trans (hb11.mono (by omega)))
  have X1 := Lib.hid (X.out.below hb11 (by omega))
  have XZ1 := Lib.hid (XZ.out.below hb11 (by omega))
  have XN1 := Lib.hid (XN.out.below hb11 (by omega))
  have HMN := Lib.hid hMN
  have HNIL := Lib.hid hnil
  have HEE := Lib.hid (show loadE m1.mem (m1.at_ ⟨21, rd, ra, rb, imm⟩) (manyW 21) 2 = E by rw [HAT.out, ← HE.out]; rfl)
  have HNN := Lib.hid (show storeX m1.mem (m1.at_ ⟨21, rd, ra, rb, imm⟩) (manyW 21) vb = N by rw [HAT.out, ← HN.out]; rfl)
  clear c0 c1 c2 c3 c4 q10 hb11 hMN hnil
  by_cases hE0 : E = 0
  · have q0 : (E == 0) = true := beq_iff_eq.2 hE0
    obtain ⟨R, hR⟩ : ∃ R, R = ({ n1 with a := A, cap := c, mem := N } : Mc) := ⟨_, rfl⟩
    have hlR : R.x.length = 32 := by rw [hR]; exact hln
    have HEX := Lib.hid (show (m1.exec ⟨21, rd, ra, rb, imm⟩).home A c = R by rw [exec_st (by simp) (HEE.out.trans hE0), hR, HVB.out, HNN.out, HNX.out, HN1.out, Mc.put_same hl1 HR0.out]; rfl)
    have u11 := (XN1.out.tail hln).2.1
    have f11 := XN1.out.frz 33
    obtain ⟨W12, h12, x12, _, b12, o12⟩ := XN1.out.step (m' := R) ((Mc.setMem hln A c N).trans (by rw [hR]))
    have XZ2 := o12 _ _ (by omega) XZ1.out
    have B2 := B1.out.trans (b12.mono (by omega))
    have lr := x12.loadVar hlR
    obtain ⟨Wc, hc, lc, bc⟩ := mach_out (m := R) XZ2 rfl hlR
    have only : ∀ j, j ≠ q + 1 → j ≠ w.heap.size + 1 → Wc.heap[j]? = w11.heap[j]? := fun j h1 h2 => by
      rw [XZ2.lay_only rfl hlR hc j h2, ← h12, Below.heap_setCell _ _ _ _ (show j ≠ q + 1 from h1)]
    have hsz : w11.heap.size ≤ Wc.heap.size := by have := bc.size; rw [← h12] at this; simpa using this
    have KEEP := Lib.hid (mem_keep2 HMN.out XN1.out hln XZ1.out rfl only hsz)
    have hfin := Lib.hid (B2.trans bc)
    have HRR := Lib.hid hR
    clear bc hR o12 b12 hE0 only x12 XZ2
    go_wp2
    refine bodyPost_ret (v := .agg R.cells.toArray) ?_ rfl ?_
    · simp [results, Tryd.results23, go_sem, lc]
    · refine ⟨A, c, by rw [HEX.out], hfin.out, ?_, HNIL.out⟩
      have e : (m1.exec ⟨21, rd, ra, rb, imm⟩).mem = N := by
        have := congrArg Mc.mem HEX.out
        rw [HRR.out] at this
        exact this
      rw [e]
      exact KEEP.out
  · have q0 : (E == 0) = false := beq_eq_false_iff_ne.2 hE0
    have HNE := Lib.hid hE0
    clear hE0
    have l1 := X1.out.loadVar hl1
    go_wp2_with fail
    refine (trap_any m1 w11 hl1).mono ?_
    rintro e w20 ⟨rfl, hb20⟩
    have BX := Lib.hid (B1.out.trans (hb20.mono (by omega)))
    have XZ1 := XZ1.out.below hb20 (by omega)
    obtain ⟨Wc, hc, lc, bc⟩ := mach_out (m := m1.trap) XZ1 rfl hl1
    have HEX := Lib.hid (show m1.exec ⟨21, rd, ra, rb, imm⟩ = m1.trap from exec_st_bad (by simp) (by rw [HEE.out]; exact HNE.out))
    have hfin := Lib.hid (BX.out.trans bc)
    clear bc hb20 XZ1
    go_wp2
    refine bodyPost_ret (v := .agg m1.trap.cells.toArray) ?_ rfl ?_
    · simp [results, Tryd.results23, go_sem, lc]
    · rw [HEX.out]
      exact Comes.same (m' := m1.trap) HG.out.mem HG.out.nil HE1.out.2.2 HE1.out.1 HE1.out.2.1 hfin.out rfl

set_option maxHeartbeats 4000000 in
theorem rstep_k22 (m : Mc) {w : World} (hG : McG w m) (h00 : m.reg 0 = 0) (rd ra rb : Nat) (_hrd : rd < 32) (hra : ra < 32) (hrb : rb < 32) (imm : Int) (hs : m.state = 0) (hf : m.tick.fetch = some ⟨22, rd, ra, rb, imm⟩) :
    Calls Tryd.prog 23 #[.agg m.cells.toArray] w (Comes w (m.tick.exec ⟨22, rd, ra, rb, imm⟩)) := by
  have hm := hG.ok
  have hl := hm.len
  obtain ⟨W1, W2, h1, h2, s1, s2, x1, x2, b2⟩ := mach_start m w
  have c36 := (x1.tail hl).2.2.2.2.1
  rw [hs] at c36
  have c38 := (x1.tail hl).2.2.2.2.2.2
  have f38 := x1.frz 38
  obtain ⟨m1, hm1⟩ : ∃ m1, m1 = m.tick := ⟨_, rfl⟩
  rw [← hm1] at hf ⊢
  have ok1 : m1.Ok := by rw [hm1]; exact hm.tick
  have hl1 := ok1.len
  obtain ⟨W3, h3, x3, s3, b3, o3⟩ := x1.step (m' := m1) ((Mc.setSteps hl _).trans (by rw [hm1]; rfl))
  have x3z := o3 _ _ (by omega) x2
  have p3 := (x3.tail hl1).1
  have q3 := (x3.tail hl1).2.1
  have B3 := b2.trans b3
  have hM3 := Sl.In.below hG.mem B3
  have e1 : m1.a = m.a ∧ m1.cap = m.cap ∧ m1.mem = m.mem := by subst hm1; exact ⟨rfl, rfl, rfl⟩
  have e2 : m1.out = m.out := by subst hm1; rfl
  rw [← e1.1, ← e1.2.1, ← e1.2.2] at hM3
  have HM3 := Lib.hid hM3
  have HB3 := Lib.hid B3
  have HX := Lib.hid x3
  have HXZ := Lib.hid x3z
  have HOK := Lib.hid ok1
  have HE1 := Lib.hid e1
  have HE2 := Lib.hid e2
  have HG := Lib.hid hG
  have hz3 : W3.heap.size = w.heap.size + 1 + 1 := by omega
  have hpb := ok1.pc_
  unfold U64 at hpb
  obtain ⟨hp0, hp1⟩ := hpb
  have HR0 := Lib.hid (show m1.reg 0 = 0 by rw [hm1]; exact h00)
  obtain ⟨E, hE⟩ : ∃ E, loadE m1.mem m1.pc 4 1 = E := ⟨_, rfl⟩
  obtain ⟨V, hV⟩ : ∃ V, loadV m1.mem m1.pc 4 1 = V := ⟨_, rfl⟩
  obtain ⟨e4, eE, eT⟩ := fetch_some hf
  rw [hE] at eE
  subst eE
  rw [hV] at eT
  have HTK := Lib.hid eT
  have q4 : (m1.pc % 4 == 0) = true := beq_iff_eq.2 e4
  clear eT hf
  have HE := Lib.hid hE
  have HV := Lib.hid hV
  clear hM3 B3 x1 x2 b2 x3 x3z b3 o3 ok1 e1 e2 hG hm hm1 hs hE hV h00
  go_enter Tryd.func23, Tryd.ntmps23
  go_wp2_with fail
  refine (rload_any m1.pc 4 1 ⟨hp0, hp1⟩ (by omega) HM3.out (by omega) HOK.out.wf HOK.out.small).mono ?_
  rintro e w4 ⟨rfl, hb4⟩
  rw [HE.out, HV.out]
  have hz4 := hb4.size
  have B4 := Lib.hid (HB3.out.trans (hb4.mono (by omega)))
  have X4 := Lib.hid (HX.out.below hb4 (by omega))
  have XZ4 := Lib.hid (HXZ.out.below hb4 (by omega))
  have p4 := (X4.out.tail hl1).1
  clear hb4
  have l1 := X4.out.loadVar hl1
  go_wp2_with fail
  refine (rtake_any _ w4 (u32_wrap_bd V)).mono ?_
  rintro e w5 ⟨rfl, hb5⟩
  rw [takeV_eq, takeE_eq, HTK.out]
  have hz5 := hb5.size
  obtain ⟨W6, h6, s6, y6, b6, o6⟩ := op_new w5
  have B5 := B4.out.trans (hb5.mono (by omega))
  have x6 := o6 _ _ (X4.out.below hb5 (by omega))
  have x6z := o6 _ _ (XZ4.out.below hb5 (by omega))
  have hv : (Option.getD (some (⟨22, rd, ra, rb, imm⟩ : OpD)) OpD.zero).v = .agg #[.int .i64 22, .int .i64 rd, .int .i64 ra, .int .i64 rb, .int .i64 imm] := rfl
  rw [hv]
  obtain ⟨W7, h7, y7, s7, b7, o7⟩ := y6.lay ⟨22, rd, ra, rb, imm⟩
  have x7 := o7 _ _ (by omega) x6
  have x7z := o7 _ _ (by omega) x6z
  have B7 := (B5.trans (b6.mono (by omega))).trans (b7.mono (by omega))
  have g7 := y7.cells
  obtain ⟨a0, a1, a2, a3, a4⟩ := g7
  have r1 := x7.reg hl1 (i := ra) (by omega)
  have r2 := x7.reg hl1 (i := rb) (by omega)
  have l7 := x7.loadVar hl1
  obtain ⟨nx, hnx⟩ : ∃ v, IntKind.u64.wrap (m1.pc + 4) = v := ⟨_, rfl⟩
  obtain ⟨n1, hn1⟩ : ∃ n1, n1 = ({ m1 with pc := nx } : Mc) := ⟨_, rfl⟩
  have hln : n1.x.length = 32 := by rw [hn1]; exact hl1
  obtain ⟨q, hq⟩ : ∃ q, w5.heap.size = q := ⟨_, rfl⟩
  rw [hq] at y7 a0 a1 a2 a3 a4
  obtain ⟨W8, h8, s8, x8n, b8, o8⟩ := mach_more W7
  rw [s7, s6, hq] at s8 x8n b8
  have x8 := o8 _ _ x7
  have x8z := o8 _ _ x7z
  have y8 := y7.below b8 (by omega)
  obtain ⟨W9, h9, x9n, s9, b9, o9⟩ := x8n.lay rfl m1 hl1
  have x9 := o9 _ _ (by omega) x8
  have x9z := o9 _ _ (by omega) x8z
  have y9 := y8.below b9 (by omega)
  have p9 := (x9.tail hl1).1
  have p9n := (x9n.tail hl1).1
  have f9n := x9n.frz 32
  obtain ⟨W10, h10, x10n, s10, b10, o10⟩ := x9n.step (m' := n1) ((Mc.setPc hl1 nx).trans (by rw [hn1]))
  have x10 := o10 _ _ (by omega) x9
  have x10z := o10 _ _ (by omega) x9z
  have y10 := y9.below b10 (by omega)
  have j0 : (0 : Int) ≤ (ra : Int) := by omega
  have j1 : (ra : Int) < 32 := by omega
  have j2 : (0 : Int) ≤ (rb : Int) := by omega
  have j3 : (rb : Int) < 32 := by omega
  obtain ⟨va, hva⟩ : ∃ v, v = m1.x.getD ra 0 := ⟨_, rfl⟩
  obtain ⟨vb, hvb⟩ : ∃ v, v = m1.x.getD rb 0 := ⟨_, rfl⟩
  rw [← hva] at r1
  rw [← hvb] at r2
  have eva : m1.reg ra = va := by rw [hva]; rfl
  have evb : m1.reg rb = vb := by rw [hvb]; rfl
  have HVA := Lib.hid eva
  have HVB := Lib.hid evb
  have HUA := Lib.hid (show U64 va by rw [← eva]; exact HOK.out.reg _)
  have HUB := Lib.hid (show U64 vb by rw [← evb]; exact HOK.out.reg _)
  obtain ⟨imu, himu⟩ : ∃ v, IntKind.u64.wrap imm = v := ⟨_, rfl⟩
  obtain ⟨at_, hat⟩ : ∃ v, IntKind.u64.wrap (va + imu) = v := ⟨_, rfl⟩
  have HIM := Lib.hid himu
  have HAT := Lib.hid (show m1.at_ ⟨22, rd, ra, rb, imm⟩ = at_ by rw [← hat, ← himu, ← eva]; rfl)
  have HATB := Lib.hid (show U64 at_ by rw [← hat]; exact U64.wrap _)
  have HNX := Lib.hid (show m1.next = nx from hnx)
  have HN1 := Lib.hid hn1
  have B10 := ((B7.trans (b8.mono (by omega))).trans (b9.mono (by omega))).trans (b10.mono (by omega))
  have HM10 := Lib.hid (show Mem W10 w.heap.size m1.a m1.cap m1.mem by rw [HE1.out.1, HE1.out.2.1, HE1.out.2.2]; exact Sl.In.below HG.out.mem B10)
  have X := Lib.hid x10
  have XZ := Lib.hid x10z
  have XN := Lib.hid x10n
  have Y := Lib.hid y10
  have BX := Lib.hid B10
  have hqw : w.heap.size + 1 + 1 ≤ q := by omega
  have hzW : q + 1 < W10.heap.size := by omega
  have h6' := h6
  rw [hq] at h7
  clear hb5 B5 b6 x6 x6z o6 y6 y7 b7 o7 l1 hv x7 x7z B7 x8n b8 o8 x8 x8z y8 x9n b9 o9 x9 x9z y9 x10n b10 o10 x10 x10z y10 eva evb hva hvb hn1 B10 h6'
  obtain ⟨c0, c1, c2, c3, c4⟩ := Y.out.cells
  obtain ⟨E, hE⟩ : ∃ E, loadE m1.mem at_ 1 2 = E := ⟨_, rfl⟩
  obtain ⟨N, hN⟩ : ∃ N, storeX m1.mem at_ 1 vb = N := ⟨_, rfl⟩
  have HE := Lib.hid hE
  have HN := Lib.hid hN
  have q10 := (X.out.tail hl1).2.1
  clear hE hN
  go_wp2_with fail
  refine (rstore_any at_ 1 vb HATB.out HUB.out HM10.out (by rw [HE1.out.1, HE1.out.2.1]; exact HG.out.nil) (by omega) HOK.out.wf HOK.out.small).mono ?_
  rintro e w11 ⟨hb11, u, rfl, A, c, rfl, hMN, hnil⟩
  rw [HE.out, HN.out]
  rw [HN.out] at hMN
  have hz11 := hb11.size
  have B1 := Lib.hid (BX.out.trans (hb11.mono (by omega)))
  have X1 := Lib.hid (X.out.below hb11 (by omega))
  have XZ1 := Lib.hid (XZ.out.below hb11 (by omega))
  have XN1 := Lib.hid (XN.out.below hb11 (by omega))
  have HMN := Lib.hid hMN
  have HNIL := Lib.hid hnil
  have HEE := Lib.hid (show loadE m1.mem (m1.at_ ⟨22, rd, ra, rb, imm⟩) (manyW 22) 2 = E by rw [HAT.out, ← HE.out]; rfl)
  have HNN := Lib.hid (show storeX m1.mem (m1.at_ ⟨22, rd, ra, rb, imm⟩) (manyW 22) vb = N by rw [HAT.out, ← HN.out]; rfl)
  clear c0 c1 c2 c3 c4 q10 hb11 hMN hnil
  by_cases hE0 : E = 0
  · have q0 : (E == 0) = true := beq_iff_eq.2 hE0
    obtain ⟨R, hR⟩ : ∃ R, R = ({ n1 with a := A, cap := c, mem := N } : Mc) := ⟨_, rfl⟩
    have hlR : R.x.length = 32 := by rw [hR]; exact hln
    have HEX := Lib.hid (show (m1.exec ⟨22, rd, ra, rb, imm⟩).home A c = R by rw [exec_st (by simp) (HEE.out.trans hE0), hR, HVB.out, HNN.out, HNX.out, HN1.out, Mc.put_same hl1 HR0.out]; rfl)
    have u11 := (XN1.out.tail hln).2.1
    have f11 := XN1.out.frz 33
    obtain ⟨W12, h12, x12, _, b12, o12⟩ := XN1.out.step (m' := R) ((Mc.setMem hln A c N).trans (by rw [hR]))
    have XZ2 := o12 _ _ (by omega) XZ1.out
    have B2 := B1.out.trans (b12.mono (by omega))
    have lr := x12.loadVar hlR
    obtain ⟨Wc, hc, lc, bc⟩ := mach_out (m := R) XZ2 rfl hlR
    have only : ∀ j, j ≠ q + 1 → j ≠ w.heap.size + 1 → Wc.heap[j]? = w11.heap[j]? := fun j h1 h2 => by
      rw [XZ2.lay_only rfl hlR hc j h2, ← h12, Below.heap_setCell _ _ _ _ (show j ≠ q + 1 from h1)]
    have hsz : w11.heap.size ≤ Wc.heap.size := by have := bc.size; rw [← h12] at this; simpa using this
    have KEEP := Lib.hid (mem_keep2 HMN.out XN1.out hln XZ1.out rfl only hsz)
    have hfin := Lib.hid (B2.trans bc)
    have HRR := Lib.hid hR
    clear bc hR o12 b12 hE0 only x12 XZ2
    go_wp2
    refine bodyPost_ret (v := .agg R.cells.toArray) ?_ rfl ?_
    · simp [results, Tryd.results23, go_sem, lc]
    · refine ⟨A, c, by rw [HEX.out], hfin.out, ?_, HNIL.out⟩
      have e : (m1.exec ⟨22, rd, ra, rb, imm⟩).mem = N := by
        have := congrArg Mc.mem HEX.out
        rw [HRR.out] at this
        exact this
      rw [e]
      exact KEEP.out
  · have q0 : (E == 0) = false := beq_eq_false_iff_ne.2 hE0
    have HNE := Lib.hid hE0
    clear hE0
    have l1 := X1.out.loadVar hl1
    go_wp2_with fail
    refine (trap_any m1 w11 hl1).mono ?_
    rintro e w20 ⟨rfl, hb20⟩
    have BX := Lib.hid (B1.out.trans (hb20.mono (by omega)))
    have XZ1 := XZ1.out.below hb20 (by omega)
    obtain ⟨Wc, hc, lc, bc⟩ := mach_out (m := m1.trap) XZ1 rfl hl1
    have HEX := Lib.hid (show m1.exec ⟨22, rd, ra, rb, imm⟩ = m1.trap from exec_st_bad (by simp) (by rw [HEE.out]; exact HNE.out))
    have hfin := Lib.hid (BX.out.trans bc)
    clear bc hb20 XZ1
    go_wp2
    refine bodyPost_ret (v := .agg m1.trap.cells.toArray) ?_ rfl ?_
    · simp [results, Tryd.results23, go_sem, lc]
    · rw [HEX.out]
      exact Comes.same (m' := m1.trap) HG.out.mem HG.out.nil HE1.out.2.2 HE1.out.1 HE1.out.2.1 hfin.out rfl

end Go.Proofs.YtajhehmkdlebbaaDoor
namespace Go.Proofs.YtajhehmkdlebbaaDoor
open Go.ChangeShapes Go.WideShapes Go.ChangeAt Go.RowKit Go.Deep
set_option maxRecDepth 100000
attribute [-go_sem] loadVar storeVar
set_option maxHeartbeats 4000000 in
theorem rstep_k23 (m : Mc) {w : World} (hG : McG w m) (h00 : m.reg 0 = 0) (rd ra rb : Nat) (_hrd : rd < 32) (hra : ra < 32) (hrb : rb < 32) (imm : Int) (hs : m.state = 0) (hf : m.tick.fetch = some ⟨23, rd, ra, rb, imm⟩) :
    Calls Tryd.prog 23 #[.agg m.cells.toArray] w (Comes w (m.tick.exec ⟨23, rd, ra, rb, imm⟩)) := by
  have hm := hG.ok
  have hl := hm.len
  obtain ⟨W1, W2, h1, h2, s1, s2, x1, x2, b2⟩ := mach_start m w
  have c36 := (x1.tail hl).2.2.2.2.1
  rw [hs] at c36
  have c38 := (x1.tail hl).2.2.2.2.2.2
  have f38 := x1.frz 38
  obtain ⟨m1, hm1⟩ : ∃ m1, m1 = m.tick := ⟨_, rfl⟩
  rw [← hm1] at hf ⊢
  have ok1 : m1.Ok := by rw [hm1]; exact hm.tick
  have hl1 := ok1.len
  obtain ⟨W3, h3, x3, s3, b3, o3⟩ := x1.step (m' := m1) ((Mc.setSteps hl _).trans (by rw [hm1]; rfl))
  have x3z := o3 _ _ (by omega) x2
  have p3 := (x3.tail hl1).1
  have q3 := (x3.tail hl1).2.1
  have B3 := b2.trans b3
  have hM3 := Sl.In.below hG.mem B3
  have e1 : m1.a = m.a ∧ m1.cap = m.cap ∧ m1.mem = m.mem := by subst hm1; exact ⟨rfl, rfl, rfl⟩
  have e2 : m1.out = m.out := by subst hm1; rfl
  rw [← e1.1, ← e1.2.1, ← e1.2.2] at hM3
  have HM3 := Lib.hid hM3
  have HB3 := Lib.hid B3
  have HX := Lib.hid x3
  have HXZ := Lib.hid x3z
  have HOK := Lib.hid ok1
  have HE1 := Lib.hid e1
  have HE2 := Lib.hid e2
  have HG := Lib.hid hG
  have hz3 : W3.heap.size = w.heap.size + 1 + 1 := by omega
  have hpb := ok1.pc_
  unfold U64 at hpb
  obtain ⟨hp0, hp1⟩ := hpb
  have HR0 := Lib.hid (show m1.reg 0 = 0 by rw [hm1]; exact h00)
  obtain ⟨E, hE⟩ : ∃ E, loadE m1.mem m1.pc 4 1 = E := ⟨_, rfl⟩
  obtain ⟨V, hV⟩ : ∃ V, loadV m1.mem m1.pc 4 1 = V := ⟨_, rfl⟩
  obtain ⟨e4, eE, eT⟩ := fetch_some hf
  rw [hE] at eE
  subst eE
  rw [hV] at eT
  have HTK := Lib.hid eT
  have q4 : (m1.pc % 4 == 0) = true := beq_iff_eq.2 e4
  clear eT hf
  have HE := Lib.hid hE
  have HV := Lib.hid hV
  clear hM3 B3 x1 x2 b2 x3 x3z b3 o3 ok1 e1 e2 hG hm hm1 hs hE hV h00
  go_enter Tryd.func23, Tryd.ntmps23
  go_wp2_with fail
  refine (rload_any m1.pc 4 1 ⟨hp0, hp1⟩ (by omega) HM3.out (by omega) HOK.out.wf HOK.out.small).mono ?_
  rintro e w4 ⟨rfl, hb4⟩
  rw [HE.out, HV.out]
  have hz4 := hb4.size
  have B4 := Lib.hid (HB3.out.trans (hb4.mono (by omega)))
  have X4 := Lib.hid (HX.out.below hb4 (by omega))
  have XZ4 := Lib.hid (HXZ.out.below hb4 (by omega))
  have p4 := (X4.out.tail hl1).1
  clear hb4
  have l1 := X4.out.loadVar hl1
  go_wp2_with fail
  refine (rtake_any _ w4 (u32_wrap_bd V)).mono ?_
  rintro e w5 ⟨rfl, hb5⟩
  rw [takeV_eq, takeE_eq, HTK.out]
  have hz5 := hb5.size
  obtain ⟨W6, h6, s6, y6, b6, o6⟩ := op_new w5
  have B5 := B4.out.trans (hb5.mono (by omega))
  have x6 := o6 _ _ (X4.out.below hb5 (by omega))
  have x6z := o6 _ _ (XZ4.out.below hb5 (by omega))
  have hv : (Option.getD (some (⟨23, rd, ra, rb, imm⟩ : OpD)) OpD.zero).v = .agg #[.int .i64 23, .int .i64 rd, .int .i64 ra, .int .i64 rb, .int .i64 imm] := rfl
  rw [hv]
  obtain ⟨W7, h7, y7, s7, b7, o7⟩ := y6.lay ⟨23, rd, ra, rb, imm⟩
  have x7 := o7 _ _ (by omega) x6
  have x7z := o7 _ _ (by omega) x6z
  have B7 := (B5.trans (b6.mono (by omega))).trans (b7.mono (by omega))
  have g7 := y7.cells
  obtain ⟨a0, a1, a2, a3, a4⟩ := g7
  have r1 := x7.reg hl1 (i := ra) (by omega)
  have r2 := x7.reg hl1 (i := rb) (by omega)
  have l7 := x7.loadVar hl1
  obtain ⟨nx, hnx⟩ : ∃ v, IntKind.u64.wrap (m1.pc + 4) = v := ⟨_, rfl⟩
  obtain ⟨n1, hn1⟩ : ∃ n1, n1 = ({ m1 with pc := nx } : Mc) := ⟨_, rfl⟩
  have hln : n1.x.length = 32 := by rw [hn1]; exact hl1
  obtain ⟨q, hq⟩ : ∃ q, w5.heap.size = q := ⟨_, rfl⟩
  rw [hq] at y7 a0 a1 a2 a3 a4
  obtain ⟨W8, h8, s8, x8n, b8, o8⟩ := mach_more W7
  rw [s7, s6, hq] at s8 x8n b8
  have x8 := o8 _ _ x7
  have x8z := o8 _ _ x7z
  have y8 := y7.below b8 (by omega)
  obtain ⟨W9, h9, x9n, s9, b9, o9⟩ := x8n.lay rfl m1 hl1
  have x9 := o9 _ _ (by omega) x8
  have x9z := o9 _ _ (by omega) x8z
  have y9 := y8.below b9 (by omega)
  have p9 := (x9.tail hl1).1
  have p9n := (x9n.tail hl1).1
  have f9n := x9n.frz 32
  obtain ⟨W10, h10, x10n, s10, b10, o10⟩ := x9n.step (m' := n1) ((Mc.setPc hl1 nx).trans (by rw [hn1]))
  have x10 := o10 _ _ (by omega) x9
  have x10z := o10 _ _ (by omega) x9z
  have y10 := y9.below b10 (by omega)
  have j0 : (0 : Int) ≤ (ra : Int) := by omega
  have j1 : (ra : Int) < 32 := by omega
  have j2 : (0 : Int) ≤ (rb : Int) := by omega
  have j3 : (rb : Int) < 32 := by omega
  obtain ⟨va, hva⟩ : ∃ v, v = m1.x.getD ra 0 := ⟨_, rfl⟩
  obtain ⟨vb, hvb⟩ : ∃ v, v = m1.x.getD rb 0 := ⟨_, rfl⟩
  rw [← hva] at r1
  rw [← hvb] at r2
  have eva : m1.reg ra = va := by rw [hva]; rfl
  have evb : m1.reg rb = vb := by rw [hvb]; rfl
  have HVA := Lib.hid eva
  have HVB := Lib.hid evb
  have HUA := Lib.hid (show U64 va by rw [← eva]; exact HOK.out.reg _)
  have HUB := Lib.hid (show U64 vb by rw [← evb]; exact HOK.out.reg _)
  obtain ⟨imu, himu⟩ : ∃ v, IntKind.u64.wrap imm = v := ⟨_, rfl⟩
  obtain ⟨at_, hat⟩ : ∃ v, IntKind.u64.wrap (va + imu) = v := ⟨_, rfl⟩
  have HIM := Lib.hid himu
  have HAT := Lib.hid (show m1.at_ ⟨23, rd, ra, rb, imm⟩ = at_ by rw [← hat, ← himu, ← eva]; rfl)
  have HATB := Lib.hid (show U64 at_ by rw [← hat]; exact U64.wrap _)
  have HNX := Lib.hid (show m1.next = nx from hnx)
  have HN1 := Lib.hid hn1
  have B10 := ((B7.trans (b8.mono (by omega))).trans (b9.mono (by omega))).trans (b10.mono (by omega))
  have HM10 := Lib.hid (show Mem W10 w.heap.size m1.a m1.cap m1.mem by rw [HE1.out.1, HE1.out.2.1, HE1.out.2.2]; exact Sl.In.below HG.out.mem B10)
  have X := Lib.hid x10
  have XZ := Lib.hid x10z
  have XN := Lib.hid x10n
  have Y := Lib.hid y10
  have BX := Lib.hid B10
  have hqw : w.heap.size + 1 + 1 ≤ q := by omega
  have hzW : q + 1 < W10.heap.size := by omega
  have h6' := h6
  rw [hq] at h7
  clear hb5 B5 b6 x6 x6z o6 y6 y7 b7 o7 l1 hv x7 x7z B7 x8n b8 o8 x8 x8z y8 x9n b9 o9 x9 x9z y9 x10n b10 o10 x10 x10z y10 eva evb hva hvb hn1 B10 h6'
  obtain ⟨c0, c1, c2, c3, c4⟩ := Y.out.cells
  have HBR := Lib.hid (show m1.branch ⟨23, rd, ra, rb, imm⟩ = if goesF 23 va vb = true then IntKind.u64.wrap (m1.pc + imu) else nx by unfold Mc.branch; rw [HVA.out, HVB.out, HNX.out, HIM.out])
  obtain ⟨g, hg⟩ : ∃ g, goesF 23 va vb = g := ⟨_, rfl⟩
  have HGO := Lib.hid hg
  have l4 := Y.out.load
  clear hg
  go_wp2_with fail
  refine (rgoes_any 23 rd ra rb imm va vb W10).mono ?_
  rintro e w11 ⟨rfl, hb11⟩
  rw [HGO.out]
  have B1 := BX.out.trans (hb11.mono (by omega))
  have X1 := X.out.below hb11 (by omega)
  have XZ1 := XZ.out.below hb11 (by omega)
  have XN1 := XN.out.below hb11 (by omega)
  have HEN := Lib.hid (show m1.exec ⟨23, rd, ra, rb, imm⟩ = { m1 with pc := m1.branch ⟨23, rd, ra, rb, imm⟩ } by rw [exec_br (by simp), Mc.put_same hl1 HR0.out])
  clear c0 c1 c2 c3 c4 l4 hb11
  cases g
  · have HEX := Lib.hid (show m1.exec ⟨23, rd, ra, rb, imm⟩ = n1 by rw [HEN.out, HBR.out, HGO.out, if_neg (by simp), HN1.out])
    have HRR := HN1
    clear X1
    have lr := XN1.loadVar hln
    obtain ⟨Wc, hc, lc, bc⟩ := mach_out (m := n1) XZ1 rfl hln
    have hfin := Lib.hid (B1.trans bc)
    clear bc
    go_wp2
    refine bodyPost_ret (v := .agg n1.cells.toArray) ?_ rfl ?_
    · simp [results, Tryd.results23, go_sem, lc]
    · rw [HEX.out]
      exact Comes.same (m' := n1) HG.out.mem HG.out.nil (by rw [HRR.out]; exact HE1.out.2.2) (by rw [HRR.out]; exact HE1.out.1) (by rw [HRR.out]; exact HE1.out.2.1) hfin.out rfl
  · obtain ⟨R, hR⟩ : ∃ R, R = ({ m1 with pc := IntKind.u64.wrap (m1.pc + imu) } : Mc) := ⟨_, rfl⟩
    have hlR : R.x.length = 32 := by rw [hR]; exact hl1
    have HEX := Lib.hid (show m1.exec ⟨23, rd, ra, rb, imm⟩ = R by rw [HEN.out, HBR.out, HGO.out, if_pos rfl, hR])
    obtain ⟨W12, h12, x12, _, b12, o12⟩ := XN1.step (m' := R) ((Mc.setPc hln _).trans (by rw [hR, HN1.out]))
    have f12 := XN1.frz 32
    have u12 := (XN1.tail hln).1
    have p11 := (X1.tail hl1).1
    have XZ2 := o12 _ _ (by omega) XZ1
    have B2 := B1.trans (b12.mono (by omega))
    have HRR := Lib.hid hR
    clear hR o12 b12
    have lr := x12.loadVar hlR
    obtain ⟨Wc, hc, lc, bc⟩ := mach_out (m := R) XZ2 rfl hlR
    have hfin := Lib.hid (B2.trans bc)
    clear bc
    go_wp2
    refine bodyPost_ret (v := .agg R.cells.toArray) ?_ rfl ?_
    · simp [results, Tryd.results23, go_sem, lc]
    · rw [HEX.out]
      exact Comes.same (m' := R) HG.out.mem HG.out.nil (by rw [HRR.out]; exact HE1.out.2.2) (by rw [HRR.out]; exact HE1.out.1) (by rw [HRR.out]; exact HE1.out.2.1) hfin.out rfl

set_option maxHeartbeats 4000000 in
theorem rstep_k24 (m : Mc) {w : World} (hG : McG w m) (h00 : m.reg 0 = 0) (rd ra rb : Nat) (_hrd : rd < 32) (hra : ra < 32) (hrb : rb < 32) (imm : Int) (hs : m.state = 0) (hf : m.tick.fetch = some ⟨24, rd, ra, rb, imm⟩) :
    Calls Tryd.prog 23 #[.agg m.cells.toArray] w (Comes w (m.tick.exec ⟨24, rd, ra, rb, imm⟩)) := by
  have hm := hG.ok
  have hl := hm.len
  obtain ⟨W1, W2, h1, h2, s1, s2, x1, x2, b2⟩ := mach_start m w
  have c36 := (x1.tail hl).2.2.2.2.1
  rw [hs] at c36
  have c38 := (x1.tail hl).2.2.2.2.2.2
  have f38 := x1.frz 38
  obtain ⟨m1, hm1⟩ : ∃ m1, m1 = m.tick := ⟨_, rfl⟩
  rw [← hm1] at hf ⊢
  have ok1 : m1.Ok := by rw [hm1]; exact hm.tick
  have hl1 := ok1.len
  obtain ⟨W3, h3, x3, s3, b3, o3⟩ := x1.step (m' := m1) ((Mc.setSteps hl _).trans (by rw [hm1]; rfl))
  have x3z := o3 _ _ (by omega) x2
  have p3 := (x3.tail hl1).1
  have q3 := (x3.tail hl1).2.1
  have B3 := b2.trans b3
  have hM3 := Sl.In.below hG.mem B3
  have e1 : m1.a = m.a ∧ m1.cap = m.cap ∧ m1.mem = m.mem := by subst hm1; exact ⟨rfl, rfl, rfl⟩
  have e2 : m1.out = m.out := by subst hm1; rfl
  rw [← e1.1, ← e1.2.1, ← e1.2.2] at hM3
  have HM3 := Lib.hid hM3
  have HB3 := Lib.hid B3
  have HX := Lib.hid x3
  have HXZ := Lib.hid x3z
  have HOK := Lib.hid ok1
  have HE1 := Lib.hid e1
  have HE2 := Lib.hid e2
  have HG := Lib.hid hG
  have hz3 : W3.heap.size = w.heap.size + 1 + 1 := by omega
  have hpb := ok1.pc_
  unfold U64 at hpb
  obtain ⟨hp0, hp1⟩ := hpb
  have HR0 := Lib.hid (show m1.reg 0 = 0 by rw [hm1]; exact h00)
  obtain ⟨E, hE⟩ : ∃ E, loadE m1.mem m1.pc 4 1 = E := ⟨_, rfl⟩
  obtain ⟨V, hV⟩ : ∃ V, loadV m1.mem m1.pc 4 1 = V := ⟨_, rfl⟩
  obtain ⟨e4, eE, eT⟩ := fetch_some hf
  rw [hE] at eE
  subst eE
  rw [hV] at eT
  have HTK := Lib.hid eT
  have q4 : (m1.pc % 4 == 0) = true := beq_iff_eq.2 e4
  clear eT hf
  have HE := Lib.hid hE
  have HV := Lib.hid hV
  clear hM3 B3 x1 x2 b2 x3 x3z b3 o3 ok1 e1 e2 hG hm hm1 hs hE hV h00
  go_enter Tryd.func23, Tryd.ntmps23
  go_wp2_with fail
  refine (rload_any m1.pc 4 1 ⟨hp0, hp1⟩ (by omega) HM3.out (by omega) HOK.out.wf HOK.out.small).mono ?_
  rintro e w4 ⟨rfl, hb4⟩
  rw [HE.out, HV.out]
  have hz4 := hb4.size
  have B4 := Lib.hid (HB3.out.trans (hb4.mono (by omega)))
  have X4 := Lib.hid (HX.out.below hb4 (by omega))
  have XZ4 := Lib.hid (HXZ.out.below hb4 (by omega))
  have p4 := (X4.out.tail hl1).1
  clear hb4
  have l1 := X4.out.loadVar hl1
  go_wp2_with fail
  refine (rtake_any _ w4 (u32_wrap_bd V)).mono ?_
  rintro e w5 ⟨rfl, hb5⟩
  rw [takeV_eq, takeE_eq, HTK.out]
  have hz5 := hb5.size
  obtain ⟨W6, h6, s6, y6, b6, o6⟩ := op_new w5
  have B5 := B4.out.trans (hb5.mono (by omega))
  have x6 := o6 _ _ (X4.out.below hb5 (by omega))
  have x6z := o6 _ _ (XZ4.out.below hb5 (by omega))
  have hv : (Option.getD (some (⟨24, rd, ra, rb, imm⟩ : OpD)) OpD.zero).v = .agg #[.int .i64 24, .int .i64 rd, .int .i64 ra, .int .i64 rb, .int .i64 imm] := rfl
  rw [hv]
  obtain ⟨W7, h7, y7, s7, b7, o7⟩ := y6.lay ⟨24, rd, ra, rb, imm⟩
  have x7 := o7 _ _ (by omega) x6
  have x7z := o7 _ _ (by omega) x6z
  have B7 := (B5.trans (b6.mono (by omega))).trans (b7.mono (by omega))
  have g7 := y7.cells
  obtain ⟨a0, a1, a2, a3, a4⟩ := g7
  have r1 := x7.reg hl1 (i := ra) (by omega)
  have r2 := x7.reg hl1 (i := rb) (by omega)
  have l7 := x7.loadVar hl1
  obtain ⟨nx, hnx⟩ : ∃ v, IntKind.u64.wrap (m1.pc + 4) = v := ⟨_, rfl⟩
  obtain ⟨n1, hn1⟩ : ∃ n1, n1 = ({ m1 with pc := nx } : Mc) := ⟨_, rfl⟩
  have hln : n1.x.length = 32 := by rw [hn1]; exact hl1
  obtain ⟨q, hq⟩ : ∃ q, w5.heap.size = q := ⟨_, rfl⟩
  rw [hq] at y7 a0 a1 a2 a3 a4
  obtain ⟨W8, h8, s8, x8n, b8, o8⟩ := mach_more W7
  rw [s7, s6, hq] at s8 x8n b8
  have x8 := o8 _ _ x7
  have x8z := o8 _ _ x7z
  have y8 := y7.below b8 (by omega)
  obtain ⟨W9, h9, x9n, s9, b9, o9⟩ := x8n.lay rfl m1 hl1
  have x9 := o9 _ _ (by omega) x8
  have x9z := o9 _ _ (by omega) x8z
  have y9 := y8.below b9 (by omega)
  have p9 := (x9.tail hl1).1
  have p9n := (x9n.tail hl1).1
  have f9n := x9n.frz 32
  obtain ⟨W10, h10, x10n, s10, b10, o10⟩ := x9n.step (m' := n1) ((Mc.setPc hl1 nx).trans (by rw [hn1]))
  have x10 := o10 _ _ (by omega) x9
  have x10z := o10 _ _ (by omega) x9z
  have y10 := y9.below b10 (by omega)
  have j0 : (0 : Int) ≤ (ra : Int) := by omega
  have j1 : (ra : Int) < 32 := by omega
  have j2 : (0 : Int) ≤ (rb : Int) := by omega
  have j3 : (rb : Int) < 32 := by omega
  obtain ⟨va, hva⟩ : ∃ v, v = m1.x.getD ra 0 := ⟨_, rfl⟩
  obtain ⟨vb, hvb⟩ : ∃ v, v = m1.x.getD rb 0 := ⟨_, rfl⟩
  rw [← hva] at r1
  rw [← hvb] at r2
  have eva : m1.reg ra = va := by rw [hva]; rfl
  have evb : m1.reg rb = vb := by rw [hvb]; rfl
  have HVA := Lib.hid eva
  have HVB := Lib.hid evb
  have HUA := Lib.hid (show U64 va by rw [← eva]; exact HOK.out.reg _)
  have HUB := Lib.hid (show U64 vb by rw [← evb]; exact HOK.out.reg _)
  obtain ⟨imu, himu⟩ : ∃ v, IntKind.u64.wrap imm = v := ⟨_, rfl⟩
  obtain ⟨at_, hat⟩ : ∃ v, IntKind.u64.wrap (va + imu) = v := ⟨_, rfl⟩
  have HIM := Lib.hid himu
  have HAT := Lib.hid (show m1.at_ ⟨24, rd, ra, rb, imm⟩ = at_ by rw [← hat, ← himu, ← eva]; rfl)
  have HATB := Lib.hid (show U64 at_ by rw [← hat]; exact U64.wrap _)
  have HNX := Lib.hid (show m1.next = nx from hnx)
  have HN1 := Lib.hid hn1
  have B10 := ((B7.trans (b8.mono (by omega))).trans (b9.mono (by omega))).trans (b10.mono (by omega))
  have HM10 := Lib.hid (show Mem W10 w.heap.size m1.a m1.cap m1.mem by rw [HE1.out.1, HE1.out.2.1, HE1.out.2.2]; exact Sl.In.below HG.out.mem B10)
  have X := Lib.hid x10
  have XZ := Lib.hid x10z
  have XN := Lib.hid x10n
  have Y := Lib.hid y10
  have BX := Lib.hid B10
  have hqw : w.heap.size + 1 + 1 ≤ q := by omega
  have hzW : q + 1 < W10.heap.size := by omega
  have h6' := h6
  rw [hq] at h7
  clear hb5 B5 b6 x6 x6z o6 y6 y7 b7 o7 l1 hv x7 x7z B7 x8n b8 o8 x8 x8z y8 x9n b9 o9 x9 x9z y9 x10n b10 o10 x10 x10z y10 eva evb hva hvb hn1 B10 h6'
  obtain ⟨c0, c1, c2, c3, c4⟩ := Y.out.cells
  have HBR := Lib.hid (show m1.branch ⟨24, rd, ra, rb, imm⟩ = if goesF 24 va vb = true then IntKind.u64.wrap (m1.pc + imu) else nx by unfold Mc.branch; rw [HVA.out, HVB.out, HNX.out, HIM.out])
  obtain ⟨g, hg⟩ : ∃ g, goesF 24 va vb = g := ⟨_, rfl⟩
  have HGO := Lib.hid hg
  have l4 := Y.out.load
  clear hg
  go_wp2_with fail
  refine (rgoes_any 24 rd ra rb imm va vb W10).mono ?_
  rintro e w11 ⟨rfl, hb11⟩
  rw [HGO.out]
  have B1 := BX.out.trans (hb11.mono (by omega))
  have X1 := X.out.below hb11 (by omega)
  have XZ1 := XZ.out.below hb11 (by omega)
  have XN1 := XN.out.below hb11 (by omega)
  have HEN := Lib.hid (show m1.exec ⟨24, rd, ra, rb, imm⟩ = { m1 with pc := m1.branch ⟨24, rd, ra, rb, imm⟩ } by rw [exec_br (by simp), Mc.put_same hl1 HR0.out])
  clear c0 c1 c2 c3 c4 l4 hb11
  cases g
  · have HEX := Lib.hid (show m1.exec ⟨24, rd, ra, rb, imm⟩ = n1 by rw [HEN.out, HBR.out, HGO.out, if_neg (by simp), HN1.out])
    have HRR := HN1
    clear X1
    have lr := XN1.loadVar hln
    obtain ⟨Wc, hc, lc, bc⟩ := mach_out (m := n1) XZ1 rfl hln
    have hfin := Lib.hid (B1.trans bc)
    clear bc
    go_wp2
    refine bodyPost_ret (v := .agg n1.cells.toArray) ?_ rfl ?_
    · simp [results, Tryd.results23, go_sem, lc]
    · rw [HEX.out]
      exact Comes.same (m' := n1) HG.out.mem HG.out.nil (by rw [HRR.out]; exact HE1.out.2.2) (by rw [HRR.out]; exact HE1.out.1) (by rw [HRR.out]; exact HE1.out.2.1) hfin.out rfl
  · obtain ⟨R, hR⟩ : ∃ R, R = ({ m1 with pc := IntKind.u64.wrap (m1.pc + imu) } : Mc) := ⟨_, rfl⟩
    have hlR : R.x.length = 32 := by rw [hR]; exact hl1
    have HEX := Lib.hid (show m1.exec ⟨24, rd, ra, rb, imm⟩ = R by rw [HEN.out, HBR.out, HGO.out, if_pos rfl, hR])
    obtain ⟨W12, h12, x12, _, b12, o12⟩ := XN1.step (m' := R) ((Mc.setPc hln _).trans (by rw [hR, HN1.out]))
    have f12 := XN1.frz 32
    have u12 := (XN1.tail hln).1
    have p11 := (X1.tail hl1).1
    have XZ2 := o12 _ _ (by omega) XZ1
    have B2 := B1.trans (b12.mono (by omega))
    have HRR := Lib.hid hR
    clear hR o12 b12
    have lr := x12.loadVar hlR
    obtain ⟨Wc, hc, lc, bc⟩ := mach_out (m := R) XZ2 rfl hlR
    have hfin := Lib.hid (B2.trans bc)
    clear bc
    go_wp2
    refine bodyPost_ret (v := .agg R.cells.toArray) ?_ rfl ?_
    · simp [results, Tryd.results23, go_sem, lc]
    · rw [HEX.out]
      exact Comes.same (m' := R) HG.out.mem HG.out.nil (by rw [HRR.out]; exact HE1.out.2.2) (by rw [HRR.out]; exact HE1.out.1) (by rw [HRR.out]; exact HE1.out.2.1) hfin.out rfl

set_option maxHeartbeats 4000000 in
theorem rstep_k25 (m : Mc) {w : World} (hG : McG w m) (h00 : m.reg 0 = 0) (rd ra rb : Nat) (_hrd : rd < 32) (hra : ra < 32) (hrb : rb < 32) (imm : Int) (hs : m.state = 0) (hf : m.tick.fetch = some ⟨25, rd, ra, rb, imm⟩) :
    Calls Tryd.prog 23 #[.agg m.cells.toArray] w (Comes w (m.tick.exec ⟨25, rd, ra, rb, imm⟩)) := by
  have hm := hG.ok
  have hl := hm.len
  obtain ⟨W1, W2, h1, h2, s1, s2, x1, x2, b2⟩ := mach_start m w
  have c36 := (x1.tail hl).2.2.2.2.1
  rw [hs] at c36
  have c38 := (x1.tail hl).2.2.2.2.2.2
  have f38 := x1.frz 38
  obtain ⟨m1, hm1⟩ : ∃ m1, m1 = m.tick := ⟨_, rfl⟩
  rw [← hm1] at hf ⊢
  have ok1 : m1.Ok := by rw [hm1]; exact hm.tick
  have hl1 := ok1.len
  obtain ⟨W3, h3, x3, s3, b3, o3⟩ := x1.step (m' := m1) ((Mc.setSteps hl _).trans (by rw [hm1]; rfl))
  have x3z := o3 _ _ (by omega) x2
  have p3 := (x3.tail hl1).1
  have q3 := (x3.tail hl1).2.1
  have B3 := b2.trans b3
  have hM3 := Sl.In.below hG.mem B3
  have e1 : m1.a = m.a ∧ m1.cap = m.cap ∧ m1.mem = m.mem := by subst hm1; exact ⟨rfl, rfl, rfl⟩
  have e2 : m1.out = m.out := by subst hm1; rfl
  rw [← e1.1, ← e1.2.1, ← e1.2.2] at hM3
  have HM3 := Lib.hid hM3
  have HB3 := Lib.hid B3
  have HX := Lib.hid x3
  have HXZ := Lib.hid x3z
  have HOK := Lib.hid ok1
  have HE1 := Lib.hid e1
  have HE2 := Lib.hid e2
  have HG := Lib.hid hG
  have hz3 : W3.heap.size = w.heap.size + 1 + 1 := by omega
  have hpb := ok1.pc_
  unfold U64 at hpb
  obtain ⟨hp0, hp1⟩ := hpb
  have HR0 := Lib.hid (show m1.reg 0 = 0 by rw [hm1]; exact h00)
  obtain ⟨E, hE⟩ : ∃ E, loadE m1.mem m1.pc 4 1 = E := ⟨_, rfl⟩
  obtain ⟨V, hV⟩ : ∃ V, loadV m1.mem m1.pc 4 1 = V := ⟨_, rfl⟩
  obtain ⟨e4, eE, eT⟩ := fetch_some hf
  rw [hE] at eE
  subst eE
  rw [hV] at eT
  have HTK := Lib.hid eT
  have q4 : (m1.pc % 4 == 0) = true := beq_iff_eq.2 e4
  clear eT hf
  have HE := Lib.hid hE
  have HV := Lib.hid hV
  clear hM3 B3 x1 x2 b2 x3 x3z b3 o3 ok1 e1 e2 hG hm hm1 hs hE hV h00
  go_enter Tryd.func23, Tryd.ntmps23
  go_wp2_with fail
  refine (rload_any m1.pc 4 1 ⟨hp0, hp1⟩ (by omega) HM3.out (by omega) HOK.out.wf HOK.out.small).mono ?_
  rintro e w4 ⟨rfl, hb4⟩
  rw [HE.out, HV.out]
  have hz4 := hb4.size
  have B4 := Lib.hid (HB3.out.trans (hb4.mono (by omega)))
  have X4 := Lib.hid (HX.out.below hb4 (by omega))
  have XZ4 := Lib.hid (HXZ.out.below hb4 (by omega))
  have p4 := (X4.out.tail hl1).1
  clear hb4
  have l1 := X4.out.loadVar hl1
  go_wp2_with fail
  refine (rtake_any _ w4 (u32_wrap_bd V)).mono ?_
  rintro e w5 ⟨rfl, hb5⟩
  rw [takeV_eq, takeE_eq, HTK.out]
  have hz5 := hb5.size
  obtain ⟨W6, h6, s6, y6, b6, o6⟩ := op_new w5
  have B5 := B4.out.trans (hb5.mono (by omega))
  have x6 := o6 _ _ (X4.out.below hb5 (by omega))
  have x6z := o6 _ _ (XZ4.out.below hb5 (by omega))
  have hv : (Option.getD (some (⟨25, rd, ra, rb, imm⟩ : OpD)) OpD.zero).v = .agg #[.int .i64 25, .int .i64 rd, .int .i64 ra, .int .i64 rb, .int .i64 imm] := rfl
  rw [hv]
  obtain ⟨W7, h7, y7, s7, b7, o7⟩ := y6.lay ⟨25, rd, ra, rb, imm⟩
  have x7 := o7 _ _ (by omega) x6
  have x7z := o7 _ _ (by omega) x6z
  have B7 := (B5.trans (b6.mono (by omega))).trans (b7.mono (by omega))
  have g7 := y7.cells
  obtain ⟨a0, a1, a2, a3, a4⟩ := g7
  have r1 := x7.reg hl1 (i := ra) (by omega)
  have r2 := x7.reg hl1 (i := rb) (by omega)
  have l7 := x7.loadVar hl1
  obtain ⟨nx, hnx⟩ : ∃ v, IntKind.u64.wrap (m1.pc + 4) = v := ⟨_, rfl⟩
  obtain ⟨n1, hn1⟩ : ∃ n1, n1 = ({ m1 with pc := nx } : Mc) := ⟨_, rfl⟩
  have hln : n1.x.length = 32 := by rw [hn1]; exact hl1
  obtain ⟨q, hq⟩ : ∃ q, w5.heap.size = q := ⟨_, rfl⟩
  rw [hq] at y7 a0 a1 a2 a3 a4
  obtain ⟨W8, h8, s8, x8n, b8, o8⟩ := mach_more W7
  rw [s7, s6, hq] at s8 x8n b8
  have x8 := o8 _ _ x7
  have x8z := o8 _ _ x7z
  have y8 := y7.below b8 (by omega)
  obtain ⟨W9, h9, x9n, s9, b9, o9⟩ := x8n.lay rfl m1 hl1
  have x9 := o9 _ _ (by omega) x8
  have x9z := o9 _ _ (by omega) x8z
  have y9 := y8.below b9 (by omega)
  have p9 := (x9.tail hl1).1
  have p9n := (x9n.tail hl1).1
  have f9n := x9n.frz 32
  obtain ⟨W10, h10, x10n, s10, b10, o10⟩ := x9n.step (m' := n1) ((Mc.setPc hl1 nx).trans (by rw [hn1]))
  have x10 := o10 _ _ (by omega) x9
  have x10z := o10 _ _ (by omega) x9z
  have y10 := y9.below b10 (by omega)
  have j0 : (0 : Int) ≤ (ra : Int) := by omega
  have j1 : (ra : Int) < 32 := by omega
  have j2 : (0 : Int) ≤ (rb : Int) := by omega
  have j3 : (rb : Int) < 32 := by omega
  obtain ⟨va, hva⟩ : ∃ v, v = m1.x.getD ra 0 := ⟨_, rfl⟩
  obtain ⟨vb, hvb⟩ : ∃ v, v = m1.x.getD rb 0 := ⟨_, rfl⟩
  rw [← hva] at r1
  rw [← hvb] at r2
  have eva : m1.reg ra = va := by rw [hva]; rfl
  have evb : m1.reg rb = vb := by rw [hvb]; rfl
  have HVA := Lib.hid eva
  have HVB := Lib.hid evb
  have HUA := Lib.hid (show U64 va by rw [← eva]; exact HOK.out.reg _)
  have HUB := Lib.hid (show U64 vb by rw [← evb]; exact HOK.out.reg _)
  obtain ⟨imu, himu⟩ : ∃ v, IntKind.u64.wrap imm = v := ⟨_, rfl⟩
  obtain ⟨at_, hat⟩ : ∃ v, IntKind.u64.wrap (va + imu) = v := ⟨_, rfl⟩
  have HIM := Lib.hid himu
  have HAT := Lib.hid (show m1.at_ ⟨25, rd, ra, rb, imm⟩ = at_ by rw [← hat, ← himu, ← eva]; rfl)
  have HATB := Lib.hid (show U64 at_ by rw [← hat]; exact U64.wrap _)
  have HNX := Lib.hid (show m1.next = nx from hnx)
  have HN1 := Lib.hid hn1
  have B10 := ((B7.trans (b8.mono (by omega))).trans (b9.mono (by omega))).trans (b10.mono (by omega))
  have HM10 := Lib.hid (show Mem W10 w.heap.size m1.a m1.cap m1.mem by rw [HE1.out.1, HE1.out.2.1, HE1.out.2.2]; exact Sl.In.below HG.out.mem B10)
  have X := Lib.hid x10
  have XZ := Lib.hid x10z
  have XN := Lib.hid x10n
  have Y := Lib.hid y10
  have BX := Lib.hid B10
  have hqw : w.heap.size + 1 + 1 ≤ q := by omega
  have hzW : q + 1 < W10.heap.size := by omega
  have h6' := h6
  rw [hq] at h7
  clear hb5 B5 b6 x6 x6z o6 y6 y7 b7 o7 l1 hv x7 x7z B7 x8n b8 o8 x8 x8z y8 x9n b9 o9 x9 x9z y9 x10n b10 o10 x10 x10z y10 eva evb hva hvb hn1 B10 h6'
  obtain ⟨c0, c1, c2, c3, c4⟩ := Y.out.cells
  have HBR := Lib.hid (show m1.branch ⟨25, rd, ra, rb, imm⟩ = if goesF 25 va vb = true then IntKind.u64.wrap (m1.pc + imu) else nx by unfold Mc.branch; rw [HVA.out, HVB.out, HNX.out, HIM.out])
  obtain ⟨g, hg⟩ : ∃ g, goesF 25 va vb = g := ⟨_, rfl⟩
  have HGO := Lib.hid hg
  have l4 := Y.out.load
  clear hg
  go_wp2_with fail
  refine (rgoes_any 25 rd ra rb imm va vb W10).mono ?_
  rintro e w11 ⟨rfl, hb11⟩
  rw [HGO.out]
  have B1 := BX.out.trans (hb11.mono (by omega))
  have X1 := X.out.below hb11 (by omega)
  have XZ1 := XZ.out.below hb11 (by omega)
  have XN1 := XN.out.below hb11 (by omega)
  have HEN := Lib.hid (show m1.exec ⟨25, rd, ra, rb, imm⟩ = { m1 with pc := m1.branch ⟨25, rd, ra, rb, imm⟩ } by rw [exec_br (by simp), Mc.put_same hl1 HR0.out])
  clear c0 c1 c2 c3 c4 l4 hb11
  cases g
  · have HEX := Lib.hid (show m1.exec ⟨25, rd, ra, rb, imm⟩ = n1 by rw [HEN.out, HBR.out, HGO.out, if_neg (by simp), HN1.out])
    have HRR := HN1
    clear X1
    have lr := XN1.loadVar hln
    obtain ⟨Wc, hc, lc, bc⟩ := mach_out (m := n1) XZ1 rfl hln
    have hfin := Lib.hid (B1.trans bc)
    clear bc
    go_wp2
    refine bodyPost_ret (v := .agg n1.cells.toArray) ?_ rfl ?_
    · simp [results, Tryd.results23, go_sem, lc]
    · rw [HEX.out]
      exact Comes.same (m' := n1) HG.out.mem HG.out.nil (by rw [HRR.out]; exact HE1.out.2.2) (by rw [HRR.out]; exact HE1.out.1) (by rw [HRR.out]; exact HE1.out.2.1) hfin.out rfl
  · obtain ⟨R, hR⟩ : ∃ R, R = ({ m1 with pc := IntKind.u64.wrap (m1.pc + imu) } : Mc) := ⟨_, rfl⟩
    have hlR : R.x.length = 32 := by rw [hR]; exact hl1
    have HEX := Lib.hid (show m1.exec ⟨25, rd, ra, rb, imm⟩ = R by rw [HEN.out, HBR.out, HGO.out, if_pos rfl, hR])
    obtain ⟨W12, h12, x12, _, b12, o12⟩ := XN1.step (m' := R) ((Mc.setPc hln _).trans (by rw [hR, HN1.out]))
    have f12 := XN1.frz 32
    have u12 := (XN1.tail hln).1
    have p11 := (X1.tail hl1).1
    have XZ2 := o12 _ _ (by omega) XZ1
    have B2 := B1.trans (b12.mono (by omega))
    have HRR := Lib.hid hR
    clear hR o12 b12
    have lr := x12.loadVar hlR
    obtain ⟨Wc, hc, lc, bc⟩ := mach_out (m := R) XZ2 rfl hlR
    have hfin := Lib.hid (B2.trans bc)
    clear bc
    go_wp2
    refine bodyPost_ret (v := .agg R.cells.toArray) ?_ rfl ?_
    · simp [results, Tryd.results23, go_sem, lc]
    · rw [HEX.out]
      exact Comes.same (m' := R) HG.out.mem HG.out.nil (by rw [HRR.out]; exact HE1.out.2.2) (by rw [HRR.out]; exact HE1.out.1) (by rw [HRR.out]; exact HE1.out.2.1) hfin.out rfl

set_option maxHeartbeats 4000000 in
theorem rstep_k26 (m : Mc) {w : World} (hG : McG w m) (h00 : m.reg 0 = 0) (rd ra rb : Nat) (_hrd : rd < 32) (hra : ra < 32) (hrb : rb < 32) (imm : Int) (hs : m.state = 0) (hf : m.tick.fetch = some ⟨26, rd, ra, rb, imm⟩) :
    Calls Tryd.prog 23 #[.agg m.cells.toArray] w (Comes w (m.tick.exec ⟨26, rd, ra, rb, imm⟩)) := by
  have hm := hG.ok
  have hl := hm.len
  obtain ⟨W1, W2, h1, h2, s1, s2, x1, x2, b2⟩ := mach_start m w
  have c36 := (x1.tail hl).2.2.2.2.1
  rw [hs] at c36
  have c38 := (x1.tail hl).2.2.2.2.2.2
  have f38 := x1.frz 38
  obtain ⟨m1, hm1⟩ : ∃ m1, m1 = m.tick := ⟨_, rfl⟩
  rw [← hm1] at hf ⊢
  have ok1 : m1.Ok := by rw [hm1]; exact hm.tick
  have hl1 := ok1.len
  obtain ⟨W3, h3, x3, s3, b3, o3⟩ := x1.step (m' := m1) ((Mc.setSteps hl _).trans (by rw [hm1]; rfl))
  have x3z := o3 _ _ (by omega) x2
  have p3 := (x3.tail hl1).1
  have q3 := (x3.tail hl1).2.1
  have B3 := b2.trans b3
  have hM3 := Sl.In.below hG.mem B3
  have e1 : m1.a = m.a ∧ m1.cap = m.cap ∧ m1.mem = m.mem := by subst hm1; exact ⟨rfl, rfl, rfl⟩
  have e2 : m1.out = m.out := by subst hm1; rfl
  rw [← e1.1, ← e1.2.1, ← e1.2.2] at hM3
  have HM3 := Lib.hid hM3
  have HB3 := Lib.hid B3
  have HX := Lib.hid x3
  have HXZ := Lib.hid x3z
  have HOK := Lib.hid ok1
  have HE1 := Lib.hid e1
  have HE2 := Lib.hid e2
  have HG := Lib.hid hG
  have hz3 : W3.heap.size = w.heap.size + 1 + 1 := by omega
  have hpb := ok1.pc_
  unfold U64 at hpb
  obtain ⟨hp0, hp1⟩ := hpb
  have HR0 := Lib.hid (show m1.reg 0 = 0 by rw [hm1]; exact h00)
  obtain ⟨E, hE⟩ : ∃ E, loadE m1.mem m1.pc 4 1 = E := ⟨_, rfl⟩
  obtain ⟨V, hV⟩ : ∃ V, loadV m1.mem m1.pc 4 1 = V := ⟨_, rfl⟩
  obtain ⟨e4, eE, eT⟩ := fetch_some hf
  rw [hE] at eE
  subst eE
  rw [hV] at eT
  have HTK := Lib.hid eT
  have q4 : (m1.pc % 4 == 0) = true := beq_iff_eq.2 e4
  clear eT hf
  have HE := Lib.hid hE
  have HV := Lib.hid hV
  clear hM3 B3 x1 x2 b2 x3 x3z b3 o3 ok1 e1 e2 hG hm hm1 hs hE hV h00
  go_enter Tryd.func23, Tryd.ntmps23
  go_wp2_with fail
  refine (rload_any m1.pc 4 1 ⟨hp0, hp1⟩ (by omega) HM3.out (by omega) HOK.out.wf HOK.out.small).mono ?_
  rintro e w4 ⟨rfl, hb4⟩
  rw [HE.out, HV.out]
  have hz4 := hb4.size
  have B4 := Lib.hid (HB3.out.trans (hb4.mono (by omega)))
  have X4 := Lib.hid (HX.out.below hb4 (by omega))
  have XZ4 := Lib.hid (HXZ.out.below hb4 (by omega))
  have p4 := (X4.out.tail hl1).1
  clear hb4
  have l1 := X4.out.loadVar hl1
  go_wp2_with fail
  refine (rtake_any _ w4 (u32_wrap_bd V)).mono ?_
  rintro e w5 ⟨rfl, hb5⟩
  rw [takeV_eq, takeE_eq, HTK.out]
  have hz5 := hb5.size
  obtain ⟨W6, h6, s6, y6, b6, o6⟩ := op_new w5
  have B5 := B4.out.trans (hb5.mono (by omega))
  have x6 := o6 _ _ (X4.out.below hb5 (by omega))
  have x6z := o6 _ _ (XZ4.out.below hb5 (by omega))
  have hv : (Option.getD (some (⟨26, rd, ra, rb, imm⟩ : OpD)) OpD.zero).v = .agg #[.int .i64 26, .int .i64 rd, .int .i64 ra, .int .i64 rb, .int .i64 imm] := rfl
  rw [hv]
  obtain ⟨W7, h7, y7, s7, b7, o7⟩ := y6.lay ⟨26, rd, ra, rb, imm⟩
  have x7 := o7 _ _ (by omega) x6
  have x7z := o7 _ _ (by omega) x6z
  have B7 := (B5.trans (b6.mono (by omega))).trans (b7.mono (by omega))
  have g7 := y7.cells
  obtain ⟨a0, a1, a2, a3, a4⟩ := g7
  have r1 := x7.reg hl1 (i := ra) (by omega)
  have r2 := x7.reg hl1 (i := rb) (by omega)
  have l7 := x7.loadVar hl1
  obtain ⟨nx, hnx⟩ : ∃ v, IntKind.u64.wrap (m1.pc + 4) = v := ⟨_, rfl⟩
  obtain ⟨n1, hn1⟩ : ∃ n1, n1 = ({ m1 with pc := nx } : Mc) := ⟨_, rfl⟩
  have hln : n1.x.length = 32 := by rw [hn1]; exact hl1
  obtain ⟨q, hq⟩ : ∃ q, w5.heap.size = q := ⟨_, rfl⟩
  rw [hq] at y7 a0 a1 a2 a3 a4
  obtain ⟨W8, h8, s8, x8n, b8, o8⟩ := mach_more W7
  rw [s7, s6, hq] at s8 x8n b8
  have x8 := o8 _ _ x7
  have x8z := o8 _ _ x7z
  have y8 := y7.below b8 (by omega)
  obtain ⟨W9, h9, x9n, s9, b9, o9⟩ := x8n.lay rfl m1 hl1
  have x9 := o9 _ _ (by omega) x8
  have x9z := o9 _ _ (by omega) x8z
  have y9 := y8.below b9 (by omega)
  have p9 := (x9.tail hl1).1
  have p9n := (x9n.tail hl1).1
  have f9n := x9n.frz 32
  obtain ⟨W10, h10, x10n, s10, b10, o10⟩ := x9n.step (m' := n1) ((Mc.setPc hl1 nx).trans (by rw [hn1]))
  have x10 := o10 _ _ (by omega) x9
  have x10z := o10 _ _ (by omega) x9z
  have y10 := y9.below b10 (by omega)
  have j0 : (0 : Int) ≤ (ra : Int) := by omega
  have j1 : (ra : Int) < 32 := by omega
  have j2 : (0 : Int) ≤ (rb : Int) := by omega
  have j3 : (rb : Int) < 32 := by omega
  obtain ⟨va, hva⟩ : ∃ v, v = m1.x.getD ra 0 := ⟨_, rfl⟩
  obtain ⟨vb, hvb⟩ : ∃ v, v = m1.x.getD rb 0 := ⟨_, rfl⟩
  rw [← hva] at r1
  rw [← hvb] at r2
  have eva : m1.reg ra = va := by rw [hva]; rfl
  have evb : m1.reg rb = vb := by rw [hvb]; rfl
  have HVA := Lib.hid eva
  have HVB := Lib.hid evb
  have HUA := Lib.hid (show U64 va by rw [← eva]; exact HOK.out.reg _)
  have HUB := Lib.hid (show U64 vb by rw [← evb]; exact HOK.out.reg _)
  obtain ⟨imu, himu⟩ : ∃ v, IntKind.u64.wrap imm = v := ⟨_, rfl⟩
  obtain ⟨at_, hat⟩ : ∃ v, IntKind.u64.wrap (va + imu) = v := ⟨_, rfl⟩
  have HIM := Lib.hid himu
  have HAT := Lib.hid (show m1.at_ ⟨26, rd, ra, rb, imm⟩ = at_ by rw [← hat, ← himu, ← eva]; rfl)
  have HATB := Lib.hid (show U64 at_ by rw [← hat]; exact U64.wrap _)
  have HNX := Lib.hid (show m1.next = nx from hnx)
  have HN1 := Lib.hid hn1
  have B10 := ((B7.trans (b8.mono (by omega))).trans (b9.mono (by omega))).trans (b10.mono (by omega))
  have HM10 := Lib.hid (show Mem W10 w.heap.size m1.a m1.cap m1.mem by rw [HE1.out.1, HE1.out.2.1, HE1.out.2.2]; exact Sl.In.below HG.out.mem B10)
  have X := Lib.hid x10
  have XZ := Lib.hid x10z
  have XN := Lib.hid x10n
  have Y := Lib.hid y10
  have BX := Lib.hid B10
  have hqw : w.heap.size + 1 + 1 ≤ q := by omega
  have hzW : q + 1 < W10.heap.size := by omega
  have h6' := h6
  rw [hq] at h7
  clear hb5 B5 b6 x6 x6z o6 y6 y7 b7 o7 l1 hv x7 x7z B7 x8n b8 o8 x8 x8z y8 x9n b9 o9 x9 x9z y9 x10n b10 o10 x10 x10z y10 eva evb hva hvb hn1 B10 h6'
  obtain ⟨c0, c1, c2, c3, c4⟩ := Y.out.cells
  have HBR := Lib.hid (show m1.branch ⟨26, rd, ra, rb, imm⟩ = if goesF 26 va vb = true then IntKind.u64.wrap (m1.pc + imu) else nx by unfold Mc.branch; rw [HVA.out, HVB.out, HNX.out, HIM.out])
  obtain ⟨g, hg⟩ : ∃ g, goesF 26 va vb = g := ⟨_, rfl⟩
  have HGO := Lib.hid hg
  have l4 := Y.out.load
  clear hg
  go_wp2_with fail
  refine (rgoes_any 26 rd ra rb imm va vb W10).mono ?_
  rintro e w11 ⟨rfl, hb11⟩
  rw [HGO.out]
  have B1 := BX.out.trans (hb11.mono (by omega))
  have X1 := X.out.below hb11 (by omega)
  have XZ1 := XZ.out.below hb11 (by omega)
  have XN1 := XN.out.below hb11 (by omega)
  have HEN := Lib.hid (show m1.exec ⟨26, rd, ra, rb, imm⟩ = { m1 with pc := m1.branch ⟨26, rd, ra, rb, imm⟩ } by rw [exec_br (by simp), Mc.put_same hl1 HR0.out])
  clear c0 c1 c2 c3 c4 l4 hb11
  cases g
  · have HEX := Lib.hid (show m1.exec ⟨26, rd, ra, rb, imm⟩ = n1 by rw [HEN.out, HBR.out, HGO.out, if_neg (by simp), HN1.out])
    have HRR := HN1
    clear X1
    have lr := XN1.loadVar hln
    obtain ⟨Wc, hc, lc, bc⟩ := mach_out (m := n1) XZ1 rfl hln
    have hfin := Lib.hid (B1.trans bc)
    clear bc
    go_wp2
    refine bodyPost_ret (v := .agg n1.cells.toArray) ?_ rfl ?_
    · simp [results, Tryd.results23, go_sem, lc]
    · rw [HEX.out]
      exact Comes.same (m' := n1) HG.out.mem HG.out.nil (by rw [HRR.out]; exact HE1.out.2.2) (by rw [HRR.out]; exact HE1.out.1) (by rw [HRR.out]; exact HE1.out.2.1) hfin.out rfl
  · obtain ⟨R, hR⟩ : ∃ R, R = ({ m1 with pc := IntKind.u64.wrap (m1.pc + imu) } : Mc) := ⟨_, rfl⟩
    have hlR : R.x.length = 32 := by rw [hR]; exact hl1
    have HEX := Lib.hid (show m1.exec ⟨26, rd, ra, rb, imm⟩ = R by rw [HEN.out, HBR.out, HGO.out, if_pos rfl, hR])
    obtain ⟨W12, h12, x12, _, b12, o12⟩ := XN1.step (m' := R) ((Mc.setPc hln _).trans (by rw [hR, HN1.out]))
    have f12 := XN1.frz 32
    have u12 := (XN1.tail hln).1
    have p11 := (X1.tail hl1).1
    have XZ2 := o12 _ _ (by omega) XZ1
    have B2 := B1.trans (b12.mono (by omega))
    have HRR := Lib.hid hR
    clear hR o12 b12
    have lr := x12.loadVar hlR
    obtain ⟨Wc, hc, lc, bc⟩ := mach_out (m := R) XZ2 rfl hlR
    have hfin := Lib.hid (B2.trans bc)
    clear bc
    go_wp2
    refine bodyPost_ret (v := .agg R.cells.toArray) ?_ rfl ?_
    · simp [results, Tryd.results23, go_sem, lc]
    · rw [HEX.out]
      exact Comes.same (m' := R) HG.out.mem HG.out.nil (by rw [HRR.out]; exact HE1.out.2.2) (by rw [HRR.out]; exact HE1.out.1) (by rw [HRR.out]; exact HE1.out.2.1) hfin.out rfl

end Go.Proofs.YtajhehmkdlebbaaDoor
