/- The reference's Step: jumps. The reference's Step: calls. The reference's Step comes to the same. -/
import Derived.Test.YtajhehmkdlebbaaDoorQRvRStep0
import Derived.Test.YtajhehmkdlebbaaDoorQRvR1
import Derived.Test.YtajhehmkdlebbaaDoorQRvR2
namespace Go.Proofs.YtajhehmkdlebbaaDoor
open Go.ChangeShapes Go.WideShapes Go.ChangeAt Go.RowKit Go.Deep
set_option maxRecDepth 100000
attribute [-go_sem] loadVar storeVar
set_option maxHeartbeats 4000000 in
theorem rstep_k29 (m : Mc) {w : World} (hG : McG w m) (h00 : m.reg 0 = 0) (rd ra rb : Nat) (hrd : rd < 32) (hra : ra < 32) (hrb : rb < 32) (imm : Int) (hs : m.state = 0) (hf : m.tick.fetch = some ⟨29, rd, ra, rb, imm⟩) :
    Calls Tryd.prog 23 #[.agg m.cells.toArray] w (Comes w (m.tick.exec ⟨29, rd, ra, rb, imm⟩)) := by
  have hm := hG.ok
  have hl := hm.len
  obtain ⟨W1, W2, h1, h2, s1, s2, x1, x2, b2⟩ := mach_start m w
  have c36 := (x1.tail hl).2.2.2.2.1
  rw [hs] at c36
  have c38 := (x1.tail hl).2.2.2.2.2.2
  have f38 := x1.frz 38
  obtain ⟨m1, hm1⟩ : ∃ m1, m1 = m.tick := ⟨_, rfl⟩
  rw [← hm1] at hf ⊢
  have ok1 : m1.Ok := by rw [hm1]; exact hm.tick
  have hl1 := ok1.len
  obtain ⟨W3, h3, x3, s3, b3, o3⟩ := x1.step (m' := m1) ((Mc.setSteps hl _).trans (by rw [hm1]; rfl))
  have x3z := o3 _ _ (by omega) x2
  have p3 := (x3.tail hl1).1
  have q3 := (x3.tail hl1).2.1
  have B3 := b2.trans b3
  have hM3 := Sl.In.below hG.mem B3
  have e1 : m1.a = m.a ∧ m1.cap = m.cap ∧ m1.mem = m.mem := by subst hm1; exact ⟨rfl, rfl, rfl⟩
  have e2 : m1.out = m.out := by subst hm1; rfl
  rw [← e1.1, ← e1.2.1, ← e1.2.2] at hM3
  have HM3 := Lib.hid hM3
  have HB3 := Lib.hid B3
  have HX := Lib.hid x3
  have HXZ := Lib.hid x3z
  have HOK := Lib.hid ok1
  have HE1 := Lib.hid e1
  have HE2 := Lib.hid e2
  have HG := Lib.hid hG
  have hz3 : W3.heap.size = w.heap.size + 1 + 1 := by omega
  have hpb := ok1.pc_
  unfold U64 at hpb
  obtain ⟨hp0, hp1⟩ := hpb
  have HR0 := Lib.hid (show m1.reg 0 = 0 by rw [hm1]; exact h00)
  obtain ⟨E, hE⟩ : ∃ E, loadE m1.mem m1.pc 4 1 = E := ⟨_, rfl⟩
  obtain ⟨V, hV⟩ : ∃ V, loadV m1.mem m1.pc 4 1 = V := ⟨_, rfl⟩
  obtain ⟨e4, eE, eT⟩ := fetch_some hf
  rw [hE] at eE
  subst eE
  rw [hV] at eT
  have HTK := Lib.hid eT
  have q4 : (m1.pc % 4 == 0) = true := beq_iff_eq.2 e4
  clear eT hf
  have HE := Lib.hid hE
  have HV := Lib.hid hV
  clear hM3 B3 x1 x2 b2 x3 x3z b3 o3 ok1 e1 e2 hG hm hm1 hs hE hV h00
  go_enter Tryd.func23, Tryd.ntmps23
  go_wp2_with fail
  refine (rload_any m1.pc 4 1 ⟨hp0, hp1⟩ (by omega) HM3.out (by omega) HOK.out.wf HOK.out.small).mono ?_
  rintro e w4 ⟨rfl, hb4⟩
  rw [HE.out, HV.out]
  have hz4 := hb4.size
  have B4 := Lib.hid (HB3.out.trans (hb4.mono (by omega)))
  have X4 := Lib.hid (HX.out.below hb4 (by omega))
  have XZ4 := Lib.hid (HXZ.out.below hb4 (by omega))
  have p4 := (X4.out.tail hl1).1
  clear hb4
  have l1 := X4.out.loadVar hl1
  go_wp2_with fail
  refine (rtake_any _ w4 (u32_wrap_bd V)).mono ?_
  rintro e w5 ⟨rfl, hb5⟩
  rw [takeV_eq, takeE_eq, HTK.out]
  have hz5 := hb5.size
  obtain ⟨W6, h6, s6, y6, b6, o6⟩ := op_new w5
  have B5 := B4.out.trans (hb5.mono (by omega))
  have x6 := o6 _ _ (X4.out.below hb5 (by omega))
  have x6z := o6 _ _ (XZ4.out.below hb5 (by omega))
  have hv : (Option.getD (some (⟨29, rd, ra, rb, imm⟩ : OpD)) OpD.zero).v = .agg #[.int .i64 29, .int .i64 rd, .int .i64 ra, .int .i64 rb, .int .i64 imm] := rfl
  rw [hv]
  obtain ⟨W7, h7, y7, s7, b7, o7⟩ := y6.lay ⟨29, rd, ra, rb, imm⟩
  have x7 := o7 _ _ (by omega) x6
  have x7z := o7 _ _ (by omega) x6z
  have B7 := (B5.trans (b6.mono (by omega))).trans (b7.mono (by omega))
  have g7 := y7.cells
  obtain ⟨a0, a1, a2, a3, a4⟩ := g7
  have r1 := x7.reg hl1 (i := ra) (by omega)
  have r2 := x7.reg hl1 (i := rb) (by omega)
  have l7 := x7.loadVar hl1
  obtain ⟨nx, hnx⟩ : ∃ v, IntKind.u64.wrap (m1.pc + 4) = v := ⟨_, rfl⟩
  obtain ⟨n1, hn1⟩ : ∃ n1, n1 = ({ m1 with pc := nx } : Mc) := ⟨_, rfl⟩
  have hln : n1.x.length = 32 := by rw [hn1]; exact hl1
  obtain ⟨q, hq⟩ : ∃ q, w5.heap.size = q := ⟨_, rfl⟩
  rw [hq] at y7 a0 a1 a2 a3 a4
  obtain ⟨W8, h8, s8, x8n, b8, o8⟩ := mach_more W7
  rw [s7, s6, hq] at s8 x8n b8
  have x8 := o8 _ _ x7
  have x8z := o8 _ _ x7z
  have y8 := y7.below b8 (by omega)
  obtain ⟨W9, h9, x9n, s9, b9, o9⟩ := x8n.lay rfl m1 hl1
  have x9 := o9 _ _ (by omega) x8
  have x9z := o9 _ _ (by omega) x8z
  have y9 := y8.below b9 (by omega)
  have p9 := (x9.tail hl1).1
  have p9n := (x9n.tail hl1).1
  have f9n := x9n.frz 32
  obtain ⟨W10, h10, x10n, s10, b10, o10⟩ := x9n.step (m' := n1) ((Mc.setPc hl1 nx).trans (by rw [hn1]))
  have x10 := o10 _ _ (by omega) x9
  have x10z := o10 _ _ (by omega) x9z
  have y10 := y9.below b10 (by omega)
  have j0 : (0 : Int) ≤ (ra : Int) := by omega
  have j1 : (ra : Int) < 32 := by omega
  have j2 : (0 : Int) ≤ (rb : Int) := by omega
  have j3 : (rb : Int) < 32 := by omega
  obtain ⟨va, hva⟩ : ∃ v, v = m1.x.getD ra 0 := ⟨_, rfl⟩
  obtain ⟨vb, hvb⟩ : ∃ v, v = m1.x.getD rb 0 := ⟨_, rfl⟩
  rw [← hva] at r1
  rw [← hvb] at r2
  have eva : m1.reg ra = va := by rw [hva]; rfl
  have evb : m1.reg rb = vb := by rw [hvb]; rfl
  have HVA := Lib.hid eva
  have HVB := Lib.hid evb
  have HUA := Lib.hid (show U64 va by rw [← eva]; exact HOK.out.reg _)
  have HUB := Lib.hid (show U64 vb by rw [← evb]; exact HOK.out.reg _)
  obtain ⟨imu, himu⟩ : ∃ v, IntKind.u64.wrap imm = v := ⟨_, rfl⟩
  obtain ⟨at_, hat⟩ : ∃ v, IntKind.u64.wrap (va + imu) = v := ⟨_, rfl⟩
  have HIM := Lib.hid himu
  have HAT := Lib.hid (show m1.at_ ⟨29, rd, ra, rb, imm⟩ = at_ by rw [← hat, ← himu, ← eva]; rfl)
  have HATB := Lib.hid (show U64 at_ by rw [← hat]; exact U64.wrap _)
  have HNX := Lib.hid (show m1.next = nx from hnx)
  have HN1 := Lib.hid hn1
  have B10 := ((B7.trans (b8.mono (by omega))).trans (b9.mono (by omega))).trans (b10.mono (by omega))
  have HM10 := Lib.hid (show Mem W10 w.heap.size m1.a m1.cap m1.mem by rw [HE1.out.1, HE1.out.2.1, HE1.out.2.2]; exact Sl.In.below HG.out.mem B10)
  have X := Lib.hid x10
  have XZ := Lib.hid x10z
  have XN := Lib.hid x10n
  have Y := Lib.hid y10
  have BX := Lib.hid B10
  have hqw : w.heap.size + 1 + 1 ≤ q := by omega
  have hzW : q + 1 < W10.heap.size := by omega
  have h6' := h6
  rw [hq] at h7
  clear hb5 B5 b6 x6 x6z o6 y6 y7 b7 o7 l1 hv x7 x7z B7 x8n b8 o8 x8 x8z y8 x9n b9 o9 x9 x9z y9 x10n b10 o10 x10 x10z y10 eva evb hva hvb hn1 B10 h6'
  obtain ⟨c0, c1, c2, c3, c4⟩ := Y.out.cells
  obtain ⟨dv, hdv⟩ : ∃ v, doesF 29 imm va vb m1.pc = v := ⟨_, rfl⟩
  have HDV := Lib.hid hdv
  have i0 : (0 : Int) ≤ (rd : Int) := by omega
  have i1 : (rd : Int) < 32 := by omega
  clear hdv c0 c1 c2 c3 c4
  obtain ⟨c0, c1, c2, c3, c4⟩ := Y.out.cells
  go_wp2_with fail
  clear c0 c1 c2 c3 c4
  refine wp_region_noPanic ?_
  refine wp_region_held_drew (S := fun w' => OB w' q ⟨29, rd, ra, rb, imm⟩ ∧ MB w' w.heap.size m1) (by kernel_rfl) ⟨Y.out, X.out⟩ (fun hHeld => ?_)
  refine takeH (i := 0) (d := some 205) (v := ?_) rfl (by kernel_rfl) (by kernel_rfl) (by kernel_rfl) (fun _ _ _ h => h) rfl (Or.inl ⟨by rfl, ?_⟩) hHeld ?_
  rotate_left
  · intro wS hSw
    obtain ⟨c0, c1, c2, c3, c4⟩ := hSw.1.cells
    have l4 := hSw.1.load
    have p4 := (hSw.2.tail hl1).1
    go_simp; (try with_reducible rfl)
  (try simp only [Act.put, List.setIfInBounds_toArray, List.set_cons_zero, List.set_cons_succ])
  refine takeH (i := 1) (d := some 206) (v := ?_) rfl (by kernel_rfl) (by kernel_rfl) (by kernel_rfl) (fun _ _ _ h => h) rfl (Or.inl ⟨by rfl, ?_⟩) hHeld ?_
  rotate_left
  · intro wS hSw
    obtain ⟨c0, c1, c2, c3, c4⟩ := hSw.1.cells
    have l4 := hSw.1.load
    have p4 := (hSw.2.tail hl1).1
    go_simp; (try with_reducible rfl)
  (try simp only [Act.put, List.setIfInBounds_toArray, List.set_cons_zero, List.set_cons_succ])
  refine takeH (i := 2) (d := some 207) (v := ?_) rfl (by kernel_rfl) (by kernel_rfl) (by kernel_rfl) (fun _ _ _ h => h) rfl (Or.inl ⟨by rfl, ?_⟩) hHeld ?_
  rotate_left
  · intro wS hSw
    obtain ⟨c0, c1, c2, c3, c4⟩ := hSw.1.cells
    have l4 := hSw.1.load
    have p4 := (hSw.2.tail hl1).1
    go_simp; (try with_reducible rfl)
  (try simp only [Act.put, List.setIfInBounds_toArray, List.set_cons_zero, List.set_cons_succ])
  refine takeH (i := 3) (d := some 208) (v := ?_) rfl (by kernel_rfl) (by kernel_rfl) (by kernel_rfl) (fun _ _ _ h => h) rfl (Or.inl ⟨by rfl, ?_⟩) hHeld ?_
  rotate_left
  · intro wS hSw
    obtain ⟨c0, c1, c2, c3, c4⟩ := hSw.1.cells
    have l4 := hSw.1.load
    have p4 := (hSw.2.tail hl1).1
    go_simp; (try with_reducible rfl)
  (try simp only [Act.put, List.setIfInBounds_toArray, List.set_cons_zero, List.set_cons_succ])
  refine takeH (i := 4) (d := some 209) (v := ?_) rfl (by kernel_rfl) (by kernel_rfl) (by kernel_rfl) (fun _ _ _ h => h) rfl (Or.inl ⟨by rfl, ?_⟩) hHeld ?_
  rotate_left
  · intro wS hSw
    obtain ⟨c0, c1, c2, c3, c4⟩ := hSw.1.cells
    have l4 := hSw.1.load
    have p4 := (hSw.2.tail hl1).1
    go_simp; (try with_reducible rfl)
  (try simp only [Act.put, List.setIfInBounds_toArray, List.set_cons_zero, List.set_cons_succ])
  refine takeH (i := 5) (d := some 210) (v := ?_) rfl (by kernel_rfl) (by kernel_rfl) (by kernel_rfl) (fun _ _ _ h => h) rfl (Or.inl ⟨by rfl, ?_⟩) hHeld ?_
  rotate_left
  · intro wS hSw
    obtain ⟨c0, c1, c2, c3, c4⟩ := hSw.1.cells
    have l4 := hSw.1.load
    have p4 := (hSw.2.tail hl1).1
    go_simp; (try with_reducible rfl)
  (try simp only [Act.put, List.setIfInBounds_toArray, List.set_cons_zero, List.set_cons_succ])
  refine takeH (i := 6) (d := some 211) (v := ?_) rfl (by kernel_rfl) (by kernel_rfl) (by kernel_rfl) (fun _ _ _ h => h) rfl (Or.inl ⟨by rfl, ?_⟩) hHeld ?_
  rotate_left
  · intro wS hSw
    obtain ⟨c0, c1, c2, c3, c4⟩ := hSw.1.cells
    have l4 := hSw.1.load
    have p4 := (hSw.2.tail hl1).1
    go_simp; (try with_reducible rfl)
  (try simp only [Act.put, List.setIfInBounds_toArray, List.set_cons_zero, List.set_cons_succ])
  refine takeH (i := 8) (d := some 213) (v := ?_) rfl (by kernel_rfl) (by kernel_rfl) (by kernel_rfl) (fun _ _ _ h => h) rfl (Or.inl ⟨by rfl, ?_⟩) hHeld ?_
  rotate_left
  · intro wS hSw
    obtain ⟨c0, c1, c2, c3, c4⟩ := hSw.1.cells
    have l4 := hSw.1.load
    have p4 := (hSw.2.tail hl1).1
    go_simp; (try with_reducible rfl)
  (try simp only [Act.put, List.setIfInBounds_toArray, List.set_cons_zero, List.set_cons_succ])
  refine wpAnyH_ready (rs := [7]) (by kernel_rfl) (by simp) ?_
  refine AllReadyH.cons rfl (fun K hK => ?_) AllReadyH.nil
  go_simp
  go_at_call 17
  refine (rdoes_any 29 rd ra rb imm va vb m1.pc W10.drew HUA.out HUB.out).mono ?_
  rintro e w11 ⟨rfl, hb11⟩
  rw [HDV.out]
  have hz11 := hb11.size
  have B1 := BX.out.drew.trans (hb11.mono (by show w.heap.size ≤ W10.heap.size; omega))
  have X1 : MB w11 w.heap.size m1 := MB.below (W := W10.drew) X.out hb11 (by show w.heap.size < W10.heap.size; omega)
  have XZ1 : MB w11 (w.heap.size + 1) Mc.zero := MB.below (W := W10.drew) XZ.out hb11 (by show w.heap.size + 1 < W10.heap.size; omega)
  have XN1 : MB w11 (q + 1) n1 := MB.below (W := W10.drew) XN.out hb11 hzW
  have Y1 : OB w11 q ⟨29, rd, ra, rb, imm⟩ := OB.below (W := W10.drew) Y.out hb11 (by show q < W10.heap.size; omega)
  go_wp2_with fail
  refine hK.out _ _ ⟨Y1, X1⟩ (fun hHeld => ?_)
  clear hK K
  (try simp only [Act.put, List.setIfInBounds_toArray, List.set_cons_zero, List.set_cons_succ])
  refine takeH (i := 9) (d := some 214) (v := ?_) rfl (by kernel_rfl) (by kernel_rfl) (by kernel_rfl) (fun _ _ _ h => h) rfl (Or.inl ⟨by rfl, ?_⟩) hHeld ?_
  rotate_left
  · intro wS hSw
    obtain ⟨c0, c1, c2, c3, c4⟩ := hSw.1.cells
    have l4 := hSw.1.load
    have p4 := (hSw.2.tail hl1).1
    go_simp; (try with_reducible rfl)
  (try simp only [Act.put, List.setIfInBounds_toArray, List.set_cons_zero, List.set_cons_succ])
  have g11 := XN1.reg hln hrd
  have f11 := XN1.frz rd
  obtain ⟨n2, hn2⟩ : ∃ n2, n2 = n1.put rd dv := ⟨_, rfl⟩
  have hl2 : n2.x.length = 32 := by rw [hn2, Mc.put_len]; exact hln
  obtain ⟨n3, hn3⟩ : ∃ n3, n3 = n2.put 0 0 := ⟨_, rfl⟩
  have hl3 : n3.x.length = 32 := by rw [hn3, Mc.put_len]; exact hl2
  obtain ⟨W12, h12, x12n, _, b12, o12⟩ := XN1.step (m' := n2) ((Mc.setReg hln hrd dv).trans (by rw [hn2]))
  have x12 := o12 _ _ (by omega) X1
  have x12z := o12 _ _ (by omega) XZ1
  have y12 : OB W12 q ⟨29, rd, ra, rb, imm⟩ := by rw [← h12]; exact Y1.other (by show q ≠ q + 1; omega) _
  refine wpAnyH_ready (rs := [10]) (by kernel_rfl) (by simp) ?_
  refine AllReadyH.cons rfl (fun K hK => ?_) AllReadyH.nil
  go_simp
  refine hK.out _ _ ⟨y12, x12⟩ (fun hHeld => ?_)
  clear hK K
  (try simp only [Act.put, List.setIfInBounds_toArray, List.set_cons_zero, List.set_cons_succ])
  refine wpAnyH_done (by kernel_rfl) ?_ _
  refine NoPanic.normal ?_
  have g12 := x12n.reg hl2 (i := 0) (by omega)
  have f12 := x12n.frz 0
  obtain ⟨W13, h13, x13n, _, b13, o13⟩ := x12n.step (m' := n3) ((Mc.setReg hl2 (i := 0) (by omega) 0).trans (by rw [hn3]; rfl))
  have x13 := o13 _ _ (by omega) x12
  have x13z := o13 _ _ (by omega) x12z
  have y13 : OB W13 q ⟨29, rd, ra, rb, imm⟩ := by rw [← h13]; exact y12.other (by show q ≠ q + 1; omega) _
  have B3 := (B1.trans (b12.mono (by omega))).trans (b13.mono (by omega))
  obtain ⟨c0, c1, c2, c3, c4⟩ := y13.cells
  have e33 : n3 = (({ m1 with pc := nx } : Mc).put rd dv).put 0 0 := by rw [hn3, hn2, HN1.out]
  have hex : m1.exec ⟨29, rd, ra, rb, imm⟩ = { (m1.put rd dv).put 0 0 with pc := m1.goto ⟨29, rd, ra, rb, imm⟩ } := by rw [exec_do (by simp), HVA.out, HVB.out, HDV.out]
  obtain ⟨R, hR⟩ : ∃ R, R = ({ n3 with pc := IntKind.u64.wrap (m1.pc + imu) } : Mc) := ⟨_, rfl⟩
  have hlR : R.x.length = 32 := by rw [hR]; exact hl3
  have g13 := (x13n.tail hl3).1
  have f13 := x13n.frz 32
  have p13 := (x13.tail hl1).1
  obtain ⟨W14, h14, x14n, _, b14, o14⟩ := x13n.step (m' := R) ((Mc.setPc hl3 _).trans (by rw [hR]))
  have x14z := o14 _ _ (by omega) x13z
  have B4 := B3.trans (b14.mono (by omega))
  have y14 : OB W14 q ⟨29, rd, ra, rb, imm⟩ := by rw [← h14]; exact y13.other (by show q ≠ q + 1; omega) _
  obtain ⟨z0, _⟩ := y14.cells
  have HEX := Lib.hid (show m1.exec ⟨29, rd, ra, rb, imm⟩ = R by rw [hex, hR, e33]; unfold Mc.goto; rw [if_pos rfl, HIM.out]; rfl)
  have HRR := Lib.hid (show R = ({ (({ m1 with pc := nx } : Mc).put rd dv).put 0 0 with pc := IntKind.u64.wrap (m1.pc + imu) } : Mc) by rw [hR, e33])
  clear hex e33 hn2 hn3 hR hb11 X1 XZ1 XN1 Y1 x12n b12 o12 x12 x12z y12 b13 o13 x13 y13 B1 x13n x13z B3 b14 o14 y14
  have lr := x14n.loadVar hlR
  obtain ⟨Wc, hc, lc, bc⟩ := mach_out (m := R) x14z rfl hlR
  have hfin := Lib.hid (B4.trans bc)
  clear bc
  go_wp2
  refine bodyPost_ret (v := .agg R.cells.toArray) ?_ rfl ?_
  · simp [results, Tryd.results23, go_sem, lc]
  · rw [HEX.out]
    exact Comes.same (m' := R) HG.out.mem HG.out.nil (by rw [HRR.out]; exact HE1.out.2.2) (by rw [HRR.out]; exact HE1.out.1) (by rw [HRR.out]; exact HE1.out.2.1) hfin.out rfl

set_option maxHeartbeats 4000000 in
theorem rstep_k30 (m : Mc) {w : World} (hG : McG w m) (h00 : m.reg 0 = 0) (rd ra rb : Nat) (hrd : rd < 32) (hra : ra < 32) (hrb : rb < 32) (imm : Int) (hs : m.state = 0) (hf : m.tick.fetch = some ⟨30, rd, ra, rb, imm⟩) :
    Calls Tryd.prog 23 #[.agg m.cells.toArray] w (Comes w (m.tick.exec ⟨30, rd, ra, rb, imm⟩)) := by
  have hm := hG.ok
  have hl := hm.len
  obtain ⟨W1, W2, h1, h2, s1, s2, x1, x2, b2⟩ := mach_start m w
  have c36 := (x1.tail hl).2.2.2.2.1
  rw [hs] at c36
  have c38 := (x1.tail hl).2.2.2.2.2.2
  have f38 := x1.frz 38
  obtain ⟨m1, hm1⟩ : ∃ m1, m1 = m.tick := ⟨_, rfl⟩
  rw [← hm1] at hf ⊢
  have ok1 : m1.Ok := by rw [hm1]; exact hm.tick
  have hl1 := ok1.len
  obtain ⟨W3, h3, x3, s3, b3, o3⟩ := x1.step (m' := m1) ((Mc.setSteps hl _).trans (by rw [hm1]; rfl))
  have x3z := o3 _ _ (by omega) x2
  have p3 := (x3.tail hl1).1
  have q3 := (x3.tail hl1).2.1
  have B3 := b2.trans b3
  have hM3 := Sl.In.below hG.mem B3
  have e1 : m1.a = m.a ∧ m1.cap = m.cap ∧ m1.mem = m.mem := by subst hm1; exact ⟨rfl, rfl, rfl⟩
  have e2 : m1.out = m.out := by subst hm1; rfl
  rw [← e1.1, ← e1.2.1, ← e1.2.2] at hM3
  have HM3 := Lib.hid hM3
  have HB3 := Lib.hid B3
  have HX := Lib.hid x3
  have HXZ := Lib.hid x3z
  have HOK := Lib.hid ok1
  have HE1 := Lib.hid e1
  have HE2 := Lib.hid e2
  have HG := Lib.hid hG
  have hz3 : W3.heap.size = w.heap.size + 1 + 1 := by omega
  have hpb := ok1.pc_
  unfold U64 at hpb
  obtain ⟨hp0, hp1⟩ := hpb
  have HR0 := Lib.hid (show m1.reg 0 = 0 by rw [hm1]; exact h00)
  obtain ⟨E, hE⟩ : ∃ E, loadE m1.mem m1.pc 4 1 = E := ⟨_, rfl⟩
  obtain ⟨V, hV⟩ : ∃ V, loadV m1.mem m1.pc 4 1 = V := ⟨_, rfl⟩
  obtain ⟨e4, eE, eT⟩ := fetch_some hf
  rw [hE] at eE
  subst eE
  rw [hV] at eT
  have HTK := Lib.hid eT
  have q4 : (m1.pc % 4 == 0) = true := beq_iff_eq.2 e4
  clear eT hf
  have HE := Lib.hid hE
  have HV := Lib.hid hV
  clear hM3 B3 x1 x2 b2 x3 x3z b3 o3 ok1 e1 e2 hG hm hm1 hs hE hV h00
  go_enter Tryd.func23, Tryd.ntmps23
  go_wp2_with fail
  refine (rload_any m1.pc 4 1 ⟨hp0, hp1⟩ (by omega) HM3.out (by omega) HOK.out.wf HOK.out.small).mono ?_
  rintro e w4 ⟨rfl, hb4⟩
  rw [HE.out, HV.out]
  have hz4 := hb4.size
  have B4 := Lib.hid (HB3.out.trans (hb4.mono (by omega)))
  have X4 := Lib.hid (HX.out.below hb4 (by omega))
  have XZ4 := Lib.hid (HXZ.out.below hb4 (by omega))
  have p4 := (X4.out.tail hl1).1
  clear hb4
  have l1 := X4.out.loadVar hl1
  go_wp2_with fail
  refine (rtake_any _ w4 (u32_wrap_bd V)).mono ?_
  rintro e w5 ⟨rfl, hb5⟩
  rw [takeV_eq, takeE_eq, HTK.out]
  have hz5 := hb5.size
  obtain ⟨W6, h6, s6, y6, b6, o6⟩ := op_new w5
  have B5 := B4.out.trans (hb5.mono (by omega))
  have x6 := o6 _ _ (X4.out.below hb5 (by omega))
  have x6z := o6 _ _ (XZ4.out.below hb5 (by omega))
  have hv : (Option.getD (some (⟨30, rd, ra, rb, imm⟩ : OpD)) OpD.zero).v = .agg #[.int .i64 30, .int .i64 rd, .int .i64 ra, .int .i64 rb, .int .i64 imm] := rfl
  rw [hv]
  obtain ⟨W7, h7, y7, s7, b7, o7⟩ := y6.lay ⟨30, rd, ra, rb, imm⟩
  have x7 := o7 _ _ (by omega) x6
  have x7z := o7 _ _ (by omega) x6z
  have B7 := (B5.trans (b6.mono (by omega))).trans (b7.mono (by omega))
  have g7 := y7.cells
  obtain ⟨a0, a1, a2, a3, a4⟩ := g7
  have r1 := x7.reg hl1 (i := ra) (by omega)
  have r2 := x7.reg hl1 (i := rb) (by omega)
  have l7 := x7.loadVar hl1
  obtain ⟨nx, hnx⟩ : ∃ v, IntKind.u64.wrap (m1.pc + 4) = v := ⟨_, rfl⟩
  obtain ⟨n1, hn1⟩ : ∃ n1, n1 = ({ m1 with pc := nx } : Mc) := ⟨_, rfl⟩
  have hln : n1.x.length = 32 := by rw [hn1]; exact hl1
  obtain ⟨q, hq⟩ : ∃ q, w5.heap.size = q := ⟨_, rfl⟩
  rw [hq] at y7 a0 a1 a2 a3 a4
  obtain ⟨W8, h8, s8, x8n, b8, o8⟩ := mach_more W7
  rw [s7, s6, hq] at s8 x8n b8
  have x8 := o8 _ _ x7
  have x8z := o8 _ _ x7z
  have y8 := y7.below b8 (by omega)
  obtain ⟨W9, h9, x9n, s9, b9, o9⟩ := x8n.lay rfl m1 hl1
  have x9 := o9 _ _ (by omega) x8
  have x9z := o9 _ _ (by omega) x8z
  have y9 := y8.below b9 (by omega)
  have p9 := (x9.tail hl1).1
  have p9n := (x9n.tail hl1).1
  have f9n := x9n.frz 32
  obtain ⟨W10, h10, x10n, s10, b10, o10⟩ := x9n.step (m' := n1) ((Mc.setPc hl1 nx).trans (by rw [hn1]))
  have x10 := o10 _ _ (by omega) x9
  have x10z := o10 _ _ (by omega) x9z
  have y10 := y9.below b10 (by omega)
  have j0 : (0 : Int) ≤ (ra : Int) := by omega
  have j1 : (ra : Int) < 32 := by omega
  have j2 : (0 : Int) ≤ (rb : Int) := by omega
  have j3 : (rb : Int) < 32 := by omega
  obtain ⟨va, hva⟩ : ∃ v, v = m1.x.getD ra 0 := ⟨_, rfl⟩
  obtain ⟨vb, hvb⟩ : ∃ v, v = m1.x.getD rb 0 := ⟨_, rfl⟩
  rw [← hva] at r1
  rw [← hvb] at r2
  have eva : m1.reg ra = va := by rw [hva]; rfl
  have evb : m1.reg rb = vb := by rw [hvb]; rfl
  have HVA := Lib.hid eva
  have HVB := Lib.hid evb
  have HUA := Lib.hid (show U64 va by rw [← eva]; exact HOK.out.reg _)
  have HUB := Lib.hid (show U64 vb by rw [← evb]; exact HOK.out.reg _)
  obtain ⟨imu, himu⟩ : ∃ v, IntKind.u64.wrap imm = v := ⟨_, rfl⟩
  obtain ⟨at_, hat⟩ : ∃ v, IntKind.u64.wrap (va + imu) = v := ⟨_, rfl⟩
  have HIM := Lib.hid himu
  have HAT := Lib.hid (show m1.at_ ⟨30, rd, ra, rb, imm⟩ = at_ by rw [← hat, ← himu, ← eva]; rfl)
  have HATB := Lib.hid (show U64 at_ by rw [← hat]; exact U64.wrap _)
  have HNX := Lib.hid (show m1.next = nx from hnx)
  have HN1 := Lib.hid hn1
  have B10 := ((B7.trans (b8.mono (by omega))).trans (b9.mono (by omega))).trans (b10.mono (by omega))
  have HM10 := Lib.hid (show Mem W10 w.heap.size m1.a m1.cap m1.mem by rw [HE1.out.1, HE1.out.2.1, HE1.out.2.2]; exact Sl.In.below HG.out.mem B10)
  have X := Lib.hid x10
  have XZ := Lib.hid x10z
  have XN := Lib.hid x10n
  have Y := Lib.hid y10
  have BX := Lib.hid B10
  have hqw : w.heap.size + 1 + 1 ≤ q := by omega
  have hzW : q + 1 < W10.heap.size := by omega
  have h6' := h6
  rw [hq] at h7
  clear hb5 B5 b6 x6 x6z o6 y6 y7 b7 o7 l1 hv x7 x7z B7 x8n b8 o8 x8 x8z y8 x9n b9 o9 x9 x9z y9 x10n b10 o10 x10 x10z y10 eva evb hva hvb hn1 B10 h6'
  obtain ⟨c0, c1, c2, c3, c4⟩ := Y.out.cells
  obtain ⟨dv, hdv⟩ : ∃ v, doesF 30 imm va vb m1.pc = v := ⟨_, rfl⟩
  have HDV := Lib.hid hdv
  have i0 : (0 : Int) ≤ (rd : Int) := by omega
  have i1 : (rd : Int) < 32 := by omega
  clear hdv c0 c1 c2 c3 c4
  obtain ⟨c0, c1, c2, c3, c4⟩ := Y.out.cells
  go_wp2_with fail
  clear c0 c1 c2 c3 c4
  refine wp_region_noPanic ?_
  refine wp_region_held_drew (S := fun w' => OB w' q ⟨30, rd, ra, rb, imm⟩ ∧ MB w' w.heap.size m1) (by kernel_rfl) ⟨Y.out, X.out⟩ (fun hHeld => ?_)
  refine takeH (i := 0) (d := some 205) (v := ?_) rfl (by kernel_rfl) (by kernel_rfl) (by kernel_rfl) (fun _ _ _ h => h) rfl (Or.inl ⟨by rfl, ?_⟩) hHeld ?_
  rotate_left
  · intro wS hSw
    obtain ⟨c0, c1, c2, c3, c4⟩ := hSw.1.cells
    have l4 := hSw.1.load
    have p4 := (hSw.2.tail hl1).1
    go_simp; (try with_reducible rfl)
  (try simp only [Act.put, List.setIfInBounds_toArray, List.set_cons_zero, List.set_cons_succ])
  refine takeH (i := 1) (d := some 206) (v := ?_) rfl (by kernel_rfl) (by kernel_rfl) (by kernel_rfl) (fun _ _ _ h => h) rfl (Or.inl ⟨by rfl, ?_⟩) hHeld ?_
  rotate_left
  · intro wS hSw
    obtain ⟨c0, c1, c2, c3, c4⟩ := hSw.1.cells
    have l4 := hSw.1.load
    have p4 := (hSw.2.tail hl1).1
    go_simp; (try with_reducible rfl)
  (try simp only [Act.put, List.setIfInBounds_toArray, List.set_cons_zero, List.set_cons_succ])
  refine takeH (i := 2) (d := some 207) (v := ?_) rfl (by kernel_rfl) (by kernel_rfl) (by kernel_rfl) (fun _ _ _ h => h) rfl (Or.inl ⟨by rfl, ?_⟩) hHeld ?_
  rotate_left
  · intro wS hSw
    obtain ⟨c0, c1, c2, c3, c4⟩ := hSw.1.cells
    have l4 := hSw.1.load
    have p4 := (hSw.2.tail hl1).1
    go_simp; (try with_reducible rfl)
  (try simp only [Act.put, List.setIfInBounds_toArray, List.set_cons_zero, List.set_cons_succ])
  refine takeH (i := 3) (d := some 208) (v := ?_) rfl (by kernel_rfl) (by kernel_rfl) (by kernel_rfl) (fun _ _ _ h => h) rfl (Or.inl ⟨by rfl, ?_⟩) hHeld ?_
  rotate_left
  · intro wS hSw
    obtain ⟨c0, c1, c2, c3, c4⟩ := hSw.1.cells
    have l4 := hSw.1.load
    have p4 := (hSw.2.tail hl1).1
    go_simp; (try with_reducible rfl)
  (try simp only [Act.put, List.setIfInBounds_toArray, List.set_cons_zero, List.set_cons_succ])
  refine takeH (i := 4) (d := some 209) (v := ?_) rfl (by kernel_rfl) (by kernel_rfl) (by kernel_rfl) (fun _ _ _ h => h) rfl (Or.inl ⟨by rfl, ?_⟩) hHeld ?_
  rotate_left
  · intro wS hSw
    obtain ⟨c0, c1, c2, c3, c4⟩ := hSw.1.cells
    have l4 := hSw.1.load
    have p4 := (hSw.2.tail hl1).1
    go_simp; (try with_reducible rfl)
  (try simp only [Act.put, List.setIfInBounds_toArray, List.set_cons_zero, List.set_cons_succ])
  refine takeH (i := 5) (d := some 210) (v := ?_) rfl (by kernel_rfl) (by kernel_rfl) (by kernel_rfl) (fun _ _ _ h => h) rfl (Or.inl ⟨by rfl, ?_⟩) hHeld ?_
  rotate_left
  · intro wS hSw
    obtain ⟨c0, c1, c2, c3, c4⟩ := hSw.1.cells
    have l4 := hSw.1.load
    have p4 := (hSw.2.tail hl1).1
    go_simp; (try with_reducible rfl)
  (try simp only [Act.put, List.setIfInBounds_toArray, List.set_cons_zero, List.set_cons_succ])
  refine takeH (i := 6) (d := some 211) (v := ?_) rfl (by kernel_rfl) (by kernel_rfl) (by kernel_rfl) (fun _ _ _ h => h) rfl (Or.inl ⟨by rfl, ?_⟩) hHeld ?_
  rotate_left
  · intro wS hSw
    obtain ⟨c0, c1, c2, c3, c4⟩ := hSw.1.cells
    have l4 := hSw.1.load
    have p4 := (hSw.2.tail hl1).1
    go_simp; (try with_reducible rfl)
  (try simp only [Act.put, List.setIfInBounds_toArray, List.set_cons_zero, List.set_cons_succ])
  refine takeH (i := 8) (d := some 213) (v := ?_) rfl (by kernel_rfl) (by kernel_rfl) (by kernel_rfl) (fun _ _ _ h => h) rfl (Or.inl ⟨by rfl, ?_⟩) hHeld ?_
  rotate_left
  · intro wS hSw
    obtain ⟨c0, c1, c2, c3, c4⟩ := hSw.1.cells
    have l4 := hSw.1.load
    have p4 := (hSw.2.tail hl1).1
    go_simp; (try with_reducible rfl)
  (try simp only [Act.put, List.setIfInBounds_toArray, List.set_cons_zero, List.set_cons_succ])
  refine wpAnyH_ready (rs := [7]) (by kernel_rfl) (by simp) ?_
  refine AllReadyH.cons rfl (fun K hK => ?_) AllReadyH.nil
  go_simp
  go_at_call 17
  refine (rdoes_any 30 rd ra rb imm va vb m1.pc W10.drew HUA.out HUB.out).mono ?_
  rintro e w11 ⟨rfl, hb11⟩
  rw [HDV.out]
  have hz11 := hb11.size
  have B1 := BX.out.drew.trans (hb11.mono (by show w.heap.size ≤ W10.heap.size; omega))
  have X1 : MB w11 w.heap.size m1 := MB.below (W := W10.drew) X.out hb11 (by show w.heap.size < W10.heap.size; omega)
  have XZ1 : MB w11 (w.heap.size + 1) Mc.zero := MB.below (W := W10.drew) XZ.out hb11 (by show w.heap.size + 1 < W10.heap.size; omega)
  have XN1 : MB w11 (q + 1) n1 := MB.below (W := W10.drew) XN.out hb11 hzW
  have Y1 : OB w11 q ⟨30, rd, ra, rb, imm⟩ := OB.below (W := W10.drew) Y.out hb11 (by show q < W10.heap.size; omega)
  go_wp2_with fail
  refine hK.out _ _ ⟨Y1, X1⟩ (fun hHeld => ?_)
  clear hK K
  (try simp only [Act.put, List.setIfInBounds_toArray, List.set_cons_zero, List.set_cons_succ])
  refine takeH (i := 9) (d := some 214) (v := ?_) rfl (by kernel_rfl) (by kernel_rfl) (by kernel_rfl) (fun _ _ _ h => h) rfl (Or.inl ⟨by rfl, ?_⟩) hHeld ?_
  rotate_left
  · intro wS hSw
    obtain ⟨c0, c1, c2, c3, c4⟩ := hSw.1.cells
    have l4 := hSw.1.load
    have p4 := (hSw.2.tail hl1).1
    go_simp; (try with_reducible rfl)
  (try simp only [Act.put, List.setIfInBounds_toArray, List.set_cons_zero, List.set_cons_succ])
  have g11 := XN1.reg hln hrd
  have f11 := XN1.frz rd
  obtain ⟨n2, hn2⟩ : ∃ n2, n2 = n1.put rd dv := ⟨_, rfl⟩
  have hl2 : n2.x.length = 32 := by rw [hn2, Mc.put_len]; exact hln
  obtain ⟨n3, hn3⟩ : ∃ n3, n3 = n2.put 0 0 := ⟨_, rfl⟩
  have hl3 : n3.x.length = 32 := by rw [hn3, Mc.put_len]; exact hl2
  obtain ⟨W12, h12, x12n, _, b12, o12⟩ := XN1.step (m' := n2) ((Mc.setReg hln hrd dv).trans (by rw [hn2]))
  have x12 := o12 _ _ (by omega) X1
  have x12z := o12 _ _ (by omega) XZ1
  have y12 : OB W12 q ⟨30, rd, ra, rb, imm⟩ := by rw [← h12]; exact Y1.other (by show q ≠ q + 1; omega) _
  refine wpAnyH_ready (rs := [10]) (by kernel_rfl) (by simp) ?_
  refine AllReadyH.cons rfl (fun K hK => ?_) AllReadyH.nil
  go_simp
  refine hK.out _ _ ⟨y12, x12⟩ (fun hHeld => ?_)
  clear hK K
  (try simp only [Act.put, List.setIfInBounds_toArray, List.set_cons_zero, List.set_cons_succ])
  refine wpAnyH_done (by kernel_rfl) ?_ _
  refine NoPanic.normal ?_
  have g12 := x12n.reg hl2 (i := 0) (by omega)
  have f12 := x12n.frz 0
  obtain ⟨W13, h13, x13n, _, b13, o13⟩ := x12n.step (m' := n3) ((Mc.setReg hl2 (i := 0) (by omega) 0).trans (by rw [hn3]; rfl))
  have x13 := o13 _ _ (by omega) x12
  have x13z := o13 _ _ (by omega) x12z
  have y13 : OB W13 q ⟨30, rd, ra, rb, imm⟩ := by rw [← h13]; exact y12.other (by show q ≠ q + 1; omega) _
  have B3 := (B1.trans (b12.mono (by omega))).trans (b13.mono (by omega))
  obtain ⟨c0, c1, c2, c3, c4⟩ := y13.cells
  have e33 : n3 = (({ m1 with pc := nx } : Mc).put rd dv).put 0 0 := by rw [hn3, hn2, HN1.out]
  have hex : m1.exec ⟨30, rd, ra, rb, imm⟩ = { (m1.put rd dv).put 0 0 with pc := m1.goto ⟨30, rd, ra, rb, imm⟩ } := by rw [exec_do (by simp), HVA.out, HVB.out, HDV.out]
  obtain ⟨hlf, hh⟩ : ∃ v, at_ / 2 = v := ⟨_, rfl⟩
  have hd : at_.tdiv 2 = hlf := by rw [← hh]; exact Int.tdiv_eq_ediv_of_nonneg HATB.out.1
  have hw1 : IntKind.u64.wrap hlf = hlf := by rw [← hh, IntKind.wrap_u64]; have := HATB.out.1; have := HATB.out.2; omega
  obtain ⟨at2, hat2⟩ : ∃ v, IntKind.u64.wrap (hlf * 2) = v := ⟨_, rfl⟩
  have HA2 := Lib.hid (show at_ / 2 * 2 = at2 by rw [← hat2, ← hh, IntKind.wrap_u64]; have := HATB.out.1; have := HATB.out.2; omega)
  clear hh
  obtain ⟨R, hR⟩ : ∃ R, R = ({ n3 with pc := at2 } : Mc) := ⟨_, rfl⟩
  have hlR : R.x.length = 32 := by rw [hR]; exact hl3
  have g13 := (x13n.tail hl3).1
  have f13 := x13n.frz 32
  have p13 := (x13.tail hl1).1
  obtain ⟨W14, h14, x14n, _, b14, o14⟩ := x13n.step (m' := R) ((Mc.setPc hl3 _).trans (by rw [hR]))
  have x14z := o14 _ _ (by omega) x13z
  have B4 := B3.trans (b14.mono (by omega))
  have y14 : OB W14 q ⟨30, rd, ra, rb, imm⟩ := by rw [← h14]; exact y13.other (by show q ≠ q + 1; omega) _
  obtain ⟨z0, _⟩ := y14.cells
  have HEX := Lib.hid (show m1.exec ⟨30, rd, ra, rb, imm⟩ = R by rw [hex, hR, e33]; unfold Mc.goto; rw [if_neg (by simp), if_pos rfl, HAT.out, HA2.out]; rfl)
  have HRR := Lib.hid (show R = ({ (({ m1 with pc := nx } : Mc).put rd dv).put 0 0 with pc := at2 } : Mc) by rw [hR, e33])
  clear hex e33 hn2 hn3 hR hb11 X1 XZ1 XN1 Y1 x12n b12 o12 x12 x12z y12 b13 o13 x13 y13 B1 x13n x13z B3 b14 o14 y14
  have lr := x14n.loadVar hlR
  obtain ⟨Wc, hc, lc, bc⟩ := mach_out (m := R) x14z rfl hlR
  have hfin := Lib.hid (B4.trans bc)
  clear bc
  go_wp2
  refine bodyPost_ret (v := .agg R.cells.toArray) ?_ rfl ?_
  · simp [results, Tryd.results23, go_sem, lc]
  · rw [HEX.out]
    exact Comes.same (m' := R) HG.out.mem HG.out.nil (by rw [HRR.out]; exact HE1.out.2.2) (by rw [HRR.out]; exact HE1.out.1) (by rw [HRR.out]; exact HE1.out.2.1) hfin.out rfl

end Go.Proofs.YtajhehmkdlebbaaDoor
namespace Go.Proofs.YtajhehmkdlebbaaDoor
open Go.ChangeShapes Go.WideShapes Go.ChangeAt Go.RowKit Go.Deep
set_option maxRecDepth 100000
attribute [-go_sem] loadVar storeVar
set_option maxHeartbeats 4000000 in
theorem rstep_k31 (m : Mc) {w : World} (hG : McG w m) (ho : m.out.size ≤ 900000000000000) (h00 : m.reg 0 = 0) (rd ra rb : Nat) (_hrd : rd < 32) (hra : ra < 32) (hrb : rb < 32) (imm : Int) (hs : m.state = 0) (hf : m.tick.fetch = some ⟨31, rd, ra, rb, imm⟩) :
    Calls Tryd.prog 23 #[.agg m.cells.toArray] w (Comes w (m.tick.exec ⟨31, rd, ra, rb, imm⟩)) := by
  have hm := hG.ok
  have hl := hm.len
  obtain ⟨W1, W2, h1, h2, s1, s2, x1, x2, b2⟩ := mach_start m w
  have c36 := (x1.tail hl).2.2.2.2.1
  rw [hs] at c36
  have c38 := (x1.tail hl).2.2.2.2.2.2
  have f38 := x1.frz 38
  obtain ⟨m1, hm1⟩ : ∃ m1, m1 = m.tick := ⟨_, rfl⟩
  rw [← hm1] at hf ⊢
  have ok1 : m1.Ok := by rw [hm1]; exact hm.tick
  have hl1 := ok1.len
  obtain ⟨W3, h3, x3, s3, b3, o3⟩ := x1.step (m' := m1) ((Mc.setSteps hl _).trans (by rw [hm1]; rfl))
  have x3z := o3 _ _ (by omega) x2
  have p3 := (x3.tail hl1).1
  have q3 := (x3.tail hl1).2.1
  have B3 := b2.trans b3
  have hM3 := Sl.In.below hG.mem B3
  have e1 : m1.a = m.a ∧ m1.cap = m.cap ∧ m1.mem = m.mem := by subst hm1; exact ⟨rfl, rfl, rfl⟩
  have e2 : m1.out = m.out := by subst hm1; rfl
  rw [← e1.1, ← e1.2.1, ← e1.2.2] at hM3
  have HM3 := Lib.hid hM3
  have HB3 := Lib.hid B3
  have HX := Lib.hid x3
  have HXZ := Lib.hid x3z
  have HOK := Lib.hid ok1
  have HE1 := Lib.hid e1
  have HE2 := Lib.hid e2
  have HG := Lib.hid hG
  have hz3 : W3.heap.size = w.heap.size + 1 + 1 := by omega
  have hpb := ok1.pc_
  unfold U64 at hpb
  obtain ⟨hp0, hp1⟩ := hpb
  have HR0 := Lib.hid (show m1.reg 0 = 0 by rw [hm1]; exact h00)
  obtain ⟨E, hE⟩ : ∃ E, loadE m1.mem m1.pc 4 1 = E := ⟨_, rfl⟩
  obtain ⟨V, hV⟩ : ∃ V, loadV m1.mem m1.pc 4 1 = V := ⟨_, rfl⟩
  obtain ⟨e4, eE, eT⟩ := fetch_some hf
  rw [hE] at eE
  subst eE
  rw [hV] at eT
  have HTK := Lib.hid eT
  have q4 : (m1.pc % 4 == 0) = true := beq_iff_eq.2 e4
  clear eT hf
  have HE := Lib.hid hE
  have HV := Lib.hid hV
  clear hM3 B3 x1 x2 b2 x3 x3z b3 o3 ok1 e1 e2 hG hm hm1 hs hE hV h00
  go_enter Tryd.func23, Tryd.ntmps23
  go_wp2_with fail
  refine (rload_any m1.pc 4 1 ⟨hp0, hp1⟩ (by omega) HM3.out (by omega) HOK.out.wf HOK.out.small).mono ?_
  rintro e w4 ⟨rfl, hb4⟩
  rw [HE.out, HV.out]
  have hz4 := hb4.size
  have B4 := Lib.hid (HB3.out.trans (hb4.mono (by omega)))
  have X4 := Lib.hid (HX.out.below hb4 (by omega))
  have XZ4 := Lib.hid (HXZ.out.below hb4 (by omega))
  have p4 := (X4.out.tail hl1).1
  clear hb4
  have l1 := X4.out.loadVar hl1
  go_wp2_with fail
  refine (rtake_any _ w4 (u32_wrap_bd V)).mono ?_
  rintro e w5 ⟨rfl, hb5⟩
  rw [takeV_eq, takeE_eq, HTK.out]
  have hz5 := hb5.size
  obtain ⟨W6, h6, s6, y6, b6, o6⟩ := op_new w5
  have B5 := B4.out.trans (hb5.mono (by omega))
  have x6 := o6 _ _ (X4.out.below hb5 (by omega))
  have x6z := o6 _ _ (XZ4.out.below hb5 (by omega))
  have hv : (Option.getD (some (⟨31, rd, ra, rb, imm⟩ : OpD)) OpD.zero).v = .agg #[.int .i64 31, .int .i64 rd, .int .i64 ra, .int .i64 rb, .int .i64 imm] := rfl
  rw [hv]
  obtain ⟨W7, h7, y7, s7, b7, o7⟩ := y6.lay ⟨31, rd, ra, rb, imm⟩
  have x7 := o7 _ _ (by omega) x6
  have x7z := o7 _ _ (by omega) x6z
  have B7 := (B5.trans (b6.mono (by omega))).trans (b7.mono (by omega))
  have g7 := y7.cells
  obtain ⟨a0, a1, a2, a3, a4⟩ := g7
  have r1 := x7.reg hl1 (i := ra) (by omega)
  have r2 := x7.reg hl1 (i := rb) (by omega)
  have l7 := x7.loadVar hl1
  obtain ⟨nx, hnx⟩ : ∃ v, IntKind.u64.wrap (m1.pc + 4) = v := ⟨_, rfl⟩
  obtain ⟨n1, hn1⟩ : ∃ n1, n1 = ({ m1 with pc := nx } : Mc) := ⟨_, rfl⟩
  have hln : n1.x.length = 32 := by rw [hn1]; exact hl1
  obtain ⟨q, hq⟩ : ∃ q, w5.heap.size = q := ⟨_, rfl⟩
  rw [hq] at y7 a0 a1 a2 a3 a4
  obtain ⟨W8, h8, s8, x8n, b8, o8⟩ := mach_more W7
  rw [s7, s6, hq] at s8 x8n b8
  have x8 := o8 _ _ x7
  have x8z := o8 _ _ x7z
  have y8 := y7.below b8 (by omega)
  obtain ⟨W9, h9, x9n, s9, b9, o9⟩ := x8n.lay rfl m1 hl1
  have x9 := o9 _ _ (by omega) x8
  have x9z := o9 _ _ (by omega) x8z
  have y9 := y8.below b9 (by omega)
  have p9 := (x9.tail hl1).1
  have p9n := (x9n.tail hl1).1
  have f9n := x9n.frz 32
  obtain ⟨W10, h10, x10n, s10, b10, o10⟩ := x9n.step (m' := n1) ((Mc.setPc hl1 nx).trans (by rw [hn1]))
  have x10 := o10 _ _ (by omega) x9
  have x10z := o10 _ _ (by omega) x9z
  have y10 := y9.below b10 (by omega)
  have j0 : (0 : Int) ≤ (ra : Int) := by omega
  have j1 : (ra : Int) < 32 := by omega
  have j2 : (0 : Int) ≤ (rb : Int) := by omega
  have j3 : (rb : Int) < 32 := by omega
  obtain ⟨va, hva⟩ : ∃ v, v = m1.x.getD ra 0 := ⟨_, rfl⟩
  obtain ⟨vb, hvb⟩ : ∃ v, v = m1.x.getD rb 0 := ⟨_, rfl⟩
  rw [← hva] at r1
  rw [← hvb] at r2
  have eva : m1.reg ra = va := by rw [hva]; rfl
  have evb : m1.reg rb = vb := by rw [hvb]; rfl
  have HVA := Lib.hid eva
  have HVB := Lib.hid evb
  have HUA := Lib.hid (show U64 va by rw [← eva]; exact HOK.out.reg _)
  have HUB := Lib.hid (show U64 vb by rw [← evb]; exact HOK.out.reg _)
  obtain ⟨imu, himu⟩ : ∃ v, IntKind.u64.wrap imm = v := ⟨_, rfl⟩
  obtain ⟨at_, hat⟩ : ∃ v, IntKind.u64.wrap (va + imu) = v := ⟨_, rfl⟩
  have HIM := Lib.hid himu
  have HAT := Lib.hid (show m1.at_ ⟨31, rd, ra, rb, imm⟩ = at_ by rw [← hat, ← himu, ← eva]; rfl)
  have HATB := Lib.hid (show U64 at_ by rw [← hat]; exact U64.wrap _)
  have HNX := Lib.hid (show m1.next = nx from hnx)
  have HN1 := Lib.hid hn1
  have B10 := ((B7.trans (b8.mono (by omega))).trans (b9.mono (by omega))).trans (b10.mono (by omega))
  have HM10 := Lib.hid (show Mem W10 w.heap.size m1.a m1.cap m1.mem by rw [HE1.out.1, HE1.out.2.1, HE1.out.2.2]; exact Sl.In.below HG.out.mem B10)
  have X := Lib.hid x10
  have XZ := Lib.hid x10z
  have XN := Lib.hid x10n
  have Y := Lib.hid y10
  have BX := Lib.hid B10
  have hqw : w.heap.size + 1 + 1 ≤ q := by omega
  have hzW : q + 1 < W10.heap.size := by omega
  have h6' := h6
  rw [hq] at h7
  clear hb5 B5 b6 x6 x6z o6 y6 y7 b7 o7 l1 hv x7 x7z B7 x8n b8 o8 x8 x8z y8 x9n b9 o9 x9 x9z y9 x10n b10 o10 x10 x10z y10 eva evb hva hvb hn1 B10 h6'
  obtain ⟨c0, c1, c2, c3, c4⟩ := Y.out.cells
  have d17 := X.out.reg hl1 (i := 17) (by omega)
  have d10 := X.out.reg hl1 (i := 10) (by omega)
  have hcal : m1.exec ⟨31, rd, ra, rb, imm⟩ = m1.calls := exec_ecall rfl
  unfold Mc.calls at hcal
  rw [show m1.reg 17 = m1.x.getD 17 0 from rfl, show m1.reg 10 = m1.x.getD 10 0 from rfl, HNX.out] at hcal
  obtain ⟨v17, h17⟩ : ∃ v, v = m1.x.getD 17 0 := ⟨_, rfl⟩
  obtain ⟨v10, hv10⟩ : ∃ v, v = m1.x.getD 10 0 := ⟨_, rfl⟩
  rw [← h17] at d17 hcal
  rw [← hv10] at d10 hcal
  have u10 : 0 ≤ v10 ∧ v10 ≤ 18446744073709551615 := by rw [hv10]; exact HOK.out.reg 10
  obtain ⟨u100, u101⟩ := u10
  have hR10 := Lib.hid hv10
  have hmod : v10.tmod 256 = v10 % 256 := Int.tmod_eq_emod_of_nonneg u100
  clear h17 hv10
  by_cases k63 : v17 = 63
  · subst k63
    rw [if_pos rfl] at hcal
    have g10 := XN.out.reg hln (i := 10) (by omega)
    have f10 := XN.out.frz 10
    obtain ⟨n2, hn2⟩ : ∃ n2, n2 = n1.put 10 256 := ⟨_, rfl⟩
    have hl2 : n2.x.length = 32 := by rw [hn2, Mc.put_len]; exact hln
    obtain ⟨W11, h11, x11n, _, b11, o11⟩ := XN.out.step (m' := n2) ((Mc.setReg hln (i := 10) (by omega) 256).trans (by rw [hn2]; rfl))
    have x11 := o11 _ _ (by omega) X.out
    have x11z := o11 _ _ (by omega) XZ.out
    have i11 := (x11.tail hl1).2.2.1
    have B11 := BX.out.trans (b11.mono (by omega))
    by_cases k0 : m1.inp.size = 0
    · rw [if_pos k0] at hcal
      have z0 : decide (0 < (m1.inp.size : Int)) = false := decide_eq_false (by omega)
      have HEX := Lib.hid (show m1.exec ⟨31, rd, ra, rb, imm⟩ = n2 by rw [hcal, hn2, HN1.out]; rfl)
      have HRR := Lib.hid (show n2 = (({ m1 with pc := nx } : Mc).put 10 256) by rw [hn2, HN1.out])
      clear hcal hn2 b11 o11 x11
      have lr := x11n.loadVar hl2
      obtain ⟨Wc, hc, lc, bc⟩ := mach_out (m := n2) x11z rfl hl2
      have hfin := Lib.hid (B11.trans bc)
      clear bc
      go_wp2
      refine bodyPost_ret (v := .agg n2.cells.toArray) ?_ rfl ?_
      · simp [results, Tryd.results23, go_sem, lc]
      · rw [HEX.out]
        exact Comes.same (m' := n2) HG.out.mem HG.out.nil (by rw [HRR.out]; exact HE1.out.2.2) (by rw [HRR.out]; exact HE1.out.1) (by rw [HRR.out]; exact HE1.out.2.1) hfin.out rfl
    · rw [if_neg k0] at hcal
      have z0 : decide (0 < (m1.inp.size : Int)) = true := decide_eq_true (by omega)
      obtain ⟨s6, hs6⟩ : ∃ s6, m1.inp.extract 1 m1.inp.size = s6 := ⟨_, rfl⟩
      rw [hs6] at hcal
      have h0 : 0 < m1.inp.size := by omega
      have hb0 := byteI_at h0
      obtain ⟨v, hv⟩ : ∃ v, v = byteI m1.inp 0 := ⟨_, rfl⟩
      rw [← hv] at hb0 hcal
      have hvb : U64 v := hv ▸ u64_byte m1.inp 0
      have hwv : IntKind.u64.wrap v = v := by rw [IntKind.wrap_u64]; have := hvb.1; have := hvb.2; omega
      obtain ⟨n3, hn3⟩ : ∃ n3, n3 = n1.put 10 v := ⟨_, rfl⟩
      have hl3 : n3.x.length = 32 := by rw [hn3, Mc.put_len]; exact hln
      have e23 : n2.put 10 v = n3 := by rw [hn2, hn3]; unfold Mc.put; simp
      obtain ⟨R, hR⟩ : ∃ R, R = ({ n3 with inp := s6 } : Mc) := ⟨_, rfl⟩
      have hlR : R.x.length = 32 := by rw [hR]; exact hl3
      have g11 := x11n.reg hl2 (i := 10) (by omega)
      have f11 := x11n.frz 10
      obtain ⟨W12, h12, x12n, _, b12, o12⟩ := x11n.step (m' := n3) (e23 ▸ Mc.setReg hl2 (i := 10) (by omega) v)
      have x12 := o12 _ _ (by omega) x11
      have x12z := o12 _ _ (by omega) x11z
      have i12 := (x12.tail hl1).2.2.1
      have g12 := (x12n.tail hl3).2.2.1
      have f12 := x12n.frz 34
      obtain ⟨W13, h13, x13n, _, b13, o13⟩ := x12n.step (m' := R) ((Mc.setInp hl3 s6).trans (by rw [hR]))
      have x13z := o13 _ _ (by omega) x12z
      have B13 := (B11.trans (b12.mono (by omega))).trans (b13.mono (by omega))
      have HEX := Lib.hid (show m1.exec ⟨31, rd, ra, rb, imm⟩ = R by rw [hcal, hR, hn3, HN1.out]; rfl)
      have HRR := Lib.hid (show R = ({ ({ m1 with pc := nx } : Mc).put 10 v with inp := s6 } : Mc) by rw [hR, hn3, HN1.out])
      have hil := HOK.out.inp_
      clear hcal hn2 hn3 hR e23 b11 o11 x11 b12 o12 x12 b13 o13 x12z x11z B11 x11n x12n hv hvb k0
      have lr := x13n.loadVar hlR
      obtain ⟨Wc, hc, lc, bc⟩ := mach_out (m := R) x13z rfl hlR
      have hfin := Lib.hid (B13.trans bc)
      clear bc
      go_wp2
      refine bodyPost_ret (v := .agg R.cells.toArray) ?_ rfl ?_
      · simp [results, Tryd.results23, go_sem, lc]
      · rw [HEX.out]
        exact Comes.same (m' := R) HG.out.mem HG.out.nil (by rw [HRR.out]; exact HE1.out.2.2) (by rw [HRR.out]; exact HE1.out.1) (by rw [HRR.out]; exact HE1.out.2.1) hfin.out rfl
  · rw [if_neg k63] at hcal
    have t63 : (v17 == 63) = false := neq_kind k63
    by_cases k64 : v17 = 64
    · subst k64
      rw [if_pos rfl] at hcal
      obtain ⟨c6, hc6⟩ : ∃ c6 : ByteArray, c6 = ⟨#[UInt8.ofNat (v10 % 256).toNat]⟩ := ⟨_, rfl⟩
      have z6 : c6.size = 1 := by rw [hc6]; rfl
      have z7 : (m1.out.size : Int) + 1 ≤ 9223372036854775807 := by rw [HE2.out]; omega
      obtain ⟨s6, hs6⟩ : ∃ s6, m1.out ++ c6 = s6 := ⟨_, rfl⟩
      rw [← hc6, hs6] at hcal
      obtain ⟨WA, hA⟩ : ∃ WA, W10.alloc (.cells #[.int .u8 (v10 % 256)] 5) = WA := ⟨_, rfl⟩
      have hz10 := s10
      have hconv : (convert 86 9 (.slice (some ⟨W10.heap.size, 0, none⟩) 1 1)).run Tryd.prog WA = .ok (.string c6) WA := by
        have := run_convert_bytes_back (P := Tryd.prog) WA 86 9 5 ⟨W10.heap.size, 0, none⟩ 1 [UInt8.ofNat (v10 % 256).toNat] Tryd.underlying86 Tryd.underlying5 Tryd.underlying9 (fun j hj => by
          have hj0 : j = 0 := by simpa using hj
          subst hj0
          rw [← hA, Addr.add_zero', cell_of_row _ _ _ _ _ _ (heap_alloc_new W10 _)]
          show some (Value.int .u8 (v10 % 256)) = some (Value.int .u8 ((UInt8.ofNat (v10 % 256).toNat).toNat : Int))
          rw [byte_val])
        rw [hc6]
        exact this
      rw [s10, s9, s8] at hconv
      have xAn : MB WA (q + 1) n1 := hA ▸ XN.out.alloc _
      have xAz : MB WA (w.heap.size + 1) Mc.zero := hA ▸ XZ.out.alloc _
      have bA : Below w.heap.size w WA := hA ▸ BX.out.alloc (by omega) _
      have o10' := (X.out.tail hl1).2.2.2.1
      have gA := (xAn.tail hln).2.2.2.1
      have fA := xAn.frz 35
      obtain ⟨R, hR⟩ : ∃ R, R = ({ n1 with out := s6 } : Mc) := ⟨_, rfl⟩
      have hlR : R.x.length = 32 := by rw [hR]; exact hln
      obtain ⟨W11, h11, x11n, _, b11, o11⟩ := xAn.step (m' := R) ((Mc.setOut hln s6).trans (by rw [hR]))
      have x11z := o11 _ _ (by omega) xAz
      have B11 := bA.trans (b11.mono (by omega))
      have HEX := Lib.hid (show m1.exec ⟨31, rd, ra, rb, imm⟩ = R by rw [hcal, hR, HN1.out])
      have HRR := Lib.hid (show R = ({ m1 with out := s6, pc := nx } : Mc) by rw [hR, HN1.out])
      clear hcal hR b11 o11 bA xAz hc6
      have lr := x11n.loadVar hlR
      obtain ⟨Wc, hc, lc, bc⟩ := mach_out (m := R) x11z rfl hlR
      have hfin := Lib.hid (B11.trans bc)
      clear bc
      go_wp2
      refine bodyPost_ret (v := .agg R.cells.toArray) ?_ rfl ?_
      · simp [results, Tryd.results23, go_sem, lc]
      · rw [HEX.out]
        exact Comes.same (m' := R) HG.out.mem HG.out.nil (by rw [HRR.out]; exact HE1.out.2.2) (by rw [HRR.out]; exact HE1.out.1) (by rw [HRR.out]; exact HE1.out.2.1) hfin.out rfl
    · rw [if_neg k64] at hcal
      have t64 : (v17 == 64) = false := neq_kind k64
      by_cases k93 : v17 = 93
      · subst k93
        rw [if_pos rfl] at hcal
        have g36 := (X.out.tail hl1).2.2.2.2.1
        have f36 := X.out.frz 36
        obtain ⟨n2, hn2⟩ : ∃ n2, n2 = ({ m1 with state := 1 } : Mc) := ⟨_, rfl⟩
        have hl2 : n2.x.length = 32 := by rw [hn2]; exact hl1
        obtain ⟨R, hR⟩ : ∃ R, R = ({ n2 with code := v10 } : Mc) := ⟨_, rfl⟩
        have hlR : R.x.length = 32 := by rw [hR]; exact hl2
        obtain ⟨W11, h11, x11, _, b11, o11⟩ := X.out.step (m' := n2) ((Mc.setState hl1 1).trans (by rw [hn2]))
        have x11z := o11 _ _ (by omega) XZ.out
        have g10 : W11.cell? ⟨w.heap.size, 10, none⟩ = some (.int .u64 v10) := by rw [x11.reg hl2 (by omega), hn2, hR10.out]
        have g37 := (x11.tail hl2).2.2.2.2.2.1
        have f37 := x11.frz 37
        obtain ⟨W12, h12, x12, _, b12, o12⟩ := x11.step (m' := R) ((Mc.setCode hl2 v10).trans (by rw [hR]))
        have x12z := o12 _ _ (by omega) x11z
        have B12 := (BX.out.trans b11).trans b12
        have HEX := Lib.hid (show m1.exec ⟨31, rd, ra, rb, imm⟩ = R by rw [hcal, hR, hn2])
        have HRR := Lib.hid (show R = ({ m1 with state := 1, code := v10 } : Mc) by rw [hR, hn2])
        clear hcal hR hn2 b11 o11 x11 x11z b12 o12 hR10
        have lr := x12.loadVar hlR
        obtain ⟨Wc, hc, lc, bc⟩ := mach_out (m := R) x12z rfl hlR
        have hfin := Lib.hid (B12.trans bc)
        clear bc
        go_wp2
        refine bodyPost_ret (v := .agg R.cells.toArray) ?_ rfl ?_
        · simp [results, Tryd.results23, go_sem, lc]
        · rw [HEX.out]
          exact Comes.same (m' := R) HG.out.mem HG.out.nil (by rw [HRR.out]; exact HE1.out.2.2) (by rw [HRR.out]; exact HE1.out.1) (by rw [HRR.out]; exact HE1.out.2.1) hfin.out rfl
      · rw [if_neg k93] at hcal
        have t93 : (v17 == 93) = false := neq_kind k93
        have HCAL := Lib.hid hcal
        clear hcal hR10
        have l1 := X.out.loadVar hl1
        go_wp2_with fail
        refine (trap_any m1 W10 hl1).mono ?_
        rintro e w20 ⟨rfl, hb20⟩
        have BX := Lib.hid (BX.out.trans (hb20.mono (by omega)))
        have XZ1 := XZ.out.below hb20 (by omega)
        obtain ⟨Wc, hc, lc, bc⟩ := mach_out (m := m1.trap) XZ1 rfl hl1
        have HEX := Lib.hid (show m1.exec ⟨31, rd, ra, rb, imm⟩ = m1.trap from HCAL.out)
        have hfin := Lib.hid (BX.out.trans bc)
        clear bc hb20 XZ1
        go_wp2
        refine bodyPost_ret (v := .agg m1.trap.cells.toArray) ?_ rfl ?_
        · simp [results, Tryd.results23, go_sem, lc]
        · rw [HEX.out]
          exact Comes.same (m' := m1.trap) HG.out.mem HG.out.nil HE1.out.2.2 HE1.out.1 HE1.out.2.1 hfin.out rfl

end Go.Proofs.YtajhehmkdlebbaaDoor
namespace Go.Proofs.YtajhehmkdlebbaaDoor
open Go.ChangeShapes Go.WideShapes Go.ChangeAt Go.RowKit Go.Deep
theorem rstep_any (m : Mc) {w : World} (hG : McG w m) (ho : m.out.size ≤ 900000000000000) (h00 : m.reg 0 = 0) :
    Calls Tryd.prog 23 #[.agg m.cells.toArray] w (Comes w m.step) := by
  by_cases hs : m.state = 0
  · unfold Mc.step
    rw [if_neg (by simp [hs])]
    cases hf : m.tick.fetch with
    | none =>
      have hf' : Mc.fetch { m with steps := IntKind.u64.wrap (m.steps + 1) } = none := hf
      rw [hf']
      unfold Mc.fetch at hf
      by_cases hp : m.pc % 4 = 0
      · rw [if_pos (show m.tick.pc % 4 = 0 from hp)] at hf
        by_cases he : loadE m.mem m.pc 4 1 = 0
        · rw [if_pos (show loadE m.tick.mem m.tick.pc 4 1 = 0 from he)] at hf
          exact rstep_strange m hG h00 hs hp he hf
        · exact rstep_bare m hG h00 hs hp he
      · exact rstep_odd m hG h00 hs hp
    | some o =>
      have hf' : Mc.fetch { m with steps := IntKind.u64.wrap (m.steps + 1) } = some o := hf
      rw [hf']
      have hb := takeO_bd (fetch_some hf).2.2
      obtain ⟨k, rd, ra, rb, imm⟩ := o
      obtain ⟨⟨k1, k2⟩, ⟨d1, d2⟩, ⟨a1, a2⟩, ⟨b1, b2⟩⟩ := hb
      simp only at k1 k2 d1 d2 a1 a2 b1 b2
      obtain ⟨rd, rfl⟩ := Int.eq_ofNat_of_zero_le d1
      obtain ⟨ra, rfl⟩ := Int.eq_ofNat_of_zero_le a1
      obtain ⟨rb, rfl⟩ := Int.eq_ofNat_of_zero_le b1
      show Calls _ _ _ w (Comes w (m.tick.exec _))
      have hc : (k ≠ 31 ∧ ¬ (19 ≤ k ∧ k ≤ 26) ∧ k ≠ 29 ∧ k ≠ 30) ∨ k = 19 ∨ k = 20 ∨ k = 21 ∨ k = 22 ∨ k = 23 ∨ k = 24 ∨ k = 25 ∨ k = 26 ∨ k = 29 ∨ k = 30 ∨ k = 31 := by omega
      rcases hc with hk | rfl | rfl | rfl | rfl | rfl | rfl | rfl | rfl | rfl | rfl | rfl
      · exact rstep_kd m hG h00 k hk rd ra rb (by omega) (by omega) (by omega) imm hs hf
      · exact rstep_k19 m hG h00 rd ra rb (by omega) (by omega) (by omega) imm hs hf
      · exact rstep_k20 m hG h00 rd ra rb (by omega) (by omega) (by omega) imm hs hf
      · exact rstep_k21 m hG h00 rd ra rb (by omega) (by omega) (by omega) imm hs hf
      · exact rstep_k22 m hG h00 rd ra rb (by omega) (by omega) (by omega) imm hs hf
      · exact rstep_k23 m hG h00 rd ra rb (by omega) (by omega) (by omega) imm hs hf
      · exact rstep_k24 m hG h00 rd ra rb (by omega) (by omega) (by omega) imm hs hf
      · exact rstep_k25 m hG h00 rd ra rb (by omega) (by omega) (by omega) imm hs hf
      · exact rstep_k26 m hG h00 rd ra rb (by omega) (by omega) (by omega) imm hs hf
      · exact rstep_k29 m hG h00 rd ra rb (by omega) (by omega) (by omega) imm hs hf
      · exact rstep_k30 m hG h00 rd ra rb (by omega) (by omega) (by omega) imm hs hf
      · exact rstep_k31 m hG ho h00 rd ra rb (by omega) (by omega) (by omega) imm hs hf
  · rw [Mc.step_done hs]
    exact rstep_stopped m hG hs
end Go.Proofs.YtajhehmkdlebbaaDoor
