/- The reference's Step: a machine that does not run, where nothing is fetched, what only reckons. The reference's Step: loads. -/
import Derived.Test.YtajhehmkdlebbaaDoorQRvRStep0
namespace Go.Proofs.YtajhehmkdlebbaaDoor
open Go.ChangeShapes Go.WideShapes Go.ChangeAt Go.RowKit Go.Deep
set_option maxRecDepth 100000
attribute [-go_sem] loadVar storeVar
set_option maxHeartbeats 4000000 in
theorem rstep_stopped (m : Mc) {w : World} (hG : McG w m) (hs : m.state ≠ 0) :
    Calls Tryd.prog 23 #[.agg m.cells.toArray] w (Comes w m) := by
  have hm := hG.ok
  have hl := hm.len
  obtain ⟨W1, W2, h1, h2, s1, s2, x1, x2, b2⟩ := mach_start m w
  have c36 := (x1.tail hl).2.2.2.2.1
  have q36 : (m.state == 0) = false := neq_kind hs
  have l2 := x1.loadVar hl
  obtain ⟨Wc, hc, lc, bc⟩ := mach_out (m := m) x2 rfl hl
  have hfin := Lib.hid (b2.trans bc)
  have HG := Lib.hid hG
  clear x1 x2 b2 bc hG hm hs
  go_enter Tryd.func23, Tryd.ntmps23
  go_wp2
  refine bodyPost_ret (v := .agg m.cells.toArray) ?_ rfl (Comes.same HG.out.mem HG.out.nil rfl rfl rfl hfin.out rfl)
  simp [results, Tryd.results23, go_sem, lc]
set_option maxHeartbeats 4000000 in
theorem rstep_odd (m : Mc) {w : World} (hG : McG w m) (h00 : m.reg 0 = 0) (hs : m.state = 0) (hp : m.pc % 4 ≠ 0) :
    Calls Tryd.prog 23 #[.agg m.cells.toArray] w (Comes w m.tick.trap) := by
  have hm := hG.ok
  have hl := hm.len
  obtain ⟨W1, W2, h1, h2, s1, s2, x1, x2, b2⟩ := mach_start m w
  have c36 := (x1.tail hl).2.2.2.2.1
  rw [hs] at c36
  have c38 := (x1.tail hl).2.2.2.2.2.2
  have f38 := x1.frz 38
  obtain ⟨m1, hm1⟩ : ∃ m1, m1 = m.tick := ⟨_, rfl⟩
  rw [← hm1] 
  have ok1 : m1.Ok := by rw [hm1]; exact hm.tick
  have hl1 := ok1.len
  obtain ⟨W3, h3, x3, s3, b3, o3⟩ := x1.step (m' := m1) ((Mc.setSteps hl _).trans (by rw [hm1]; rfl))
  have x3z := o3 _ _ (by omega) x2
  have p3 := (x3.tail hl1).1
  have q3 := (x3.tail hl1).2.1
  have B3 := b2.trans b3
  have hM3 := Sl.In.below hG.mem B3
  have e1 : m1.a = m.a ∧ m1.cap = m.cap ∧ m1.mem = m.mem := by subst hm1; exact ⟨rfl, rfl, rfl⟩
  have e2 : m1.out = m.out := by subst hm1; rfl
  rw [← e1.1, ← e1.2.1, ← e1.2.2] at hM3
  have HM3 := Lib.hid hM3
  have HB3 := Lib.hid B3
  have HX := Lib.hid x3
  have HXZ := Lib.hid x3z
  have HOK := Lib.hid ok1
  have HE1 := Lib.hid e1
  have HE2 := Lib.hid e2
  have HG := Lib.hid hG
  have hz3 : W3.heap.size = w.heap.size + 1 + 1 := by omega
  have hpb := ok1.pc_
  unfold U64 at hpb
  obtain ⟨hp0, hp1⟩ := hpb
  have HR0 := Lib.hid (show m1.reg 0 = 0 by rw [hm1]; exact h00)
  obtain ⟨E, hE⟩ : ∃ E, loadE m1.mem m1.pc 4 1 = E := ⟨_, rfl⟩
  obtain ⟨V, hV⟩ : ∃ V, loadV m1.mem m1.pc 4 1 = V := ⟨_, rfl⟩
  have q4' : ¬ m1.pc % 4 = 0 := by rw [hm1]; exact hp
  have q4 : (m1.pc % 4 == 0) = false := neq_kind q4'
  clear hp
  have HE := Lib.hid hE
  have HV := Lib.hid hV
  clear hM3 B3 x1 x2 b2 x3 x3z b3 o3 ok1 e1 e2 hG hm hm1 hs hE hV h00
  go_enter Tryd.func23, Tryd.ntmps23
  go_wp2_with fail
  refine (rload_any m1.pc 4 1 ⟨hp0, hp1⟩ (by omega) HM3.out (by omega) HOK.out.wf HOK.out.small).mono ?_
  rintro e w4 ⟨rfl, hb4⟩
  rw [HE.out, HV.out]
  have hz4 := hb4.size
  have B4 := Lib.hid (HB3.out.trans (hb4.mono (by omega)))
  have X4 := Lib.hid (HX.out.below hb4 (by omega))
  have XZ4 := Lib.hid (HXZ.out.below hb4 (by omega))
  have p4 := (X4.out.tail hl1).1
  clear hb4
  have l1 := X4.out.loadVar hl1
  go_wp2_with fail
  refine (trap_any m1 w4 hl1).mono ?_
  rintro e w20 ⟨rfl, hb20⟩
  have BX := Lib.hid (B4.out.trans (hb20.mono (by omega)))
  have XZ1 := XZ4.out.below hb20 (by omega)
  obtain ⟨Wc, hc, lc, bc⟩ := mach_out (m := m1.trap) XZ1 rfl hl1
  have hfin := Lib.hid (BX.out.trans bc)
  clear bc hb20 XZ1
  go_wp2
  refine bodyPost_ret (v := .agg m1.trap.cells.toArray) ?_ rfl ?_
  · simp [results, Tryd.results23, go_sem, lc]
  · exact Comes.same (m' := m1.trap) HG.out.mem HG.out.nil HE1.out.2.2 HE1.out.1 HE1.out.2.1 hfin.out rfl

set_option maxHeartbeats 4000000 in
theorem rstep_bare (m : Mc) {w : World} (hG : McG w m) (h00 : m.reg 0 = 0) (hs : m.state = 0) (hp : m.pc % 4 = 0) (he : loadE m.mem m.pc 4 1 ≠ 0) :
    Calls Tryd.prog 23 #[.agg m.cells.toArray] w (Comes w m.tick.trap) := by
  have hm := hG.ok
  have hl := hm.len
  obtain ⟨W1, W2, h1, h2, s1, s2, x1, x2, b2⟩ := mach_start m w
  have c36 := (x1.tail hl).2.2.2.2.1
  rw [hs] at c36
  have c38 := (x1.tail hl).2.2.2.2.2.2
  have f38 := x1.frz 38
  obtain ⟨m1, hm1⟩ : ∃ m1, m1 = m.tick := ⟨_, rfl⟩
  rw [← hm1] 
  have ok1 : m1.Ok := by rw [hm1]; exact hm.tick
  have hl1 := ok1.len
  obtain ⟨W3, h3, x3, s3, b3, o3⟩ := x1.step (m' := m1) ((Mc.setSteps hl _).trans (by rw [hm1]; rfl))
  have x3z := o3 _ _ (by omega) x2
  have p3 := (x3.tail hl1).1
  have q3 := (x3.tail hl1).2.1
  have B3 := b2.trans b3
  have hM3 := Sl.In.below hG.mem B3
  have e1 : m1.a = m.a ∧ m1.cap = m.cap ∧ m1.mem = m.mem := by subst hm1; exact ⟨rfl, rfl, rfl⟩
  have e2 : m1.out = m.out := by subst hm1; rfl
  rw [← e1.1, ← e1.2.1, ← e1.2.2] at hM3
  have HM3 := Lib.hid hM3
  have HB3 := Lib.hid B3
  have HX := Lib.hid x3
  have HXZ := Lib.hid x3z
  have HOK := Lib.hid ok1
  have HE1 := Lib.hid e1
  have HE2 := Lib.hid e2
  have HG := Lib.hid hG
  have hz3 : W3.heap.size = w.heap.size + 1 + 1 := by omega
  have hpb := ok1.pc_
  unfold U64 at hpb
  obtain ⟨hp0, hp1⟩ := hpb
  have HR0 := Lib.hid (show m1.reg 0 = 0 by rw [hm1]; exact h00)
  obtain ⟨E, hE⟩ : ∃ E, loadE m1.mem m1.pc 4 1 = E := ⟨_, rfl⟩
  obtain ⟨V, hV⟩ : ∃ V, loadV m1.mem m1.pc 4 1 = V := ⟨_, rfl⟩
  have q4' : m1.pc % 4 = 0 := by rw [hm1]; exact hp
  have q4 : (m1.pc % 4 == 0) = true := beq_iff_eq.2 q4'
  have qe : (E == 0) = false := neq_kind (by rw [← hE, hm1]; exact he)
  clear hp he
  have HE := Lib.hid hE
  have HV := Lib.hid hV
  clear hM3 B3 x1 x2 b2 x3 x3z b3 o3 ok1 e1 e2 hG hm hm1 hs hE hV h00
  go_enter Tryd.func23, Tryd.ntmps23
  go_wp2_with fail
  refine (rload_any m1.pc 4 1 ⟨hp0, hp1⟩ (by omega) HM3.out (by omega) HOK.out.wf HOK.out.small).mono ?_
  rintro e w4 ⟨rfl, hb4⟩
  rw [HE.out, HV.out]
  have hz4 := hb4.size
  have B4 := Lib.hid (HB3.out.trans (hb4.mono (by omega)))
  have X4 := Lib.hid (HX.out.below hb4 (by omega))
  have XZ4 := Lib.hid (HXZ.out.below hb4 (by omega))
  have p4 := (X4.out.tail hl1).1
  clear hb4
  have l1 := X4.out.loadVar hl1
  go_wp2_with fail
  refine (trap_any m1 w4 hl1).mono ?_
  rintro e w20 ⟨rfl, hb20⟩
  have BX := Lib.hid (B4.out.trans (hb20.mono (by omega)))
  have XZ1 := XZ4.out.below hb20 (by omega)
  obtain ⟨Wc, hc, lc, bc⟩ := mach_out (m := m1.trap) XZ1 rfl hl1
  have hfin := Lib.hid (BX.out.trans bc)
  clear bc hb20 XZ1
  go_wp2
  refine bodyPost_ret (v := .agg m1.trap.cells.toArray) ?_ rfl ?_
  · simp [results, Tryd.results23, go_sem, lc]
  · exact Comes.same (m' := m1.trap) HG.out.mem HG.out.nil HE1.out.2.2 HE1.out.1 HE1.out.2.1 hfin.out rfl

set_option maxHeartbeats 4000000 in
theorem rstep_strange (m : Mc) {w : World} (hG : McG w m) (h00 : m.reg 0 = 0) (hs : m.state = 0) (hp : m.pc % 4 = 0) (he : loadE m.mem m.pc 4 1 = 0) (ht : takeO (IntKind.u32.wrap (loadV m.mem m.pc 4 1)) = none) :
    Calls Tryd.prog 23 #[.agg m.cells.toArray] w (Comes w m.tick.trap) := by
  have hm := hG.ok
  have hl := hm.len
  obtain ⟨W1, W2, h1, h2, s1, s2, x1, x2, b2⟩ := mach_start m w
  have c36 := (x1.tail hl).2.2.2.2.1
  rw [hs] at c36
  have c38 := (x1.tail hl).2.2.2.2.2.2
  have f38 := x1.frz 38
  obtain ⟨m1, hm1⟩ : ∃ m1, m1 = m.tick := ⟨_, rfl⟩
  rw [← hm1] 
  have ok1 : m1.Ok := by rw [hm1]; exact hm.tick
  have hl1 := ok1.len
  obtain ⟨W3, h3, x3, s3, b3, o3⟩ := x1.step (m' := m1) ((Mc.setSteps hl _).trans (by rw [hm1]; rfl))
  have x3z := o3 _ _ (by omega) x2
  have p3 := (x3.tail hl1).1
  have q3 := (x3.tail hl1).2.1
  have B3 := b2.trans b3
  have hM3 := Sl.In.below hG.mem B3
  have e1 : m1.a = m.a ∧ m1.cap = m.cap ∧ m1.mem = m.mem := by subst hm1; exact ⟨rfl, rfl, rfl⟩
  have e2 : m1.out = m.out := by subst hm1; rfl
  rw [← e1.1, ← e1.2.1, ← e1.2.2] at hM3
  have HM3 := Lib.hid hM3
  have HB3 := Lib.hid B3
  have HX := Lib.hid x3
  have HXZ := Lib.hid x3z
  have HOK := Lib.hid ok1
  have HE1 := Lib.hid e1
  have HE2 := Lib.hid e2
  have HG := Lib.hid hG
  have hz3 : W3.heap.size = w.heap.size + 1 + 1 := by omega
  have hpb := ok1.pc_
  unfold U64 at hpb
  obtain ⟨hp0, hp1⟩ := hpb
  have HR0 := Lib.hid (show m1.reg 0 = 0 by rw [hm1]; exact h00)
  obtain ⟨E, hE⟩ : ∃ E, loadE m1.mem m1.pc 4 1 = E := ⟨_, rfl⟩
  obtain ⟨V, hV⟩ : ∃ V, loadV m1.mem m1.pc 4 1 = V := ⟨_, rfl⟩
  have q4' : m1.pc % 4 = 0 := by rw [hm1]; exact hp
  have q4 : (m1.pc % 4 == 0) = true := beq_iff_eq.2 q4'
  have eE : E = 0 := by rw [← hE, hm1]; exact he
  subst eE
  have HTK := Lib.hid (show takeO (IntKind.u32.wrap V) = none by rw [← hV, hm1]; exact ht)
  clear hp he ht
  have HE := Lib.hid hE
  have HV := Lib.hid hV
  clear hM3 B3 x1 x2 b2 x3 x3z b3 o3 ok1 e1 e2 hG hm hm1 hs hE hV h00
  go_enter Tryd.func23, Tryd.ntmps23
  go_wp2_with fail
  refine (rload_any m1.pc 4 1 ⟨hp0, hp1⟩ (by omega) HM3.out (by omega) HOK.out.wf HOK.out.small).mono ?_
  rintro e w4 ⟨rfl, hb4⟩
  rw [HE.out, HV.out]
  have hz4 := hb4.size
  have B4 := Lib.hid (HB3.out.trans (hb4.mono (by omega)))
  have X4 := Lib.hid (HX.out.below hb4 (by omega))
  have XZ4 := Lib.hid (HXZ.out.below hb4 (by omega))
  have p4 := (X4.out.tail hl1).1
  clear hb4
  have l1 := X4.out.loadVar hl1
  go_wp2_with fail
  refine (rtake_any _ w4 (u32_wrap_bd V)).mono ?_
  rintro e w5 ⟨rfl, hb5⟩
  rw [takeV_eq, takeE_eq, HTK.out]
  have hz5 := hb5.size
  obtain ⟨W6, h6, s6, y6, b6, o6⟩ := op_new w5
  have B5 := B4.out.trans (hb5.mono (by omega))
  have x6 := o6 _ _ (X4.out.below hb5 (by omega))
  have x6z := o6 _ _ (XZ4.out.below hb5 (by omega))
  obtain ⟨W7, h7, y7, s7, b7, o7⟩ := y6.lay OpD.zero
  unfold OpD.zero at h7
  have X7 := Lib.hid (o7 _ _ (by omega) x6)
  have XZ7 := Lib.hid (o7 _ _ (by omega) x6z)
  have B7 := Lib.hid ((B5.trans (b6.mono (by omega))).trans (b7.mono (by omega)))
  have hv : (Option.getD (none : Option OpD) OpD.zero).v = .agg #[.int .i64 0, .int .i64 0, .int .i64 0, .int .i64 0, .int .i64 0] := rfl
  rw [hv]
  clear hb5 B5 b6 x6 x6z o6 y6 y7 b7 o7 l1 hv
  have l1 := X7.out.loadVar hl1
  go_wp2_with fail
  refine (trap_any m1 W7 hl1).mono ?_
  rintro e w20 ⟨rfl, hb20⟩
  have BX := Lib.hid (B7.out.trans (hb20.mono (by omega)))
  have XZ1 := XZ7.out.below hb20 (by omega)
  obtain ⟨Wc, hc, lc, bc⟩ := mach_out (m := m1.trap) XZ1 rfl hl1
  have hfin := Lib.hid (BX.out.trans bc)
  clear bc hb20 XZ1
  go_wp2
  refine bodyPost_ret (v := .agg m1.trap.cells.toArray) ?_ rfl ?_
  · simp [results, Tryd.results23, go_sem, lc]
  · exact Comes.same (m' := m1.trap) HG.out.mem HG.out.nil HE1.out.2.2 HE1.out.1 HE1.out.2.1 hfin.out rfl

set_option maxHeartbeats 4000000 in
theorem rstep_kd (m : Mc) {w : World} (hG : McG w m) (h00 : m.reg 0 = 0) (k : Int) (hk : k ≠ 31 ∧ ¬ (19 ≤ k ∧ k ≤ 26) ∧ k ≠ 29 ∧ k ≠ 30) (rd ra rb : Nat) (hrd : rd < 32) (hra : ra < 32) (hrb : rb < 32) (imm : Int) (hs : m.state = 0) (hf : m.tick.fetch = some ⟨k, rd, ra, rb, imm⟩) :
    Calls Tryd.prog 23 #[.agg m.cells.toArray] w (Comes w (m.tick.exec ⟨k, rd, ra, rb, imm⟩)) := by
  have n31 : (k == 31) = false := neq_kind (by omega)
  have n19 : (k == 19) = false := neq_kind (by omega)
  have n20 : (k == 20) = false := neq_kind (by omega)
  have n21 : (k == 21) = false := neq_kind (by omega)
  have n22 : (k == 22) = false := neq_kind (by omega)
  have n29 : (k == 29) = false := neq_kind (by omega)
  have n30 : (k == 30) = false := neq_kind (by omega)
  have HK := Lib.hid hk
  have hge : (decide (23 ≤ k) = true ∧ decide (k ≤ 26) = false) ∨ decide (23 ≤ k) = false := by
    by_cases h : 23 ≤ k
    · exact .inl ⟨decide_eq_true h, decide_eq_false (by omega)⟩
    · exact .inr (decide_eq_false h)
  clear hk
  have hm := hG.ok
  have hl := hm.len
  obtain ⟨W1, W2, h1, h2, s1, s2, x1, x2, b2⟩ := mach_start m w
  have c36 := (x1.tail hl).2.2.2.2.1
  rw [hs] at c36
  have c38 := (x1.tail hl).2.2.2.2.2.2
  have f38 := x1.frz 38
  obtain ⟨m1, hm1⟩ : ∃ m1, m1 = m.tick := ⟨_, rfl⟩
  rw [← hm1] at hf ⊢
  have ok1 : m1.Ok := by rw [hm1]; exact hm.tick
  have hl1 := ok1.len
  obtain ⟨W3, h3, x3, s3, b3, o3⟩ := x1.step (m' := m1) ((Mc.setSteps hl _).trans (by rw [hm1]; rfl))
  have x3z := o3 _ _ (by omega) x2
  have p3 := (x3.tail hl1).1
  have q3 := (x3.tail hl1).2.1
  have B3 := b2.trans b3
  have hM3 := Sl.In.below hG.mem B3
  have e1 : m1.a = m.a ∧ m1.cap = m.cap ∧ m1.mem = m.mem := by subst hm1; exact ⟨rfl, rfl, rfl⟩
  have e2 : m1.out = m.out := by subst hm1; rfl
  rw [← e1.1, ← e1.2.1, ← e1.2.2] at hM3
  have HM3 := Lib.hid hM3
  have HB3 := Lib.hid B3
  have HX := Lib.hid x3
  have HXZ := Lib.hid x3z
  have HOK := Lib.hid ok1
  have HE1 := Lib.hid e1
  have HE2 := Lib.hid e2
  have HG := Lib.hid hG
  have hz3 : W3.heap.size = w.heap.size + 1 + 1 := by omega
  have hpb := ok1.pc_
  unfold U64 at hpb
  obtain ⟨hp0, hp1⟩ := hpb
  have HR0 := Lib.hid (show m1.reg 0 = 0 by rw [hm1]; exact h00)
  obtain ⟨E, hE⟩ : ∃ E, loadE m1.mem m1.pc 4 1 = E := ⟨_, rfl⟩
  obtain ⟨V, hV⟩ : ∃ V, loadV m1.mem m1.pc 4 1 = V := ⟨_, rfl⟩
  obtain ⟨e4, eE, eT⟩ := fetch_some hf
  rw [hE] at eE
  subst eE
  rw [hV] at eT
  have HTK := Lib.hid eT
  have q4 : (m1.pc % 4 == 0) = true := beq_iff_eq.2 e4
  clear eT hf
  have HE := Lib.hid hE
  have HV := Lib.hid hV
  clear hM3 B3 x1 x2 b2 x3 x3z b3 o3 ok1 e1 e2 hG hm hm1 hs hE hV h00
  go_enter Tryd.func23, Tryd.ntmps23
  go_wp2_with fail
  refine (rload_any m1.pc 4 1 ⟨hp0, hp1⟩ (by omega) HM3.out (by omega) HOK.out.wf HOK.out.small).mono ?_
  rintro e w4 ⟨rfl, hb4⟩
  rw [HE.out, HV.out]
  have hz4 := hb4.size
  have B4 := Lib.hid (HB3.out.trans (hb4.mono (by omega)))
  have X4 := Lib.hid (HX.out.below hb4 (by omega))
  have XZ4 := Lib.hid (HXZ.out.below hb4 (by omega))
  have p4 := (X4.out.tail hl1).1
  clear hb4
  have l1 := X4.out.loadVar hl1
  go_wp2_with fail
  refine (rtake_any _ w4 (u32_wrap_bd V)).mono ?_
  rintro e w5 ⟨rfl, hb5⟩
  rw [takeV_eq, takeE_eq, HTK.out]
  have hz5 := hb5.size
  obtain ⟨W6, h6, s6, y6, b6, o6⟩ := op_new w5
  have B5 := B4.out.trans (hb5.mono (by omega))
  have x6 := o6 _ _ (X4.out.below hb5 (by omega))
  have x6z := o6 _ _ (XZ4.out.below hb5 (by omega))
  have hv : (Option.getD (some (⟨k, rd, ra, rb, imm⟩ : OpD)) OpD.zero).v = .agg #[.int .i64 k, .int .i64 rd, .int .i64 ra, .int .i64 rb, .int .i64 imm] := rfl
  rw [hv]
  obtain ⟨W7, h7, y7, s7, b7, o7⟩ := y6.lay ⟨k, rd, ra, rb, imm⟩
  have x7 := o7 _ _ (by omega) x6
  have x7z := o7 _ _ (by omega) x6z
  have B7 := (B5.trans (b6.mono (by omega))).trans (b7.mono (by omega))
  have g7 := y7.cells
  obtain ⟨a0, a1, a2, a3, a4⟩ := g7
  have r1 := x7.reg hl1 (i := ra) (by omega)
  have r2 := x7.reg hl1 (i := rb) (by omega)
  have l7 := x7.loadVar hl1
  obtain ⟨nx, hnx⟩ : ∃ v, IntKind.u64.wrap (m1.pc + 4) = v := ⟨_, rfl⟩
  obtain ⟨n1, hn1⟩ : ∃ n1, n1 = ({ m1 with pc := nx } : Mc) := ⟨_, rfl⟩
  have hln : n1.x.length = 32 := by rw [hn1]; exact hl1
  obtain ⟨q, hq⟩ : ∃ q, w5.heap.size = q := ⟨_, rfl⟩
  rw [hq] at y7 a0 a1 a2 a3 a4
  obtain ⟨W8, h8, s8, x8n, b8, o8⟩ := mach_more W7
  rw [s7, s6, hq] at s8 x8n b8
  have x8 := o8 _ _ x7
  have x8z := o8 _ _ x7z
  have y8 := y7.below b8 (by omega)
  obtain ⟨W9, h9, x9n, s9, b9, o9⟩ := x8n.lay rfl m1 hl1
  have x9 := o9 _ _ (by omega) x8
  have x9z := o9 _ _ (by omega) x8z
  have y9 := y8.below b9 (by omega)
  have p9 := (x9.tail hl1).1
  have p9n := (x9n.tail hl1).1
  have f9n := x9n.frz 32
  obtain ⟨W10, h10, x10n, s10, b10, o10⟩ := x9n.step (m' := n1) ((Mc.setPc hl1 nx).trans (by rw [hn1]))
  have x10 := o10 _ _ (by omega) x9
  have x10z := o10 _ _ (by omega) x9z
  have y10 := y9.below b10 (by omega)
  have j0 : (0 : Int) ≤ (ra : Int) := by omega
  have j1 : (ra : Int) < 32 := by omega
  have j2 : (0 : Int) ≤ (rb : Int) := by omega
  have j3 : (rb : Int) < 32 := by omega
  obtain ⟨va, hva⟩ : ∃ v, v = m1.x.getD ra 0 := ⟨_, rfl⟩
  obtain ⟨vb, hvb⟩ : ∃ v, v = m1.x.getD rb 0 := ⟨_, rfl⟩
  rw [← hva] at r1
  rw [← hvb] at r2
  have eva : m1.reg ra = va := by rw [hva]; rfl
  have evb : m1.reg rb = vb := by rw [hvb]; rfl
  have HVA := Lib.hid eva
  have HVB := Lib.hid evb
  have HUA := Lib.hid (show U64 va by rw [← eva]; exact HOK.out.reg _)
  have HUB := Lib.hid (show U64 vb by rw [← evb]; exact HOK.out.reg _)
  obtain ⟨imu, himu⟩ : ∃ v, IntKind.u64.wrap imm = v := ⟨_, rfl⟩
  obtain ⟨at_, hat⟩ : ∃ v, IntKind.u64.wrap (va + imu) = v := ⟨_, rfl⟩
  have HIM := Lib.hid himu
  have HAT := Lib.hid (show m1.at_ ⟨k, rd, ra, rb, imm⟩ = at_ by rw [← hat, ← himu, ← eva]; rfl)
  have HATB := Lib.hid (show U64 at_ by rw [← hat]; exact U64.wrap _)
  have HNX := Lib.hid (show m1.next = nx from hnx)
  have HN1 := Lib.hid hn1
  have B10 := ((B7.trans (b8.mono (by omega))).trans (b9.mono (by omega))).trans (b10.mono (by omega))
  have HM10 := Lib.hid (show Mem W10 w.heap.size m1.a m1.cap m1.mem by rw [HE1.out.1, HE1.out.2.1, HE1.out.2.2]; exact Sl.In.below HG.out.mem B10)
  have X := Lib.hid x10
  have XZ := Lib.hid x10z
  have XN := Lib.hid x10n
  have Y := Lib.hid y10
  have BX := Lib.hid B10
  have hqw : w.heap.size + 1 + 1 ≤ q := by omega
  have hzW : q + 1 < W10.heap.size := by omega
  have h6' := h6
  rw [hq] at h7
  clear hb5 B5 b6 x6 x6z o6 y6 y7 b7 o7 l1 hv x7 x7z B7 x8n b8 o8 x8 x8z y8 x9n b9 o9 x9 x9z y9 x10n b10 o10 x10 x10z y10 eva evb hva hvb hn1 B10 h6'
  obtain ⟨c0, c1, c2, c3, c4⟩ := Y.out.cells
  rcases hge with ⟨hge1, hge2⟩ | hge1
  · skip
    obtain ⟨dv, hdv⟩ : ∃ v, doesF k imm va vb m1.pc = v := ⟨_, rfl⟩
    have HDV := Lib.hid hdv
    have i0 : (0 : Int) ≤ (rd : Int) := by omega
    have i1 : (rd : Int) < 32 := by omega
    clear hdv c0 c1 c2 c3 c4
    obtain ⟨c0, c1, c2, c3, c4⟩ := Y.out.cells
    go_wp2_with fail
    clear c0 c1 c2 c3 c4
    refine wp_region_noPanic ?_
    refine wp_region_held_drew (S := fun w' => OB w' q ⟨k, rd, ra, rb, imm⟩ ∧ MB w' w.heap.size m1) (by kernel_rfl) ⟨Y.out, X.out⟩ (fun hHeld => ?_)
    refine takeH (i := 0) (d := some 205) (v := ?_) rfl (by kernel_rfl) (by kernel_rfl) (by kernel_rfl) (fun _ _ _ h => h) rfl (Or.inl ⟨by rfl, ?_⟩) hHeld ?_
    rotate_left
    · intro wS hSw
      obtain ⟨c0, c1, c2, c3, c4⟩ := hSw.1.cells
      have l4 := hSw.1.load
      have p4 := (hSw.2.tail hl1).1
      go_simp; (try with_reducible rfl)
    (try simp only [Act.put, List.setIfInBounds_toArray, List.set_cons_zero, List.set_cons_succ])
    refine takeH (i := 1) (d := some 206) (v := ?_) rfl (by kernel_rfl) (by kernel_rfl) (by kernel_rfl) (fun _ _ _ h => h) rfl (Or.inl ⟨by rfl, ?_⟩) hHeld ?_
    rotate_left
    · intro wS hSw
      obtain ⟨c0, c1, c2, c3, c4⟩ := hSw.1.cells
      have l4 := hSw.1.load
      have p4 := (hSw.2.tail hl1).1
      go_simp; (try with_reducible rfl)
    (try simp only [Act.put, List.setIfInBounds_toArray, List.set_cons_zero, List.set_cons_succ])
    refine takeH (i := 2) (d := some 207) (v := ?_) rfl (by kernel_rfl) (by kernel_rfl) (by kernel_rfl) (fun _ _ _ h => h) rfl (Or.inl ⟨by rfl, ?_⟩) hHeld ?_
    rotate_left
    · intro wS hSw
      obtain ⟨c0, c1, c2, c3, c4⟩ := hSw.1.cells
      have l4 := hSw.1.load
      have p4 := (hSw.2.tail hl1).1
      go_simp; (try with_reducible rfl)
    (try simp only [Act.put, List.setIfInBounds_toArray, List.set_cons_zero, List.set_cons_succ])
    refine takeH (i := 3) (d := some 208) (v := ?_) rfl (by kernel_rfl) (by kernel_rfl) (by kernel_rfl) (fun _ _ _ h => h) rfl (Or.inl ⟨by rfl, ?_⟩) hHeld ?_
    rotate_left
    · intro wS hSw
      obtain ⟨c0, c1, c2, c3, c4⟩ := hSw.1.cells
      have l4 := hSw.1.load
      have p4 := (hSw.2.tail hl1).1
      go_simp; (try with_reducible rfl)
    (try simp only [Act.put, List.setIfInBounds_toArray, List.set_cons_zero, List.set_cons_succ])
    refine takeH (i := 4) (d := some 209) (v := ?_) rfl (by kernel_rfl) (by kernel_rfl) (by kernel_rfl) (fun _ _ _ h => h) rfl (Or.inl ⟨by rfl, ?_⟩) hHeld ?_
    rotate_left
    · intro wS hSw
      obtain ⟨c0, c1, c2, c3, c4⟩ := hSw.1.cells
      have l4 := hSw.1.load
      have p4 := (hSw.2.tail hl1).1
      go_simp; (try with_reducible rfl)
    (try simp only [Act.put, List.setIfInBounds_toArray, List.set_cons_zero, List.set_cons_succ])
    refine takeH (i := 5) (d := some 210) (v := ?_) rfl (by kernel_rfl) (by kernel_rfl) (by kernel_rfl) (fun _ _ _ h => h) rfl (Or.inl ⟨by rfl, ?_⟩) hHeld ?_
    rotate_left
    · intro wS hSw
      obtain ⟨c0, c1, c2, c3, c4⟩ := hSw.1.cells
      have l4 := hSw.1.load
      have p4 := (hSw.2.tail hl1).1
      go_simp; (try with_reducible rfl)
    (try simp only [Act.put, List.setIfInBounds_toArray, List.set_cons_zero, List.set_cons_succ])
    refine takeH (i := 6) (d := some 211) (v := ?_) rfl (by kernel_rfl) (by kernel_rfl) (by kernel_rfl) (fun _ _ _ h => h) rfl (Or.inl ⟨by rfl, ?_⟩) hHeld ?_
    rotate_left
    · intro wS hSw
      obtain ⟨c0, c1, c2, c3, c4⟩ := hSw.1.cells
      have l4 := hSw.1.load
      have p4 := (hSw.2.tail hl1).1
      go_simp; (try with_reducible rfl)
    (try simp only [Act.put, List.setIfInBounds_toArray, List.set_cons_zero, List.set_cons_succ])
    refine takeH (i := 8) (d := some 213) (v := ?_) rfl (by kernel_rfl) (by kernel_rfl) (by kernel_rfl) (fun _ _ _ h => h) rfl (Or.inl ⟨by rfl, ?_⟩) hHeld ?_
    rotate_left
    · intro wS hSw
      obtain ⟨c0, c1, c2, c3, c4⟩ := hSw.1.cells
      have l4 := hSw.1.load
      have p4 := (hSw.2.tail hl1).1
      go_simp; (try with_reducible rfl)
    (try simp only [Act.put, List.setIfInBounds_toArray, List.set_cons_zero, List.set_cons_succ])
    refine wpAnyH_ready (rs := [7]) (by kernel_rfl) (by simp) ?_
    refine AllReadyH.cons rfl (fun K hK => ?_) AllReadyH.nil
    go_simp
    go_at_call 17
    refine (rdoes_any k rd ra rb imm va vb m1.pc W10.drew HUA.out HUB.out).mono ?_
    rintro e w11 ⟨rfl, hb11⟩
    rw [HDV.out]
    have hz11 := hb11.size
    have B1 := BX.out.drew.trans (hb11.mono (by show w.heap.size ≤ W10.heap.size; omega))
    have X1 : MB w11 w.heap.size m1 := MB.below (W := W10.drew) X.out hb11 (by show w.heap.size < W10.heap.size; omega)
    have XZ1 : MB w11 (w.heap.size + 1) Mc.zero := MB.below (W := W10.drew) XZ.out hb11 (by show w.heap.size + 1 < W10.heap.size; omega)
    have XN1 : MB w11 (q + 1) n1 := MB.below (W := W10.drew) XN.out hb11 hzW
    have Y1 : OB w11 q ⟨k, rd, ra, rb, imm⟩ := OB.below (W := W10.drew) Y.out hb11 (by show q < W10.heap.size; omega)
    go_wp2_with fail
    refine hK.out _ _ ⟨Y1, X1⟩ (fun hHeld => ?_)
    clear hK K
    (try simp only [Act.put, List.setIfInBounds_toArray, List.set_cons_zero, List.set_cons_succ])
    refine takeH (i := 9) (d := some 214) (v := ?_) rfl (by kernel_rfl) (by kernel_rfl) (by kernel_rfl) (fun _ _ _ h => h) rfl (Or.inl ⟨by rfl, ?_⟩) hHeld ?_
    rotate_left
    · intro wS hSw
      obtain ⟨c0, c1, c2, c3, c4⟩ := hSw.1.cells
      have l4 := hSw.1.load
      have p4 := (hSw.2.tail hl1).1
      go_simp; (try with_reducible rfl)
    (try simp only [Act.put, List.setIfInBounds_toArray, List.set_cons_zero, List.set_cons_succ])
    have g11 := XN1.reg hln hrd
    have f11 := XN1.frz rd
    obtain ⟨n2, hn2⟩ : ∃ n2, n2 = n1.put rd dv := ⟨_, rfl⟩
    have hl2 : n2.x.length = 32 := by rw [hn2, Mc.put_len]; exact hln
    obtain ⟨n3, hn3⟩ : ∃ n3, n3 = n2.put 0 0 := ⟨_, rfl⟩
    have hl3 : n3.x.length = 32 := by rw [hn3, Mc.put_len]; exact hl2
    obtain ⟨W12, h12, x12n, _, b12, o12⟩ := XN1.step (m' := n2) ((Mc.setReg hln hrd dv).trans (by rw [hn2]))
    have x12 := o12 _ _ (by omega) X1
    have x12z := o12 _ _ (by omega) XZ1
    have y12 : OB W12 q ⟨k, rd, ra, rb, imm⟩ := by rw [← h12]; exact Y1.other (by show q ≠ q + 1; omega) _
    refine wpAnyH_ready (rs := [10]) (by kernel_rfl) (by simp) ?_
    refine AllReadyH.cons rfl (fun K hK => ?_) AllReadyH.nil
    go_simp
    refine hK.out _ _ ⟨y12, x12⟩ (fun hHeld => ?_)
    clear hK K
    (try simp only [Act.put, List.setIfInBounds_toArray, List.set_cons_zero, List.set_cons_succ])
    refine wpAnyH_done (by kernel_rfl) ?_ _
    refine NoPanic.normal ?_
    have g12 := x12n.reg hl2 (i := 0) (by omega)
    have f12 := x12n.frz 0
    obtain ⟨W13, h13, x13n, _, b13, o13⟩ := x12n.step (m' := n3) ((Mc.setReg hl2 (i := 0) (by omega) 0).trans (by rw [hn3]; rfl))
    have x13 := o13 _ _ (by omega) x12
    have x13z := o13 _ _ (by omega) x12z
    have y13 : OB W13 q ⟨k, rd, ra, rb, imm⟩ := by rw [← h13]; exact y12.other (by show q ≠ q + 1; omega) _
    have B3 := (B1.trans (b12.mono (by omega))).trans (b13.mono (by omega))
    obtain ⟨c0, c1, c2, c3, c4⟩ := y13.cells
    have e33 : n3 = (({ m1 with pc := nx } : Mc).put rd dv).put 0 0 := by rw [hn3, hn2, HN1.out]
    have hex : m1.exec ⟨k, rd, ra, rb, imm⟩ = { (m1.put rd dv).put 0 0 with pc := m1.goto ⟨k, rd, ra, rb, imm⟩ } := by rw [exec_do (by have := HK.out; exact ⟨this.1, this.2.1⟩), HVA.out, HVB.out, HDV.out]
    have HEX := Lib.hid (show m1.exec ⟨k, rd, ra, rb, imm⟩ = n3 by rw [hex, e33]; unfold Mc.goto; rw [if_neg HK.out.2.2.1, if_neg HK.out.2.2.2, HNX.out]; rfl)
    have HRR := Lib.hid e33
    clear hex e33 hn2 hn3 hb11 X1 XZ1 XN1 Y1 x12n b12 o12 x12 x12z y12 b13 o13 x13 y13 B1
    have lr := x13n.loadVar hl3
    obtain ⟨Wc, hc, lc, bc⟩ := mach_out (m := n3) x13z rfl hl3
    have hfin := Lib.hid (B3.trans bc)
    clear bc
    go_wp2
    refine bodyPost_ret (v := .agg n3.cells.toArray) ?_ rfl ?_
    · simp [results, Tryd.results23, go_sem, lc]
    · rw [HEX.out]
      exact Comes.same (m' := n3) HG.out.mem HG.out.nil (by rw [HRR.out]; exact HE1.out.2.2) (by rw [HRR.out]; exact HE1.out.1) (by rw [HRR.out]; exact HE1.out.2.1) hfin.out rfl
  · skip
    obtain ⟨dv, hdv⟩ : ∃ v, doesF k imm va vb m1.pc = v := ⟨_, rfl⟩
    have HDV := Lib.hid hdv
    have i0 : (0 : Int) ≤ (rd : Int) := by omega
    have i1 : (rd : Int) < 32 := by omega
    clear hdv c0 c1 c2 c3 c4
    obtain ⟨c0, c1, c2, c3, c4⟩ := Y.out.cells
    go_wp2_with fail
    clear c0 c1 c2 c3 c4
    refine wp_region_noPanic ?_
    refine wp_region_held_drew (S := fun w' => OB w' q ⟨k, rd, ra, rb, imm⟩ ∧ MB w' w.heap.size m1) (by kernel_rfl) ⟨Y.out, X.out⟩ (fun hHeld => ?_)
    refine takeH (i := 0) (d := some 205) (v := ?_) rfl (by kernel_rfl) (by kernel_rfl) (by kernel_rfl) (fun _ _ _ h => h) rfl (Or.inl ⟨by rfl, ?_⟩) hHeld ?_
    rotate_left
    · intro wS hSw
      obtain ⟨c0, c1, c2, c3, c4⟩ := hSw.1.cells
      have l4 := hSw.1.load
      have p4 := (hSw.2.tail hl1).1
      go_simp; (try with_reducible rfl)
    (try simp only [Act.put, List.setIfInBounds_toArray, List.set_cons_zero, List.set_cons_succ])
    refine takeH (i := 1) (d := some 206) (v := ?_) rfl (by kernel_rfl) (by kernel_rfl) (by kernel_rfl) (fun _ _ _ h => h) rfl (Or.inl ⟨by rfl, ?_⟩) hHeld ?_
    rotate_left
    · intro wS hSw
      obtain ⟨c0, c1, c2, c3, c4⟩ := hSw.1.cells
      have l4 := hSw.1.load
      have p4 := (hSw.2.tail hl1).1
      go_simp; (try with_reducible rfl)
    (try simp only [Act.put, List.setIfInBounds_toArray, List.set_cons_zero, List.set_cons_succ])
    refine takeH (i := 2) (d := some 207) (v := ?_) rfl (by kernel_rfl) (by kernel_rfl) (by kernel_rfl) (fun _ _ _ h => h) rfl (Or.inl ⟨by rfl, ?_⟩) hHeld ?_
    rotate_left
    · intro wS hSw
      obtain ⟨c0, c1, c2, c3, c4⟩ := hSw.1.cells
      have l4 := hSw.1.load
      have p4 := (hSw.2.tail hl1).1
      go_simp; (try with_reducible rfl)
    (try simp only [Act.put, List.setIfInBounds_toArray, List.set_cons_zero, List.set_cons_succ])
    refine takeH (i := 3) (d := some 208) (v := ?_) rfl (by kernel_rfl) (by kernel_rfl) (by kernel_rfl) (fun _ _ _ h => h) rfl (Or.inl ⟨by rfl, ?_⟩) hHeld ?_
    rotate_left
    · intro wS hSw
      obtain ⟨c0, c1, c2, c3, c4⟩ := hSw.1.cells
      have l4 := hSw.1.load
      have p4 := (hSw.2.tail hl1).1
      go_simp; (try with_reducible rfl)
    (try simp only [Act.put, List.setIfInBounds_toArray, List.set_cons_zero, List.set_cons_succ])
    refine takeH (i := 4) (d := some 209) (v := ?_) rfl (by kernel_rfl) (by kernel_rfl) (by kernel_rfl) (fun _ _ _ h => h) rfl (Or.inl ⟨by rfl, ?_⟩) hHeld ?_
    rotate_left
    · intro wS hSw
      obtain ⟨c0, c1, c2, c3, c4⟩ := hSw.1.cells
      have l4 := hSw.1.load
      have p4 := (hSw.2.tail hl1).1
      go_simp; (try with_reducible rfl)
    (try simp only [Act.put, List.setIfInBounds_toArray, List.set_cons_zero, List.set_cons_succ])
    refine takeH (i := 5) (d := some 210) (v := ?_) rfl (by kernel_rfl) (by kernel_rfl) (by kernel_rfl) (fun _ _ _ h => h) rfl (Or.inl ⟨by rfl, ?_⟩) hHeld ?_
    rotate_left
    · intro wS hSw
      obtain ⟨c0, c1, c2, c3, c4⟩ := hSw.1.cells
      have l4 := hSw.1.load
      have p4 := (hSw.2.tail hl1).1
      go_simp; (try with_reducible rfl)
    (try simp only [Act.put, List.setIfInBounds_toArray, List.set_cons_zero, List.set_cons_succ])
    refine takeH (i := 6) (d := some 211) (v := ?_) rfl (by kernel_rfl) (by kernel_rfl) (by kernel_rfl) (fun _ _ _ h => h) rfl (Or.inl ⟨by rfl, ?_⟩) hHeld ?_
    rotate_left
    · intro wS hSw
      obtain ⟨c0, c1, c2, c3, c4⟩ := hSw.1.cells
      have l4 := hSw.1.load
      have p4 := (hSw.2.tail hl1).1
      go_simp; (try with_reducible rfl)
    (try simp only [Act.put, List.setIfInBounds_toArray, List.set_cons_zero, List.set_cons_succ])
    refine takeH (i := 8) (d := some 213) (v := ?_) rfl (by kernel_rfl) (by kernel_rfl) (by kernel_rfl) (fun _ _ _ h => h) rfl (Or.inl ⟨by rfl, ?_⟩) hHeld ?_
    rotate_left
    · intro wS hSw
      obtain ⟨c0, c1, c2, c3, c4⟩ := hSw.1.cells
      have l4 := hSw.1.load
      have p4 := (hSw.2.tail hl1).1
      go_simp; (try with_reducible rfl)
    (try simp only [Act.put, List.setIfInBounds_toArray, List.set_cons_zero, List.set_cons_succ])
    refine wpAnyH_ready (rs := [7]) (by kernel_rfl) (by simp) ?_
    refine AllReadyH.cons rfl (fun K hK => ?_) AllReadyH.nil
    go_simp
    go_at_call 17
    refine (rdoes_any k rd ra rb imm va vb m1.pc W10.drew HUA.out HUB.out).mono ?_
    rintro e w11 ⟨rfl, hb11⟩
    rw [HDV.out]
    have hz11 := hb11.size
    have B1 := BX.out.drew.trans (hb11.mono (by show w.heap.size ≤ W10.heap.size; omega))
    have X1 : MB w11 w.heap.size m1 := MB.below (W := W10.drew) X.out hb11 (by show w.heap.size < W10.heap.size; omega)
    have XZ1 : MB w11 (w.heap.size + 1) Mc.zero := MB.below (W := W10.drew) XZ.out hb11 (by show w.heap.size + 1 < W10.heap.size; omega)
    have XN1 : MB w11 (q + 1) n1 := MB.below (W := W10.drew) XN.out hb11 hzW
    have Y1 : OB w11 q ⟨k, rd, ra, rb, imm⟩ := OB.below (W := W10.drew) Y.out hb11 (by show q < W10.heap.size; omega)
    go_wp2_with fail
    refine hK.out _ _ ⟨Y1, X1⟩ (fun hHeld => ?_)
    clear hK K
    (try simp only [Act.put, List.setIfInBounds_toArray, List.set_cons_zero, List.set_cons_succ])
    refine takeH (i := 9) (d := some 214) (v := ?_) rfl (by kernel_rfl) (by kernel_rfl) (by kernel_rfl) (fun _ _ _ h => h) rfl (Or.inl ⟨by rfl, ?_⟩) hHeld ?_
    rotate_left
    · intro wS hSw
      obtain ⟨c0, c1, c2, c3, c4⟩ := hSw.1.cells
      have l4 := hSw.1.load
      have p4 := (hSw.2.tail hl1).1
      go_simp; (try with_reducible rfl)
    (try simp only [Act.put, List.setIfInBounds_toArray, List.set_cons_zero, List.set_cons_succ])
    have g11 := XN1.reg hln hrd
    have f11 := XN1.frz rd
    obtain ⟨n2, hn2⟩ : ∃ n2, n2 = n1.put rd dv := ⟨_, rfl⟩
    have hl2 : n2.x.length = 32 := by rw [hn2, Mc.put_len]; exact hln
    obtain ⟨n3, hn3⟩ : ∃ n3, n3 = n2.put 0 0 := ⟨_, rfl⟩
    have hl3 : n3.x.length = 32 := by rw [hn3, Mc.put_len]; exact hl2
    obtain ⟨W12, h12, x12n, _, b12, o12⟩ := XN1.step (m' := n2) ((Mc.setReg hln hrd dv).trans (by rw [hn2]))
    have x12 := o12 _ _ (by omega) X1
    have x12z := o12 _ _ (by omega) XZ1
    have y12 : OB W12 q ⟨k, rd, ra, rb, imm⟩ := by rw [← h12]; exact Y1.other (by show q ≠ q + 1; omega) _
    refine wpAnyH_ready (rs := [10]) (by kernel_rfl) (by simp) ?_
    refine AllReadyH.cons rfl (fun K hK => ?_) AllReadyH.nil
    go_simp
    refine hK.out _ _ ⟨y12, x12⟩ (fun hHeld => ?_)
    clear hK K
    (try simp only [Act.put, List.setIfInBounds_toArray, List.set_cons_zero, List.set_cons_succ])
    refine wpAnyH_done (by kernel_rfl) ?_ _
    refine NoPanic.normal ?_
    have g12 := x12n.reg hl2 (i := 0) (by omega)
    have f12 := x12n.frz 0
    obtain ⟨W13, h13, x13n, _, b13, o13⟩ := x12n.step (m' := n3) ((Mc.setReg hl2 (i := 0) (by omega) 0).trans (by rw [hn3]; rfl))
    have x13 := o13 _ _ (by omega) x12
    have x13z := o13 _ _ (by omega) x12z
    have y13 : OB W13 q ⟨k, rd, ra, rb, imm⟩ := by rw [← h13]; exact y12.other (by show q ≠ q + 1; omega) _
    have B3 := (B1.trans (b12.mono (by omega))).trans (b13.mono (by omega))
    obtain ⟨c0, c1, c2, c3, c4⟩ := y13.cells
    have e33 : n3 = (({ m1 with pc := nx } : Mc).put rd dv).put 0 0 := by rw [hn3, hn2, HN1.out]
    have hex : m1.exec ⟨k, rd, ra, rb, imm⟩ = { (m1.put rd dv).put 0 0 with pc := m1.goto ⟨k, rd, ra, rb, imm⟩ } := by rw [exec_do (by have := HK.out; exact ⟨this.1, this.2.1⟩), HVA.out, HVB.out, HDV.out]
    have HEX := Lib.hid (show m1.exec ⟨k, rd, ra, rb, imm⟩ = n3 by rw [hex, e33]; unfold Mc.goto; rw [if_neg HK.out.2.2.1, if_neg HK.out.2.2.2, HNX.out]; rfl)
    have HRR := Lib.hid e33
    clear hex e33 hn2 hn3 hb11 X1 XZ1 XN1 Y1 x12n b12 o12 x12 x12z y12 b13 o13 x13 y13 B1
    have lr := x13n.loadVar hl3
    obtain ⟨Wc, hc, lc, bc⟩ := mach_out (m := n3) x13z rfl hl3
    have hfin := Lib.hid (B3.trans bc)
    clear bc
    go_wp2
    refine bodyPost_ret (v := .agg n3.cells.toArray) ?_ rfl ?_
    · simp [results, Tryd.results23, go_sem, lc]
    · rw [HEX.out]
      exact Comes.same (m' := n3) HG.out.mem HG.out.nil (by rw [HRR.out]; exact HE1.out.2.2) (by rw [HRR.out]; exact HE1.out.1) (by rw [HRR.out]; exact HE1.out.2.1) hfin.out rfl

end Go.Proofs.YtajhehmkdlebbaaDoor
namespace Go.Proofs.YtajhehmkdlebbaaDoor
open Go.ChangeShapes Go.WideShapes Go.ChangeAt Go.RowKit Go.Deep
set_option maxRecDepth 100000
attribute [-go_sem] loadVar storeVar
set_option maxHeartbeats 4000000 in
theorem rstep_k19 (m : Mc) {w : World} (hG : McG w m) (h00 : m.reg 0 = 0) (rd ra rb : Nat) (hrd : rd < 32) (hra : ra < 32) (hrb : rb < 32) (imm : Int) (hs : m.state = 0) (hf : m.tick.fetch = some ⟨19, rd, ra, rb, imm⟩) :
    Calls Tryd.prog 23 #[.agg m.cells.toArray] w (Comes w (m.tick.exec ⟨19, rd, ra, rb, imm⟩)) := by
  have hm := hG.ok
  have hl := hm.len
  obtain ⟨W1, W2, h1, h2, s1, s2, x1, x2, b2⟩ := mach_start m w
  have c36 := (x1.tail hl).2.2.2.2.1
  rw [hs] at c36
  have c38 := (x1.tail hl).2.2.2.2.2.2
  have f38 := x1.frz 38
  obtain ⟨m1, hm1⟩ : ∃ m1, m1 = m.tick := ⟨_, rfl⟩
  rw [← hm1] at hf ⊢
  have ok1 : m1.Ok := by rw [hm1]; exact hm.tick
  have hl1 := ok1.len
  obtain ⟨W3, h3, x3, s3, b3, o3⟩ := x1.step (m' := m1) ((Mc.setSteps hl _).trans (by rw [hm1]; rfl))
  have x3z := o3 _ _ (by omega) x2
  have p3 := (x3.tail hl1).1
  have q3 := (x3.tail hl1).2.1
  have B3 := b2.trans b3
  have hM3 := Sl.In.below hG.mem B3
  have e1 : m1.a = m.a ∧ m1.cap = m.cap ∧ m1.mem = m.mem := by subst hm1; exact ⟨rfl, rfl, rfl⟩
  have e2 : m1.out = m.out := by subst hm1; rfl
  rw [← e1.1, ← e1.2.1, ← e1.2.2] at hM3
  have HM3 := Lib.hid hM3
  have HB3 := Lib.hid B3
  have HX := Lib.hid x3
  have HXZ := Lib.hid x3z
  have HOK := Lib.hid ok1
  have HE1 := Lib.hid e1
  have HE2 := Lib.hid e2
  have HG := Lib.hid hG
  have hz3 : W3.heap.size = w.heap.size + 1 + 1 := by omega
  have hpb := ok1.pc_
  unfold U64 at hpb
  obtain ⟨hp0, hp1⟩ := hpb
  have HR0 := Lib.hid (show m1.reg 0 = 0 by rw [hm1]; exact h00)
  obtain ⟨E, hE⟩ : ∃ E, loadE m1.mem m1.pc 4 1 = E := ⟨_, rfl⟩
  obtain ⟨V, hV⟩ : ∃ V, loadV m1.mem m1.pc 4 1 = V := ⟨_, rfl⟩
  obtain ⟨e4, eE, eT⟩ := fetch_some hf
  rw [hE] at eE
  subst eE
  rw [hV] at eT
  have HTK := Lib.hid eT
  have q4 : (m1.pc % 4 == 0) = true := beq_iff_eq.2 e4
  clear eT hf
  have HE := Lib.hid hE
  have HV := Lib.hid hV
  clear hM3 B3 x1 x2 b2 x3 x3z b3 o3 ok1 e1 e2 hG hm hm1 hs hE hV h00
  go_enter Tryd.func23, Tryd.ntmps23
  go_wp2_with fail
  refine (rload_any m1.pc 4 1 ⟨hp0, hp1⟩ (by omega) HM3.out (by omega) HOK.out.wf HOK.out.small).mono ?_
  rintro e w4 ⟨rfl, hb4⟩
  rw [HE.out, HV.out]
  have hz4 := hb4.size
  have B4 := Lib.hid (HB3.out.trans (hb4.mono (by omega)))
  have X4 := Lib.hid (HX.out.below hb4 (by omega))
  have XZ4 := Lib.hid (HXZ.out.below hb4 (by omega))
  have p4 := (X4.out.tail hl1).1
  clear hb4
  have l1 := X4.out.loadVar hl1
  go_wp2_with fail
  refine (rtake_any _ w4 (u32_wrap_bd V)).mono ?_
  rintro e w5 ⟨rfl, hb5⟩
  rw [takeV_eq, takeE_eq, HTK.out]
  have hz5 := hb5.size
  obtain ⟨W6, h6, s6, y6, b6, o6⟩ := op_new w5
  have B5 := B4.out.trans (hb5.mono (by omega))
  have x6 := o6 _ _ (X4.out.below hb5 (by omega))
  have x6z := o6 _ _ (XZ4.out.below hb5 (by omega))
  have hv : (Option.getD (some (⟨19, rd, ra, rb, imm⟩ : OpD)) OpD.zero).v = .agg #[.int .i64 19, .int .i64 rd, .int .i64 ra, .int .i64 rb, .int .i64 imm] := rfl
  rw [hv]
  obtain ⟨W7, h7, y7, s7, b7, o7⟩ := y6.lay ⟨19, rd, ra, rb, imm⟩
  have x7 := o7 _ _ (by omega) x6
  have x7z := o7 _ _ (by omega) x6z
  have B7 := (B5.trans (b6.mono (by omega))).trans (b7.mono (by omega))
  have g7 := y7.cells
  obtain ⟨a0, a1, a2, a3, a4⟩ := g7
  have r1 := x7.reg hl1 (i := ra) (by omega)
  have r2 := x7.reg hl1 (i := rb) (by omega)
  have l7 := x7.loadVar hl1
  obtain ⟨nx, hnx⟩ : ∃ v, IntKind.u64.wrap (m1.pc + 4) = v := ⟨_, rfl⟩
  obtain ⟨n1, hn1⟩ : ∃ n1, n1 = ({ m1 with pc := nx } : Mc) := ⟨_, rfl⟩
  have hln : n1.x.length = 32 := by rw [hn1]; exact hl1
  obtain ⟨q, hq⟩ : ∃ q, w5.heap.size = q := ⟨_, rfl⟩
  rw [hq] at y7 a0 a1 a2 a3 a4
  obtain ⟨W8, h8, s8, x8n, b8, o8⟩ := mach_more W7
  rw [s7, s6, hq] at s8 x8n b8
  have x8 := o8 _ _ x7
  have x8z := o8 _ _ x7z
  have y8 := y7.below b8 (by omega)
  obtain ⟨W9, h9, x9n, s9, b9, o9⟩ := x8n.lay rfl m1 hl1
  have x9 := o9 _ _ (by omega) x8
  have x9z := o9 _ _ (by omega) x8z
  have y9 := y8.below b9 (by omega)
  have p9 := (x9.tail hl1).1
  have p9n := (x9n.tail hl1).1
  have f9n := x9n.frz 32
  obtain ⟨W10, h10, x10n, s10, b10, o10⟩ := x9n.step (m' := n1) ((Mc.setPc hl1 nx).trans (by rw [hn1]))
  have x10 := o10 _ _ (by omega) x9
  have x10z := o10 _ _ (by omega) x9z
  have y10 := y9.below b10 (by omega)
  have j0 : (0 : Int) ≤ (ra : Int) := by omega
  have j1 : (ra : Int) < 32 := by omega
  have j2 : (0 : Int) ≤ (rb : Int) := by omega
  have j3 : (rb : Int) < 32 := by omega
  obtain ⟨va, hva⟩ : ∃ v, v = m1.x.getD ra 0 := ⟨_, rfl⟩
  obtain ⟨vb, hvb⟩ : ∃ v, v = m1.x.getD rb 0 := ⟨_, rfl⟩
  rw [← hva] at r1
  rw [← hvb] at r2
  have eva : m1.reg ra = va := by rw [hva]; rfl
  have evb : m1.reg rb = vb := by rw [hvb]; rfl
  have HVA := Lib.hid eva
  have HVB := Lib.hid evb
  have HUA := Lib.hid (show U64 va by rw [← eva]; exact HOK.out.reg _)
  have HUB := Lib.hid (show U64 vb by rw [← evb]; exact HOK.out.reg _)
  obtain ⟨imu, himu⟩ : ∃ v, IntKind.u64.wrap imm = v := ⟨_, rfl⟩
  obtain ⟨at_, hat⟩ : ∃ v, IntKind.u64.wrap (va + imu) = v := ⟨_, rfl⟩
  have HIM := Lib.hid himu
  have HAT := Lib.hid (show m1.at_ ⟨19, rd, ra, rb, imm⟩ = at_ by rw [← hat, ← himu, ← eva]; rfl)
  have HATB := Lib.hid (show U64 at_ by rw [← hat]; exact U64.wrap _)
  have HNX := Lib.hid (show m1.next = nx from hnx)
  have HN1 := Lib.hid hn1
  have B10 := ((B7.trans (b8.mono (by omega))).trans (b9.mono (by omega))).trans (b10.mono (by omega))
  have HM10 := Lib.hid (show Mem W10 w.heap.size m1.a m1.cap m1.mem by rw [HE1.out.1, HE1.out.2.1, HE1.out.2.2]; exact Sl.In.below HG.out.mem B10)
  have X := Lib.hid x10
  have XZ := Lib.hid x10z
  have XN := Lib.hid x10n
  have Y := Lib.hid y10
  have BX := Lib.hid B10
  have hqw : w.heap.size + 1 + 1 ≤ q := by omega
  have hzW : q + 1 < W10.heap.size := by omega
  have h6' := h6
  rw [hq] at h7
  clear hb5 B5 b6 x6 x6z o6 y6 y7 b7 o7 l1 hv x7 x7z B7 x8n b8 o8 x8 x8z y8 x9n b9 o9 x9 x9z y9 x10n b10 o10 x10 x10z y10 eva evb hva hvb hn1 B10 h6'
  obtain ⟨c0, c1, c2, c3, c4⟩ := Y.out.cells
  obtain ⟨E, hE⟩ : ∃ E, loadE m1.mem at_ 8 4 = E := ⟨_, rfl⟩
  obtain ⟨V, hV⟩ : ∃ V, loadV m1.mem at_ 8 4 = V := ⟨_, rfl⟩
  have HE := Lib.hid hE
  have HV := Lib.hid hV
  have q10 := (X.out.tail hl1).2.1
  clear hE hV
  go_wp2_with fail
  refine (rload_any at_ 8 4 HATB.out (by omega) HM10.out (by omega) HOK.out.wf HOK.out.small).mono ?_
  rintro e w11 ⟨rfl, hb11⟩
  rw [HE.out, HV.out]
  have hz11 := hb11.size
  have B1 := Lib.hid (BX.out.trans (hb11.mono (by omega)))
  have X1 := Lib.hid (X.out.below hb11 (by omega))
  have XZ1 := Lib.hid (XZ.out.below hb11 (by omega))
  have XN1 := Lib.hid (XN.out.below hb11 (by omega))
  have Y1 := Lib.hid (Y.out.below hb11 (by omega))
  have HEE := Lib.hid (show loadE m1.mem (m1.at_ ⟨19, rd, ra, rb, imm⟩) (manyR 19) 4 = E by rw [HAT.out, ← HE.out]; rfl)
  have HVV := Lib.hid (show loadV m1.mem (m1.at_ ⟨19, rd, ra, rb, imm⟩) (manyR 19) 4 = V by rw [HAT.out, ← HV.out]; rfl)
  clear c0 c1 c2 c3 c4 q10 hb11
  obtain ⟨c0, c1, c2, c3, c4⟩ := Y1.out.cells
  by_cases hE0 : E = 0
  · have q0 : (E == 0) = true := beq_iff_eq.2 hE0
    obtain ⟨R1, hR1⟩ : ∃ R1, R1 = n1.put rd V := ⟨_, rfl⟩
    obtain ⟨R, hR⟩ : ∃ R, R = R1.put 0 0 := ⟨_, rfl⟩
    have hlR1 : R1.x.length = 32 := by rw [hR1, Mc.put_len]; exact hln
    have hlR : R.x.length = 32 := by rw [hR, Mc.put_len]; exact hlR1
    have HEX := Lib.hid (show m1.exec ⟨19, rd, ra, rb, imm⟩ = R by rw [exec_ld (by simp) (HEE.out.trans hE0), hR, hR1, HVV.out, HNX.out, HN1.out]; rfl)
    have i0 : (0 : Int) ≤ (rd : Int) := by omega
    have i1 : (rd : Int) < 32 := by omega
    have u11 := XN1.out.reg hln hrd
    have f11 := XN1.out.frz rd
    obtain ⟨W12, h12, x12, _, b12, o12⟩ := XN1.out.step (m' := R1) ((Mc.setReg hln hrd V).trans (by rw [hR1]))
    have u12 := x12.reg hlR1 (i := 0) (by omega)
    have f12 := x12.frz 0
    obtain ⟨W13, h13, x13, _, b13, o13⟩ := x12.step (m' := R) ((Mc.setReg hlR1 (i := 0) (by omega) 0).trans (by rw [hR]; rfl))
    have XZ2 := o13 _ _ (by omega) (o12 _ _ (by omega) XZ1.out)
    have B2 := (B1.out.trans (b12.mono (by omega))).trans (b13.mono (by omega))
    have HRR := Lib.hid (show R = (({ m1 with pc := nx } : Mc).put rd V).put 0 0 by rw [hR, hR1, HN1.out])
    clear hR hR1 o12 b12 o13 b13 hE0 x12
    have lr := x13.loadVar hlR
    obtain ⟨Wc, hc, lc, bc⟩ := mach_out (m := R) XZ2 rfl hlR
    have hfin := Lib.hid (B2.trans bc)
    clear bc
    go_wp2
    refine bodyPost_ret (v := .agg R.cells.toArray) ?_ rfl ?_
    · simp [results, Tryd.results23, go_sem, lc]
    · rw [HEX.out]
      exact Comes.same (m' := R) HG.out.mem HG.out.nil (by rw [HRR.out]; exact HE1.out.2.2) (by rw [HRR.out]; exact HE1.out.1) (by rw [HRR.out]; exact HE1.out.2.1) hfin.out rfl
  · have q0 : (E == 0) = false := beq_eq_false_iff_ne.2 hE0
    have HNE := Lib.hid hE0
    clear hE0
    have l1 := X1.out.loadVar hl1
    go_wp2_with fail
    refine (trap_any m1 w11 hl1).mono ?_
    rintro e w20 ⟨rfl, hb20⟩
    have BX := Lib.hid (B1.out.trans (hb20.mono (by omega)))
    have XZ1 := XZ1.out.below hb20 (by omega)
    obtain ⟨Wc, hc, lc, bc⟩ := mach_out (m := m1.trap) XZ1 rfl hl1
    have HEX := Lib.hid (show m1.exec ⟨19, rd, ra, rb, imm⟩ = m1.trap from exec_ld_bad (by simp) (by rw [HEE.out]; exact HNE.out))
    have hfin := Lib.hid (BX.out.trans bc)
    clear bc hb20 XZ1
    go_wp2
    refine bodyPost_ret (v := .agg m1.trap.cells.toArray) ?_ rfl ?_
    · simp [results, Tryd.results23, go_sem, lc]
    · rw [HEX.out]
      exact Comes.same (m' := m1.trap) HG.out.mem HG.out.nil HE1.out.2.2 HE1.out.1 HE1.out.2.1 hfin.out rfl

set_option maxHeartbeats 4000000 in
theorem rstep_k20 (m : Mc) {w : World} (hG : McG w m) (h00 : m.reg 0 = 0) (rd ra rb : Nat) (hrd : rd < 32) (hra : ra < 32) (hrb : rb < 32) (imm : Int) (hs : m.state = 0) (hf : m.tick.fetch = some ⟨20, rd, ra, rb, imm⟩) :
    Calls Tryd.prog 23 #[.agg m.cells.toArray] w (Comes w (m.tick.exec ⟨20, rd, ra, rb, imm⟩)) := by
  have hm := hG.ok
  have hl := hm.len
  obtain ⟨W1, W2, h1, h2, s1, s2, x1, x2, b2⟩ := mach_start m w
  have c36 := (x1.tail hl).2.2.2.2.1
  rw [hs] at c36
  have c38 := (x1.tail hl).2.2.2.2.2.2
  have f38 := x1.frz 38
  obtain ⟨m1, hm1⟩ : ∃ m1, m1 = m.tick := ⟨_, rfl⟩
  rw [← hm1] at hf ⊢
  have ok1 : m1.Ok := by rw [hm1]; exact hm.tick
  have hl1 := ok1.len
  obtain ⟨W3, h3, x3, s3, b3, o3⟩ := x1.step (m' := m1) ((Mc.setSteps hl _).trans (by rw [hm1]; rfl))
  have x3z := o3 _ _ (by omega) x2
  have p3 := (x3.tail hl1).1
  have q3 := (x3.tail hl1).2.1
  have B3 := b2.trans b3
  have hM3 := Sl.In.below hG.mem B3
  have e1 : m1.a = m.a ∧ m1.cap = m.cap ∧ m1.mem = m.mem := by subst hm1; exact ⟨rfl, rfl, rfl⟩
  have e2 : m1.out = m.out := by subst hm1; rfl
  rw [← e1.1, ← e1.2.1, ← e1.2.2] at hM3
  have HM3 := Lib.hid hM3
  have HB3 := Lib.hid B3
  have HX := Lib.hid x3
  have HXZ := Lib.hid x3z
  have HOK := Lib.hid ok1
  have HE1 := Lib.hid e1
  have HE2 := Lib.hid e2
  have HG := Lib.hid hG
  have hz3 : W3.heap.size = w.heap.size + 1 + 1 := by omega
  have hpb := ok1.pc_
  unfold U64 at hpb
  obtain ⟨hp0, hp1⟩ := hpb
  have HR0 := Lib.hid (show m1.reg 0 = 0 by rw [hm1]; exact h00)
  obtain ⟨E, hE⟩ : ∃ E, loadE m1.mem m1.pc 4 1 = E := ⟨_, rfl⟩
  obtain ⟨V, hV⟩ : ∃ V, loadV m1.mem m1.pc 4 1 = V := ⟨_, rfl⟩
  obtain ⟨e4, eE, eT⟩ := fetch_some hf
  rw [hE] at eE
  subst eE
  rw [hV] at eT
  have HTK := Lib.hid eT
  have q4 : (m1.pc % 4 == 0) = true := beq_iff_eq.2 e4
  clear eT hf
  have HE := Lib.hid hE
  have HV := Lib.hid hV
  clear hM3 B3 x1 x2 b2 x3 x3z b3 o3 ok1 e1 e2 hG hm hm1 hs hE hV h00
  go_enter Tryd.func23, Tryd.ntmps23
  go_wp2_with fail
  refine (rload_any m1.pc 4 1 ⟨hp0, hp1⟩ (by omega) HM3.out (by omega) HOK.out.wf HOK.out.small).mono ?_
  rintro e w4 ⟨rfl, hb4⟩
  rw [HE.out, HV.out]
  have hz4 := hb4.size
  have B4 := Lib.hid (HB3.out.trans (hb4.mono (by omega)))
  have X4 := Lib.hid (HX.out.below hb4 (by omega))
  have XZ4 := Lib.hid (HXZ.out.below hb4 (by omega))
  have p4 := (X4.out.tail hl1).1
  clear hb4
  have l1 := X4.out.loadVar hl1
  go_wp2_with fail
  refine (rtake_any _ w4 (u32_wrap_bd V)).mono ?_
  rintro e w5 ⟨rfl, hb5⟩
  rw [takeV_eq, takeE_eq, HTK.out]
  have hz5 := hb5.size
  obtain ⟨W6, h6, s6, y6, b6, o6⟩ := op_new w5
  have B5 := B4.out.trans (hb5.mono (by omega))
  have x6 := o6 _ _ (X4.out.below hb5 (by omega))
  have x6z := o6 _ _ (XZ4.out.below hb5 (by omega))
  have hv : (Option.getD (some (⟨20, rd, ra, rb, imm⟩ : OpD)) OpD.zero).v = .agg #[.int .i64 20, .int .i64 rd, .int .i64 ra, .int .i64 rb, .int .i64 imm] := rfl
  rw [hv]
  obtain ⟨W7, h7, y7, s7, b7, o7⟩ := y6.lay ⟨20, rd, ra, rb, imm⟩
  have x7 := o7 _ _ (by omega) x6
  have x7z := o7 _ _ (by omega) x6z
  have B7 := (B5.trans (b6.mono (by omega))).trans (b7.mono (by omega))
  have g7 := y7.cells
  obtain ⟨a0, a1, a2, a3, a4⟩ := g7
  have r1 := x7.reg hl1 (i := ra) (by omega)
  have r2 := x7.reg hl1 (i := rb) (by omega)
  have l7 := x7.loadVar hl1
  obtain ⟨nx, hnx⟩ : ∃ v, IntKind.u64.wrap (m1.pc + 4) = v := ⟨_, rfl⟩
  obtain ⟨n1, hn1⟩ : ∃ n1, n1 = ({ m1 with pc := nx } : Mc) := ⟨_, rfl⟩
  have hln : n1.x.length = 32 := by rw [hn1]; exact hl1
  obtain ⟨q, hq⟩ : ∃ q, w5.heap.size = q := ⟨_, rfl⟩
  rw [hq] at y7 a0 a1 a2 a3 a4
  obtain ⟨W8, h8, s8, x8n, b8, o8⟩ := mach_more W7
  rw [s7, s6, hq] at s8 x8n b8
  have x8 := o8 _ _ x7
  have x8z := o8 _ _ x7z
  have y8 := y7.below b8 (by omega)
  obtain ⟨W9, h9, x9n, s9, b9, o9⟩ := x8n.lay rfl m1 hl1
  have x9 := o9 _ _ (by omega) x8
  have x9z := o9 _ _ (by omega) x8z
  have y9 := y8.below b9 (by omega)
  have p9 := (x9.tail hl1).1
  have p9n := (x9n.tail hl1).1
  have f9n := x9n.frz 32
  obtain ⟨W10, h10, x10n, s10, b10, o10⟩ := x9n.step (m' := n1) ((Mc.setPc hl1 nx).trans (by rw [hn1]))
  have x10 := o10 _ _ (by omega) x9
  have x10z := o10 _ _ (by omega) x9z
  have y10 := y9.below b10 (by omega)
  have j0 : (0 : Int) ≤ (ra : Int) := by omega
  have j1 : (ra : Int) < 32 := by omega
  have j2 : (0 : Int) ≤ (rb : Int) := by omega
  have j3 : (rb : Int) < 32 := by omega
  obtain ⟨va, hva⟩ : ∃ v, v = m1.x.getD ra 0 := ⟨_, rfl⟩
  obtain ⟨vb, hvb⟩ : ∃ v, v = m1.x.getD rb 0 := ⟨_, rfl⟩
  rw [← hva] at r1
  rw [← hvb] at r2
  have eva : m1.reg ra = va := by rw [hva]; rfl
  have evb : m1.reg rb = vb := by rw [hvb]; rfl
  have HVA := Lib.hid eva
  have HVB := Lib.hid evb
  have HUA := Lib.hid (show U64 va by rw [← eva]; exact HOK.out.reg _)
  have HUB := Lib.hid (show U64 vb by rw [← evb]; exact HOK.out.reg _)
  obtain ⟨imu, himu⟩ : ∃ v, IntKind.u64.wrap imm = v := ⟨_, rfl⟩
  obtain ⟨at_, hat⟩ : ∃ v, IntKind.u64.wrap (va + imu) = v := ⟨_, rfl⟩
  have HIM := Lib.hid himu
  have HAT := Lib.hid (show m1.at_ ⟨20, rd, ra, rb, imm⟩ = at_ by rw [← hat, ← himu, ← eva]; rfl)
  have HATB := Lib.hid (show U64 at_ by rw [← hat]; exact U64.wrap _)
  have HNX := Lib.hid (show m1.next = nx from hnx)
  have HN1 := Lib.hid hn1
  have B10 := ((B7.trans (b8.mono (by omega))).trans (b9.mono (by omega))).trans (b10.mono (by omega))
  have HM10 := Lib.hid (show Mem W10 w.heap.size m1.a m1.cap m1.mem by rw [HE1.out.1, HE1.out.2.1, HE1.out.2.2]; exact Sl.In.below HG.out.mem B10)
  have X := Lib.hid x10
  have XZ := Lib.hid x10z
  have XN := Lib.hid x10n
  have Y := Lib.hid y10
  have BX := Lib.hid B10
  have hqw : w.heap.size + 1 + 1 ≤ q := by omega
  have hzW : q + 1 < W10.heap.size := by omega
  have h6' := h6
  rw [hq] at h7
  clear hb5 B5 b6 x6 x6z o6 y6 y7 b7 o7 l1 hv x7 x7z B7 x8n b8 o8 x8 x8z y8 x9n b9 o9 x9 x9z y9 x10n b10 o10 x10 x10z y10 eva evb hva hvb hn1 B10 h6'
  obtain ⟨c0, c1, c2, c3, c4⟩ := Y.out.cells
  obtain ⟨E, hE⟩ : ∃ E, loadE m1.mem at_ 1 4 = E := ⟨_, rfl⟩
  obtain ⟨V, hV⟩ : ∃ V, loadV m1.mem at_ 1 4 = V := ⟨_, rfl⟩
  have HE := Lib.hid hE
  have HV := Lib.hid hV
  have q10 := (X.out.tail hl1).2.1
  clear hE hV
  go_wp2_with fail
  refine (rload_any at_ 1 4 HATB.out (by omega) HM10.out (by omega) HOK.out.wf HOK.out.small).mono ?_
  rintro e w11 ⟨rfl, hb11⟩
  rw [HE.out, HV.out]
  have hz11 := hb11.size
  have B1 := Lib.hid (BX.out.trans (hb11.mono (by omega)))
  have X1 := Lib.hid (X.out.below hb11 (by omega))
  have XZ1 := Lib.hid (XZ.out.below hb11 (by omega))
  have XN1 := Lib.hid (XN.out.below hb11 (by omega))
  have Y1 := Lib.hid (Y.out.below hb11 (by omega))
  have HEE := Lib.hid (show loadE m1.mem (m1.at_ ⟨20, rd, ra, rb, imm⟩) (manyR 20) 4 = E by rw [HAT.out, ← HE.out]; rfl)
  have HVV := Lib.hid (show loadV m1.mem (m1.at_ ⟨20, rd, ra, rb, imm⟩) (manyR 20) 4 = V by rw [HAT.out, ← HV.out]; rfl)
  clear c0 c1 c2 c3 c4 q10 hb11
  obtain ⟨c0, c1, c2, c3, c4⟩ := Y1.out.cells
  by_cases hE0 : E = 0
  · have q0 : (E == 0) = true := beq_iff_eq.2 hE0
    obtain ⟨R1, hR1⟩ : ∃ R1, R1 = n1.put rd V := ⟨_, rfl⟩
    obtain ⟨R, hR⟩ : ∃ R, R = R1.put 0 0 := ⟨_, rfl⟩
    have hlR1 : R1.x.length = 32 := by rw [hR1, Mc.put_len]; exact hln
    have hlR : R.x.length = 32 := by rw [hR, Mc.put_len]; exact hlR1
    have HEX := Lib.hid (show m1.exec ⟨20, rd, ra, rb, imm⟩ = R by rw [exec_ld (by simp) (HEE.out.trans hE0), hR, hR1, HVV.out, HNX.out, HN1.out]; rfl)
    have i0 : (0 : Int) ≤ (rd : Int) := by omega
    have i1 : (rd : Int) < 32 := by omega
    have u11 := XN1.out.reg hln hrd
    have f11 := XN1.out.frz rd
    obtain ⟨W12, h12, x12, _, b12, o12⟩ := XN1.out.step (m' := R1) ((Mc.setReg hln hrd V).trans (by rw [hR1]))
    have u12 := x12.reg hlR1 (i := 0) (by omega)
    have f12 := x12.frz 0
    obtain ⟨W13, h13, x13, _, b13, o13⟩ := x12.step (m' := R) ((Mc.setReg hlR1 (i := 0) (by omega) 0).trans (by rw [hR]; rfl))
    have XZ2 := o13 _ _ (by omega) (o12 _ _ (by omega) XZ1.out)
    have B2 := (B1.out.trans (b12.mono (by omega))).trans (b13.mono (by omega))
    have HRR := Lib.hid (show R = (({ m1 with pc := nx } : Mc).put rd V).put 0 0 by rw [hR, hR1, HN1.out])
    clear hR hR1 o12 b12 o13 b13 hE0 x12
    have lr := x13.loadVar hlR
    obtain ⟨Wc, hc, lc, bc⟩ := mach_out (m := R) XZ2 rfl hlR
    have hfin := Lib.hid (B2.trans bc)
    clear bc
    go_wp2
    refine bodyPost_ret (v := .agg R.cells.toArray) ?_ rfl ?_
    · simp [results, Tryd.results23, go_sem, lc]
    · rw [HEX.out]
      exact Comes.same (m' := R) HG.out.mem HG.out.nil (by rw [HRR.out]; exact HE1.out.2.2) (by rw [HRR.out]; exact HE1.out.1) (by rw [HRR.out]; exact HE1.out.2.1) hfin.out rfl
  · have q0 : (E == 0) = false := beq_eq_false_iff_ne.2 hE0
    have HNE := Lib.hid hE0
    clear hE0
    have l1 := X1.out.loadVar hl1
    go_wp2_with fail
    refine (trap_any m1 w11 hl1).mono ?_
    rintro e w20 ⟨rfl, hb20⟩
    have BX := Lib.hid (B1.out.trans (hb20.mono (by omega)))
    have XZ1 := XZ1.out.below hb20 (by omega)
    obtain ⟨Wc, hc, lc, bc⟩ := mach_out (m := m1.trap) XZ1 rfl hl1
    have HEX := Lib.hid (show m1.exec ⟨20, rd, ra, rb, imm⟩ = m1.trap from exec_ld_bad (by simp) (by rw [HEE.out]; exact HNE.out))
    have hfin := Lib.hid (BX.out.trans bc)
    clear bc hb20 XZ1
    go_wp2
    refine bodyPost_ret (v := .agg m1.trap.cells.toArray) ?_ rfl ?_
    · simp [results, Tryd.results23, go_sem, lc]
    · rw [HEX.out]
      exact Comes.same (m' := m1.trap) HG.out.mem HG.out.nil HE1.out.2.2 HE1.out.1 HE1.out.2.1 hfin.out rfl

end Go.Proofs.YtajhehmkdlebbaaDoor
