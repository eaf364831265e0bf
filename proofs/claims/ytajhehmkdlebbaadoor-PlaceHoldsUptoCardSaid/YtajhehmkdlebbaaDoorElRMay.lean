/- The reference's May: the same plain function. -/
import Derived.Test.YtajhehmkdlebbaaDoorElMay
namespace Go.Proofs.YtajhehmkdlebbaaDoor
open Go.ChangeShapes Go.WideShapes Go.ChangeAt Go.RowKit Go.Deep
set_option maxRecDepth 100000
theorem segA_ways {s : Sg} (h : ¬ SegA s) : ¬ s.at_ % 256 = 0 ∨ (s.at_ % 256 = 0 ∧ (1099511627776 ≤ s.at_ ∨ (s.at_ < 1099511627776 ∧ (s.perm < 1 ∨ (1 ≤ s.perm ∧ (7 < s.perm ∨ (s.perm ≤ 7 ∧ (s.perm % 4 = 3 ∨ (¬ s.perm % 4 = 3 ∧ (s.size < 1 ∨ (1 ≤ s.size ∧ (16384 < s.size ∨ (s.size ≤ 16384 ∧ s.size < (s.data.size : Int)))))))))))))) := by
  unfold SegA at h
  omega
theorem segAt_zero {l : List Sg} (hk : 0 < l.length) (h : SegA l[0]) (ho : l[0].ok) : SegAt l 0 := (segAt_iff hk).2 ⟨h, ho.1.1⟩
set_option maxHeartbeats 8000000 in
theorem irmay_any {A : Option Addr} {cap : Nat} {L : List Sg} {w : World} {B : Nat} (e : Int) (hL : Sgs w B A cap L) (hB : B ≤ w.heap.size) (hwf : ∀ s ∈ L, s.ok) (hlen : L.length ≤ 140737488351232) :
    Calls Tryd.prog 29 #[.agg #[.int .u64 e, .slice A L.length cap]] w fun e' w' => e' = .returned (.bool (imayB e L)) ∧ Below w.heap.size w w' := by
  obtain ⟨W0, hW0⟩ : ∃ W0, w.alloc (.cells #[.int .u64 e, .slice A L.length cap] 49) = W0 := ⟨_, rfl⟩
  have k0 : Below w.heap.size w W0 := by subst hW0; exact (Below.refl _ _).alloc (Nat.le_refl _) _
  have b0 : Box2 W0 w.heap.size e (.slice A L.length cap) := by
    subst hW0
    refine ⟨?_, ?_⟩ <;> simp [go_sem]
  have s0 : W0.heap.size = w.heap.size + 1 := by subst hW0; simp
  have hS0 : w.heap.size + 1 ≤ W0.heap.size := by omega
  have HW := Lib.hid hW0
  have HK0 := Lib.hid k0
  have HB0 := Lib.hid b0
  have HL := Lib.hid (Sl.In.below hL (k0.mono hB))
  have HWF := Lib.hid hwf
  clear hW0 k0 b0 s0 hL hwf
  by_cases hl : 1 ≤ L.length ∧ L.length ≤ 4
  · have l1 : decide ((L.length : Int) < 1) = false := decide_eq_false (by omega)
    have l2 : decide (4 < (L.length : Int)) = false := decide_eq_false (by omega)
    go_enter Tryd.func29, Tryd.ntmps29
    go_wp2_with fail
    rw [HW.out]
    go_loopw [3, 4] (fun en i wr => ∃ k : Nat, ∃ E : Bool, k ≤ L.length ∧ i = .int .i64 k ∧ en = .bool E ∧ Hid (E = (L.take k).any (inB e)) ∧ Hid (∀ j, j < k → SegAt L j) ∧ Below (w.heap.size + 1) W0 wr) (fun _ i _ => L.length - (intOf i).toNat)
    case atStart => exact ⟨0, false, Nat.zero_le _, rfl, rfl, rfl, fun j hj => absurd hj (Nat.not_lt_zero _), Below.refl _ _⟩
    case round =>
      obtain ⟨k, E, hk, rfl, rfl, hE, hno, hbw⟩ := hrel
      obtain ⟨x0, x1⟩ := HB0.out.below hbw (by omega)
      by_cases hlt : k < L.length
      · have HR := Lib.hid (Sl.In.below HL.out (hbw.mono (show B ≤ w.heap.size + 1 by omega)))
        obtain ⟨b', off, rfl, hb', c0, c1, c2, c3⟩ := Sgs.sg HR.out hlt
        have ho := HWF.out _ (List.getElem_mem hlt)
        obtain ⟨o0, o1, o2, o3⟩ := ho
        have hs := hbw.size
        have i1 : (0 : Int) ≤ (k : Int) := by omega
        have i2 : (k : Int) < (L.length : Int) := by omega
        have hz : w.heap.size < wr.heap.size := by omega
        have hbz : b' < wr.heap.size := by omega
        by_cases hA : SegA L[k]
        · have hA' := hA
          obtain ⟨q1, q2, ⟨q3, q4⟩, q5, ⟨q6, q7⟩, q8⟩ := hA'
          have e1 : ((L[k]).at_ % 256 != 0) = false := by simpa using q1
          have e5 : ((L[k]).perm % 4 == 3) = false := by simpa using q5
          have e8 : IntKind.u64.wrap ((L[k]).data.size : Int) = (L[k]).data.size := by rw [IntKind.wrap_u64]; omega
          have e9 : IntKind.u64.wrap ((L[k]).at_ + (L[k]).size) = (L[k]).at_ + (L[k]).size := by rw [IntKind.wrap_u64]; omega
          have hbw1 := Lib.hid (hbw.alloc (by omega) (.cells #[.int .u64 (L[k]).at_, .int .i64 (L[k]).perm, .string (L[k]).data, .int .u64 (L[k]).size] 108))
          clear q1 q5
          cases k with
          | zero =>
            have hno' : Hid (∀ j, j < 0 + 1 → SegAt L j) := fun j hj => by
              obtain rfl : j = 0 := by omega
              exact segAt_zero hlt hA ⟨o0, o1, o2, o3⟩
            have g0 : decide ((0 : Int) < ((0 : Nat) : Int)) = false := by decide
            rw [Nat.zero_mul, Nat.add_zero] at c0 c1 c2 c3
            clear hA
            go_wp2_with fail
            go_quiet (fail)
            cases E
            · by_cases d1 : (L[0]).perm % 2 = 1
              · have f1 : ((L[0]).perm % 2 == 1) = true := by simpa using d1
                by_cases d2 : (L[0]).at_ ≤ e
                · have f2 : decide ((L[0]).at_ ≤ e) = true := decide_eq_true d2
                  by_cases d3 : e < (L[0]).at_ + (L[0]).size
                  · have f3 : decide (e < (L[0]).at_ + (L[0]).size) = true := decide_eq_true d3
                    have HIN : Hid (inB e L[0] = true) := decide_eq_true ⟨d1, d2, d3⟩
                    clear d1
                    go_wp2
                    exact ⟨⟨0 + 1, _, hlt, by go_num, rfl, by show _ = _; rw [any_take hlt, ← hE.out, HIN.out]; rfl, hno'.out, below_drewN hbw1.out _⟩, by simp [intOf]; omega⟩
                  · have f3 : decide (e < (L[0]).at_ + (L[0]).size) = false := decide_eq_false d3
                    have HIN : Hid (inB e L[0] = false) := decide_eq_false fun h => d3 h.2.2
                    clear d1
                    go_wp2
                    exact ⟨⟨0 + 1, _, hlt, by go_num, rfl, by show _ = _; rw [any_take hlt, ← hE.out, HIN.out]; rfl, hno'.out, below_drewN hbw1.out _⟩, by simp [intOf]; omega⟩
                · have f2 : decide ((L[0]).at_ ≤ e) = false := decide_eq_false d2
                  have HIN : Hid (inB e L[0] = false) := decide_eq_false fun h => d2 h.2.1
                  clear d1
                  go_wp2
                  exact ⟨⟨0 + 1, _, hlt, by go_num, rfl, by show _ = _; rw [any_take hlt, ← hE.out, HIN.out]; rfl, hno'.out, below_drewN hbw1.out _⟩, by simp [intOf]; omega⟩
              · have f1 : ((L[0]).perm % 2 == 1) = false := by simpa using d1
                have HIN : Hid (inB e L[0] = false) := decide_eq_false fun h => d1 h.1
                clear d1
                go_wp2
                exact ⟨⟨0 + 1, _, hlt, by go_num, rfl, by show _ = _; rw [any_take hlt, ← hE.out, HIN.out]; rfl, hno'.out, below_drewN hbw1.out _⟩, by simp [intOf]; omega⟩
            · go_wp2
              exact ⟨⟨0 + 1, _, hlt, by go_num, rfl, by show _ = _; rw [any_take hlt, ← hE.out]; rfl, hno'.out, below_drewN hbw1.out _⟩, by simp [intOf]; omega⟩
          | succ k' =>
            obtain ⟨b2, off2, hh, hb2, y0, y1, y2, y3⟩ := Sgs.sg HR.out (show k' < L.length by omega)
            obtain ⟨rfl, rfl⟩ : b' = b2 ∧ off = off2 := by simpa using hh
            have hseg := (segAt_iff (show k' < L.length by omega)).1 (hno.out k' (by omega))
            have ho2 := HWF.out _ (List.getElem_mem (show k' < L.length by omega))
            have hbd := endI_bd hseg.1 ho2
            have hbs := behI_succ (show k' < L.length by omega)
            have hsz := hseg.1.2.2.2.2.1
            have hcon := fun W => up_any (L[k']).size W (by omega)
            obtain ⟨P0, hP0⟩ : ∃ P0, pagesI (L[k']).size = P0 := ⟨_, rfl⟩
            have hend : endI L[k'] = (L[k']).at_ + P0 * 256 := by unfold endI; rw [hP0]
            have hP1 : 0 ≤ P0 ∧ P0 ≤ 65 := by rw [← hP0]; unfold pagesI; omega
            rw [hP0] at hcon
            have hat2 := ho2.1
            rw [hend] at hbd hbs
            have g2 : IntKind.u64.wrap ((L[k']).at_ + P0 * 256) = (L[k']).at_ + P0 * 256 := by rw [IntKind.wrap_u64]; omega
            have g3 : decide ((0 : Int) < (k' : Int) + 1) = true := decide_eq_true (by omega)
            have g4 : IntKind.i64.wrap (k' : Int) = k' := IntWalk.i64_in _ (by omega)
            have i3 : (0 : Int) ≤ (k' : Int) := by omega
            have i4 : (k' : Int) < (L.length : Int) := by omega
            have hWK : ∀ (q : Addr) (v : Value), q.block < wr.heap.size → wr.cell? q = some v → (wr.alloc (.cells #[.int .u64 (L[k' + 1]).at_, .int .i64 (L[k' + 1]).perm, .string (L[k' + 1]).data, .int .u64 (L[k' + 1]).size] 108)).cell? q = some v := fun q v hq hv => (((Below.refl wr.heap.size wr).alloc (Nat.le_refl _) _).cell (p := q) hq).trans hv
            have y0' := hWK _ _ hbz y0
            have y3' := hWK _ _ hbz y3
            have HCON := Lib.hid hcon
            have HBS := Lib.hid hbs
            clear hseg hP0 hend hcon hbs hWK y0 y1 y2 y3
            by_cases hlow : (L[k' + 1]).at_ < (L[k']).at_ + P0 * 256
            · have g5 : decide ((L[k' + 1]).at_ < (L[k']).at_ + P0 * 256) = true := decide_eq_true hlow
              have HF := Lib.hid (imayB_bad (e := e) hlt (fun h => by have := ((segAt_iff hlt).1 h).2; have := HBS.out; omega))
              clear hA
              go_wp2_with fail
              go_quiet ((go_at_call 62; exact Calls.quiet_of_same ((HCON.out _).mono fun _ _ h => ⟨h.1, h.2.symm⟩)))
              go_wp2
              go_ret
              rw [HF.out]
              exact ⟨rfl, below_drewN (HK0.out.trans (hbw1.out.mono (by omega))) _⟩
            · have g5 : decide ((L[k' + 1]).at_ < (L[k']).at_ + P0 * 256) = false := decide_eq_false hlow
              have hno' : Hid (∀ j, j < k' + 1 + 1 → SegAt L j) := fun j hj => by
                by_cases ej : j = k' + 1
                · subst ej; exact (segAt_iff hlt).2 ⟨hA, by have := HBS.out; omega⟩
                · exact hno.out j (by omega)
              clear hA
              go_wp2_with fail
              go_quiet ((go_at_call 62; exact Calls.quiet_of_same ((HCON.out _).mono fun _ _ h => ⟨h.1, h.2.symm⟩)))
              cases E
              · by_cases d1 : (L[k' + 1]).perm % 2 = 1
                · have f1 : ((L[k' + 1]).perm % 2 == 1) = true := by simpa using d1
                  by_cases d2 : (L[k' + 1]).at_ ≤ e
                  · have f2 : decide ((L[k' + 1]).at_ ≤ e) = true := decide_eq_true d2
                    by_cases d3 : e < (L[k' + 1]).at_ + (L[k' + 1]).size
                    · have f3 : decide (e < (L[k' + 1]).at_ + (L[k' + 1]).size) = true := decide_eq_true d3
                      have HIN : Hid (inB e L[k' + 1] = true) := decide_eq_true ⟨d1, d2, d3⟩
                      clear d1
                      go_wp2
                      exact ⟨⟨k' + 1 + 1, _, hlt, by go_num, rfl, by show _ = _; rw [any_take hlt, ← hE.out, HIN.out]; rfl, hno'.out, below_drewN hbw1.out _⟩, by simp [intOf]; omega⟩
                    · have f3 : decide (e < (L[k' + 1]).at_ + (L[k' + 1]).size) = false := decide_eq_false d3
                      have HIN : Hid (inB e L[k' + 1] = false) := decide_eq_false fun h => d3 h.2.2
                      clear d1
                      go_wp2
                      exact ⟨⟨k' + 1 + 1, _, hlt, by go_num, rfl, by show _ = _; rw [any_take hlt, ← hE.out, HIN.out]; rfl, hno'.out, below_drewN hbw1.out _⟩, by simp [intOf]; omega⟩
                  · have f2 : decide ((L[k' + 1]).at_ ≤ e) = false := decide_eq_false d2
                    have HIN : Hid (inB e L[k' + 1] = false) := decide_eq_false fun h => d2 h.2.1
                    clear d1
                    go_wp2
                    exact ⟨⟨k' + 1 + 1, _, hlt, by go_num, rfl, by show _ = _; rw [any_take hlt, ← hE.out, HIN.out]; rfl, hno'.out, below_drewN hbw1.out _⟩, by simp [intOf]; omega⟩
                · have f1 : ((L[k' + 1]).perm % 2 == 1) = false := by simpa using d1
                  have HIN : Hid (inB e L[k' + 1] = false) := decide_eq_false fun h => d1 h.1
                  clear d1
                  go_wp2
                  exact ⟨⟨k' + 1 + 1, _, hlt, by go_num, rfl, by show _ = _; rw [any_take hlt, ← hE.out, HIN.out]; rfl, hno'.out, below_drewN hbw1.out _⟩, by simp [intOf]; omega⟩
              · go_wp2
                exact ⟨⟨k' + 1 + 1, _, hlt, by go_num, rfl, by show _ = _; rw [any_take hlt, ← hE.out]; rfl, hno'.out, below_drewN hbw1.out _⟩, by simp [intOf]; omega⟩
        · have HF := Lib.hid (imayB_bad (e := e) hlt (fun h => hA ((segAt_iff hlt).1 h).1))
          have hw := segA_ways hA
          have hbw1 := Lib.hid (hbw.alloc (by omega) (.cells #[.int .u64 (L[k]).at_, .int .i64 (L[k]).perm, .string (L[k]).data, .int .u64 (L[k]).size] 108))
          clear hA
          rcases hw with z1 | ⟨z1, z2 | ⟨z2, z4 | ⟨z4, z5 | ⟨z5, z6 | ⟨z6, z7 | ⟨z7, z8 | ⟨z8, z9⟩⟩⟩⟩⟩⟩⟩
          · skip
            have e1 : ((L[k]).at_ % 256 != 0) = true := by simpa using z1
            clear z1
            go_wp2
            go_ret
            rw [HF.out]
            exact ⟨rfl, HK0.out.trans (hbw1.out.mono (by omega))⟩
          · skip
            have e1 : ((L[k]).at_ % 256 != 0) = false := by simpa using z1
            clear z1
            go_wp2
            go_ret
            rw [HF.out]
            exact ⟨rfl, HK0.out.trans (hbw1.out.mono (by omega))⟩
          · skip
            have e1 : ((L[k]).at_ % 256 != 0) = false := by simpa using z1
            clear z1
            go_wp2
            go_ret
            rw [HF.out]
            exact ⟨rfl, HK0.out.trans (hbw1.out.mono (by omega))⟩
          · skip
            have e1 : ((L[k]).at_ % 256 != 0) = false := by simpa using z1
            clear z1
            go_wp2
            go_ret
            rw [HF.out]
            exact ⟨rfl, HK0.out.trans (hbw1.out.mono (by omega))⟩
          · skip
            have e1 : ((L[k]).at_ % 256 != 0) = false := by simpa using z1
            have e5 : ((L[k]).perm % 4 == 3) = true := by simpa using z6
            clear z1 z6
            go_wp2
            go_ret
            rw [HF.out]
            exact ⟨rfl, HK0.out.trans (hbw1.out.mono (by omega))⟩
          · skip
            have e1 : ((L[k]).at_ % 256 != 0) = false := by simpa using z1
            have e5 : ((L[k]).perm % 4 == 3) = false := by simpa using z6
            have e6 : decide ((L[k]).size < 1) = true := decide_eq_true z7
            clear z1 z6
            go_wp2
            go_ret
            rw [HF.out]
            exact ⟨rfl, HK0.out.trans (hbw1.out.mono (by omega))⟩
          · skip
            have e1 : ((L[k]).at_ % 256 != 0) = false := by simpa using z1
            have e5 : ((L[k]).perm % 4 == 3) = false := by simpa using z6
            clear z1 z6
            go_wp2
            go_ret
            rw [HF.out]
            exact ⟨rfl, HK0.out.trans (hbw1.out.mono (by omega))⟩
          · skip
            have e1 : ((L[k]).at_ % 256 != 0) = false := by simpa using z1
            have e5 : ((L[k]).perm % 4 == 3) = false := by simpa using z6
            have e8 : IntKind.u64.wrap ((L[k]).data.size : Int) = (L[k]).data.size := by rw [IntKind.wrap_u64]; omega
            clear z1 z6
            go_wp2
            go_ret
            rw [HF.out]
            exact ⟨rfl, HK0.out.trans (hbw1.out.mono (by omega))⟩
      · obtain rfl : k = L.length := by omega
        have hT := imayB_all (e := e) hl hno.out
        have hE' := hE.out
        rw [List.take_length] at hE'
        have HT := Lib.hid (hT.trans hE'.symm)
        clear hT hE'
        go_wp2
        go_ret
        rw [HT.out]
        exact ⟨rfl, HK0.out.trans (hbw.mono (by omega))⟩
  · have HF := Lib.hid (imayB_len (e := e) hl)
    by_cases l1 : L.length < 1
    · have l1' : decide ((L.length : Int) < 1) = true := decide_eq_true (by omega)
      go_enter Tryd.func29, Tryd.ntmps29
      go_wp2
      rw [HW.out]
      go_ret
      rw [HF.out]
      exact ⟨rfl, HK0.out⟩
    · have l1' : decide ((L.length : Int) < 1) = false := decide_eq_false (by omega)
      have l2' : decide (4 < (L.length : Int)) = true := decide_eq_true (by omega)
      go_enter Tryd.func29, Tryd.ntmps29
      go_wp2
      rw [HW.out]
      go_ret
      rw [HF.out]
      exact ⟨rfl, HK0.out⟩
end Go.Proofs.YtajhehmkdlebbaaDoor
