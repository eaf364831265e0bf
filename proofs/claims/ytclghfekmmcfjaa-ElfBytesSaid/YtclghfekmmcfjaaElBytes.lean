/- ElfBytes: each byte of a segment stands in memory at its place, and noughts behind, up to its Size: the walk. -/
import Derived.Test.YtclghfekmmcfjaaElLoad
import Derived.Test.YtclghfekmmcfjaaElShown
import Derived.Test.YtclghfekmmcfjaaElLaw
import Derived.Test.YtclghfekmmcfjaaPgLoad2
import Derived.BigQuiet
import Derived.Deep.QuietTactic
import Derived.OrdersHeld
namespace Go.Proofs.Ytclghfekmmcfjaa
open Go.ChangeShapes Go.WideShapes Go.ChangeAt Go.RowKit Go.Deep Go.Maps Go.WideMaps
set_option maxRecDepth 100000
attribute [-go_sem] loadVar storeVar
theorem eb_byte {s : ByteArray} {k : Nat} (hk : k < s.size) : (byteI s k == IntKind.u64.wrap (s[k]).toNat) = true := by
  have h := (s[k]).toNat_lt
  rw [IntKind.wrap_u64, Int.emod_eq_of_lt (by omega) (by omega)]
  unfold byteI
  rw [Array.getElem?_eq_getElem (show k < s.data.size from hk)]
  exact beq_self_eq_true _
set_option maxHeartbeats 2000000 in
theorem ebytes_any {A : Option Addr} {cap : Nat} {L : List Sg} {w : World} {e i k : Int} (he : 0 ≤ e ∧ e ≤ 18446744073709551615) (hG : SgG w A cap L) (hi : -9223372036854775808 ≤ i ∧ i ≤ 9223372036854775807) (hk : -9223372036854775808 ≤ k ∧ k ≤ 9223372036854775807) :
    Calls Try.prog 8 #[.agg #[.int .u64 e, .slice A L.length cap], .int .i64 i, .int .i64 k] w fun r w' => r = .returned (.bool true) ∧ Below w.heap.size w w' := by
  obtain ⟨hL, _, hwf, hlen⟩ := hG
  obtain ⟨W0, hW0⟩ : ∃ W0, w.alloc (.cells #[.int .u64 e, .slice A L.length cap] 25) = W0 := ⟨_, rfl⟩
  have k0 : Below w.heap.size w W0 := by subst hW0; exact (Below.refl _ _).alloc (Nat.le_refl _) _
  have b0 : Box2 W0 w.heap.size e (.slice A L.length cap) := by
    subst hW0
    refine ⟨?_, ?_⟩ <;> simp [go_sem]
  have z0 : W0.heap.size = w.heap.size + 1 := by subst hW0; simp
  have HB0 := Lib.hid k0
  have HI0 := Lib.hid b0
  have HWF := Lib.hid hwf
  have HL := Lib.hid hL
  clear hwf k0 b0 hL
  go_enter Try.func8, Try.ntmps8
  go_wp2_with fail
  refine (ishown_any _).mono ?_
  rintro r w1 ⟨rfl, hb1⟩
  have HB1 := Lib.hid (HB0.out.trans (hb1.mono HB0.out.size))
  have HI1 := Lib.hid (HI0.out.below hb1 (by omega))
  have s1 := hb1.size
  clear hb1
  obtain ⟨c0, c1⟩ := HI1.out
  go_wp2_with fail
  refine (iload_any e ByteArray.empty he (Sl.In.below HL.out HB1.out) (by omega) HWF.out hlen).mono ?_
  rintro r w2 ⟨A2, d2, rfl, hb2, hM2, hn2⟩
  obtain ⟨R, hR⟩ : ∃ R, R = (imMc e L ByteArray.empty).home A2 d2 := ⟨_, rfl⟩
  rw [← hR]
  have hlR : R.x.length = 32 := by rw [hR]; exact imMc_len e L ByteArray.empty
  have HB2 := Lib.hid (HB1.out.trans (hb2.mono HB1.out.size))
  have HI2 := Lib.hid (HI1.out.below hb2 (by omega))
  have HM2 := Lib.hid hM2
  have HR := Lib.hid hR
  have s2 := hb2.size
  obtain ⟨W3, h3, s3, x3, b3, _⟩ := mach_more w2
  obtain ⟨W4, h4, x4, s4, b4, _⟩ := x3.lay rfl R hlR
  have HB4 := Lib.hid ((HB2.out.trans (b3.mono HB2.out.size)).trans (b4.mono HB2.out.size))
  have HX4 := Lib.hid x4
  have HI4 := Lib.hid ((HI2.out.below b3 (by omega)).below b4 (by omega))
  have HM4 := Lib.hid (show Mem W4 w2.heap.size A2 d2 (imMc e L ByteArray.empty).mem from Sl.In.below hM2 (b3.trans b4))
  clear c0 c1 hb2 hM2 hn2 hR x3 b3 x4 b4
  obtain ⟨c0, c1⟩ := HI4.out
  obtain ⟨E, hE⟩ : ∃ E, E = imE e L := ⟨_, rfl⟩
  rw [← hE]
  by_cases hE0 : E = 0
  rotate_left
  · have g : (E != 0) = true := by simpa using hE0
    clear hE hE0
    go_wp2
    go_ret
    exact ⟨rfl, HB4.out⟩
  subst hE0
  have hE' : imE e L = 0 := hE.symm
  clear hE
  by_cases hi0 : i < 0
  · have g : decide (i < 0) = true := decide_eq_true hi0
    go_wp2
    go_ret
    exact ⟨rfl, HB4.out⟩
  have g0 : decide (i < 0) = false := decide_eq_false hi0
  obtain ⟨i, rfl⟩ := Int.eq_ofNat_of_zero_le (Int.not_lt.1 hi0)
  by_cases hil : L.length ≤ i
  · have g : ((L.length : Nat) : Int) ≤ (i : Int) := by omega
    go_wp2
    go_ret
    exact ⟨rfl, HB4.out⟩
  have hlt : i < L.length := by omega
  have g1 : ¬ ((L.length : Nat) : Int) ≤ (i : Int) := by omega
  by_cases hk0 : k < 0
  · have g : decide (k < 0) = true := decide_eq_true hk0
    go_wp2
    go_ret
    exact ⟨rfl, HB4.out⟩
  have g2 : decide (k < 0) = false := decide_eq_false hk0
  obtain ⟨k, rfl⟩ := Int.eq_ofNat_of_zero_le (Int.not_lt.1 hk0)
  have g3 : IntKind.u64.wrap (k : Int) = k := by rw [IntKind.wrap_u64]; omega
  have i1 : (0 : Int) ≤ (i : Int) := by omega
  have i2 : (i : Int) < (L.length : Int) := by omega
  obtain ⟨b, off, rfl, hb, d0, d1, d2', d3⟩ := Sgs.sg (Sl.In.below HL.out HB4.out) hlt
  by_cases hks : (L[i]).size ≤ (k : Int)
  · go_wp2
    go_ret
    exact ⟨rfl, HB4.out⟩
  have g4 : ¬ (L[i]).size ≤ (k : Int) := hks
  obtain ⟨V, hV⟩ : ∃ V : Int, V = if k < (L[i]).data.size then byteI (L[i]).data k else 0 := ⟨_, rfl⟩
  have HV := Lib.hid hV
  obtain ⟨HE1, HV1⟩ : Hid (loadE (ldM L L.length) ((L[i]).at_ + (k : Int)) 1 0 = 0) ∧ Hid (loadV (ldM L L.length) ((L[i]).at_ + (k : Int)) 1 0 = V) := hV ▸ imE_byte (k := k) hE' HWF.out hlt (by omega)
  clear hV
  have hMM := imMc_mem (inp := ByteArray.empty) hE'
  have HMD := Lib.hid (show Mem W4.drew W4.drew.heap.size A2 d2 (ldM L L.length) from hMM ▸ (Sl.In.below (w := W4) (w' := W4.drew) HM4.out ((Below.refl w2.heap.size W4).drew)).more (by show w2.heap.size ≤ W4.heap.size; omega))
  have hRm : R.mem.length = (ldM L L.length).length ∧ R.a = A2 ∧ R.cap = d2 := by rw [HR.out, ← hMM]; exact ⟨rfl, rfl, rfl⟩
  obtain ⟨hR1, hR2, hR3⟩ := hRm
  have hq := (imE_segs hE').at_ hlt
  obtain ⟨q1, q2, q3, q4, q5, q6⟩ := hq
  have p0 := (HWF.out _ (List.getElem_mem hlt)).1
  have p2 : (L[i]).at_ + (k : Int) ≤ 18446744073709551615 := by omega
  have e1 : IntKind.u64.wrap ((L[i]).at_ + (k : Int)) = (L[i]).at_ + k := by rw [IntKind.wrap_u64]; omega
  have hz : w.heap.size < W4.heap.size := by omega
  have hzb : b < W4.heap.size := by omega
  have HC : Hid (MB W4.drew w2.heap.size R ∧ W4.drew.cell? ⟨w.heap.size, 1, none⟩ = some (.slice (some ⟨b, off, none⟩) L.length cap) ∧ W4.drew.cell? ⟨b, off + i * 4, none⟩ = some (.int .u64 (L[i]).at_) ∧ W4.drew.cell? ⟨b, off + i * 4 + 2, none⟩ = some (.string (L[i]).data)) := ⟨HX4.out.drew 1, c1, d0, d2'⟩
  have HBD := Lib.hid HB4.out.drew
  have HLM := Lib.hid (show (ldM L L.length).length ≤ 140737488351232 by have := (ldM_right L L.length).1; omega)
  have HOKS := Lib.hid (ldM_ok HWF.out L.length)
  clear hMM c0 hE' d0 d1 d2' q1 q3 q4 q5 q6 hi hk hi0 hk0
  go_wp2_with fail
  clear c1 d3
  refine wp_region_noPanic ?_
  refine wp_region_held_drew (S := fun w' => MB w' w2.heap.size R ∧ w'.cell? ⟨w.heap.size, 1, none⟩ = some (.slice (some ⟨b, off, none⟩) L.length cap) ∧ w'.cell? ⟨b, off + i * 4, none⟩ = some (.int .u64 (L[i]).at_) ∧ w'.cell? ⟨b, off + i * 4 + 2, none⟩ = some (.string (L[i]).data)) (by kernel_rfl) HC.out (fun hHeld => ?_)
  refine takeH (i := 0) (d := some 48) (v := ?_) rfl (by kernel_rfl) (by kernel_rfl) (by kernel_rfl) (fun _ _ _ h => h) rfl (Or.inl ⟨by rfl, ?_⟩) hHeld ?_
  rotate_left
  · intro w' hSw; go_simp; (try with_reducible rfl)
  (try simp only [Act.put, List.setIfInBounds_toArray, List.set_cons_zero, List.set_cons_succ])
  refine takeH (i := 1) (d := some 49) (v := ?_) rfl (by kernel_rfl) (by kernel_rfl) (by kernel_rfl) (fun _ _ _ h => h) rfl (Or.inl ⟨by rfl, ?_⟩) hHeld ?_
  rotate_left
  · intro w' hSw; obtain ⟨hm, c1, d0, d2'⟩ := hSw; have q : w'.cell? ⟨w2.heap.size, 33, none⟩ = some (.slice A2 (ldM L L.length).length d2) := by have := (hm.tail hlR).2.1; rw [hR1, hR2, hR3] at this; exact this
    go_simp; (try with_reducible rfl)
  (try simp only [Act.put, List.setIfInBounds_toArray, List.set_cons_zero, List.set_cons_succ])
  refine takeH (i := 2) (d := some 50) (v := ?_) rfl (by kernel_rfl) (by kernel_rfl) (by kernel_rfl) (fun _ _ _ h => h) rfl (Or.inl ⟨by rfl, ?_⟩) hHeld ?_
  rotate_left
  · intro w' hSw; go_simp; (try with_reducible rfl)
  (try simp only [Act.put, List.setIfInBounds_toArray, List.set_cons_zero, List.set_cons_succ])
  refine takeH (i := 3) (d := some 51) (v := ?_) rfl (by kernel_rfl) (by kernel_rfl) (by kernel_rfl) (fun _ _ _ h => h) rfl (Or.inl ⟨by rfl, ?_⟩) hHeld ?_
  rotate_left
  · intro w' hSw; obtain ⟨hm, c1, d0, d2'⟩ := hSw; have q : w'.cell? ⟨w2.heap.size, 33, none⟩ = some (.slice A2 (ldM L L.length).length d2) := by have := (hm.tail hlR).2.1; rw [hR1, hR2, hR3] at this; exact this
    go_simp; (try with_reducible rfl)
  (try simp only [Act.put, List.setIfInBounds_toArray, List.set_cons_zero, List.set_cons_succ])
  refine takeH (i := 4) (d := some 52) (v := ?_) rfl (by kernel_rfl) (by kernel_rfl) (by kernel_rfl) (fun _ _ _ h => h) rfl (Or.inl ⟨by rfl, ?_⟩) hHeld ?_
  rotate_left
  · intro w' hSw; go_simp; (try with_reducible rfl)
  (try simp only [Act.put, List.setIfInBounds_toArray, List.set_cons_zero, List.set_cons_succ])
  refine takeH (i := 5) (d := some 53) (v := ?_) rfl (by kernel_rfl) (by kernel_rfl) (by kernel_rfl) (fun _ _ _ h => h) rfl (Or.inl ⟨by rfl, ?_⟩) hHeld ?_
  rotate_left
  · intro w' hSw; obtain ⟨hm, c1, d0, d2'⟩ := hSw; have q : w'.cell? ⟨w2.heap.size, 33, none⟩ = some (.slice A2 (ldM L L.length).length d2) := by have := (hm.tail hlR).2.1; rw [hR1, hR2, hR3] at this; exact this
    go_simp; (try with_reducible rfl)
  (try simp only [Act.put, List.setIfInBounds_toArray, List.set_cons_zero, List.set_cons_succ])
  refine takeH (i := 6) (d := some 54) (v := ?_) rfl (by kernel_rfl) (by kernel_rfl) (by kernel_rfl) (fun _ _ _ h => h) rfl (Or.inl ⟨by rfl, ?_⟩) hHeld ?_
  rotate_left
  · intro w' hSw; go_simp; (try with_reducible rfl)
  (try simp only [Act.put, List.setIfInBounds_toArray, List.set_cons_zero, List.set_cons_succ])
  refine takeH (i := 7) (d := some 55) (v := ?_) rfl (by kernel_rfl) (by kernel_rfl) (by kernel_rfl) (fun _ _ _ h => h) rfl (Or.inl ⟨by rfl, ?_⟩) hHeld ?_
  rotate_left
  · intro w' hSw; obtain ⟨hm, c1, d0, d2'⟩ := hSw; have q : w'.cell? ⟨w2.heap.size, 33, none⟩ = some (.slice A2 (ldM L L.length).length d2) := by have := (hm.tail hlR).2.1; rw [hR1, hR2, hR3] at this; exact this
    go_simp; (try with_reducible rfl)
  (try simp only [Act.put, List.setIfInBounds_toArray, List.set_cons_zero, List.set_cons_succ])
  refine takeH (i := 8) (d := some 56) (v := ?_) rfl (by kernel_rfl) (by kernel_rfl) (by kernel_rfl) (fun _ _ _ h => h) rfl (Or.inl ⟨by rfl, ?_⟩) hHeld ?_
  rotate_left
  · intro w' hSw; go_simp; (try with_reducible rfl)
  (try simp only [Act.put, List.setIfInBounds_toArray, List.set_cons_zero, List.set_cons_succ])
  refine takeH (i := 9) (d := some 57) (v := ?_) rfl (by kernel_rfl) (by kernel_rfl) (by kernel_rfl) (fun _ _ _ h => h) rfl (Or.inl ⟨by rfl, ?_⟩) hHeld ?_
  rotate_left
  · intro w' hSw; go_simp; (try with_reducible rfl)
  (try simp only [Act.put, List.setIfInBounds_toArray, List.set_cons_zero, List.set_cons_succ])
  refine takeH (i := 10) (d := some 58) (v := .int .u64 ((L[i]).at_ + (k : Int))) rfl (by kernel_rfl) (by kernel_rfl) (by kernel_rfl) (fun _ _ _ h => h) rfl (Or.inl ⟨by rfl, ?_⟩) hHeld ?_
  · intro w' hSw; go_simp
  (try simp only [Act.put, List.setIfInBounds_toArray, List.set_cons_zero, List.set_cons_succ])
  refine wpAnyH_ready (rs := [11]) (by kernel_rfl) (by simp) ?_
  refine AllReadyH.cons rfl (fun K hK => ?_) AllReadyH.nil
  go_simp
  go_at_call 26
  with_reducible refine (rload_any (L := ldM L L.length) ((L[i]).at_ + (k : Int)) 1 0 ⟨by omega, p2⟩ (by decide) HMD.out (Nat.le_refl _) HOKS.out HLM.out).mono ?_
  rintro e w5 ⟨rfl, hb5⟩
  have HB5 := Lib.hid (HBD.out.trans (hb5.mono HBD.out.size))
  have HS5 := Lib.hid (And.intro (hHeld.1.below hb5 hHeld.1.lt) (And.intro ((hb5.cell (p := ⟨w.heap.size, 1, none⟩) hz).trans hHeld.2.1) (And.intro ((hb5.cell (p := ⟨b, off + i * 4, none⟩) hzb).trans hHeld.2.2.1) ((hb5.cell (p := ⟨b, off + i * 4 + 2, none⟩) hzb).trans hHeld.2.2.2))))
  rw [HE1.out, HV1.out]
  clear hb5
  go_wp2_with fail
  refine hK.out _ _ HS5.out (fun hHeld => ?_)
  clear hK K
  (try simp only [Act.put, List.setIfInBounds_toArray, List.set_cons_zero, List.set_cons_succ])
  refine takeH (i := 12) (d := some 47) (v := ?_) rfl (by kernel_rfl) (by kernel_rfl) (by kernel_rfl) (fun _ _ _ h => h) rfl (Or.inl ⟨by rfl, ?_⟩) hHeld ?_
  rotate_left
  · intro w' hSw; go_simp; (try with_reducible rfl)
  (try simp only [Act.put, List.setIfInBounds_toArray, List.set_cons_zero, List.set_cons_succ])
  refine takeH (i := 13) (d := some 60) (v := ?_) rfl (by kernel_rfl) (by kernel_rfl) (by kernel_rfl) (fun _ _ _ h => h) rfl (Or.inl ⟨by rfl, ?_⟩) hHeld ?_
  rotate_left
  · intro w' hSw; go_simp; (try with_reducible rfl)
  (try simp only [Act.put, List.setIfInBounds_toArray, List.set_cons_zero, List.set_cons_succ])
  refine takeH (i := 14) (d := some 61) (v := ?_) rfl (by kernel_rfl) (by kernel_rfl) (by kernel_rfl) (fun _ _ _ h => h) rfl (Or.inl ⟨by rfl, ?_⟩) hHeld ?_
  rotate_left
  · intro w' hSw; go_simp; (try with_reducible rfl)
  (try simp only [Act.put, List.setIfInBounds_toArray, List.set_cons_zero, List.set_cons_succ])
  refine takeH (i := 15) (d := some 10) (v := ?_) rfl (by kernel_rfl) (by kernel_rfl) (by kernel_rfl) (fun _ _ _ h => h) rfl (Or.inl ⟨by rfl, ?_⟩) hHeld ?_
  rotate_left
  · intro w' hSw; go_simp; (try with_reducible rfl)
  (try simp only [Act.put, List.setIfInBounds_toArray, List.set_cons_zero, List.set_cons_succ])
  refine takeH (i := 16) (d := some 11) (v := ?_) rfl (by kernel_rfl) (by kernel_rfl) (by kernel_rfl) (fun _ _ _ h => h) rfl (Or.inl ⟨by rfl, ?_⟩) hHeld ?_
  rotate_left
  · intro w' hSw; go_simp; (try with_reducible rfl)
  (try simp only [Act.put, List.setIfInBounds_toArray, List.set_cons_zero, List.set_cons_succ])
  refine wpAnyH_done (by kernel_rfl) ?_ _
  refine NoPanic.normal ?_
  obtain ⟨-, c1, -, d2'⟩ := HS5.out
  by_cases hkd : k < (L[i]).data.size
  · have hkd' : (k : Int) < ((L[i]).data.size : Int) := by omega
    have hV := HV.out
    rw [if_pos hkd] at hV
    rw [hV]
    clear hV HV HV1
    go_wp2
    go_ret
    exact ⟨ret_bool (a := byteI (L[i]).data k == IntKind.u64.wrap ((L[i]).data[k]).toNat) (eb_byte hkd), HB5.out⟩
  · have hkd' : ¬ (k : Int) < ((L[i]).data.size : Int) := by omega
    have hV := HV.out
    rw [if_neg hkd] at hV
    rw [hV]
    clear hV HV HV1
    go_wp2
    go_ret
    exact ⟨rfl, HB5.out⟩
end Go.Proofs.Ytclghfekmmcfjaa
