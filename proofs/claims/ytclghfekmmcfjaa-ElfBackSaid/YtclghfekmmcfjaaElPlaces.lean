/- ElfPlaces: in an image that may be segments stand apart, at multiples of a page, none of them both written and holding instructions: the walk. -/
import Derived.Test.YtclghfekmmcfjaaElShown
namespace Go.Proofs.Ytclghfekmmcfjaa
open Go.ChangeShapes Go.WideShapes Go.ChangeAt Go.RowKit Go.Deep Go.Shelf
set_option maxRecDepth 100000
theorem imay_seg {e : Int} {l : List Sg} (h : IMayP e l) {k : Nat} (hk : k < l.length) : SegA l[k] ∧ behI l k ≤ (l[k]).at_ := h.2.1 k hk _ (List.getElem?_eq_getElem hk)
theorem imay_apart {e : Int} {l : List Sg} (h : IMayP e l) : ∀ {i : Nat} {k : Nat} (hki : k < i) (hi : i < l.length), (l[k]).at_ + (l[k]).size ≤ (l[i]).at_
  | 0, k, hki, _ => absurd hki (Nat.not_lt_zero _)
  | i + 1, k, hki, hi => by
    have hil : i < l.length := by omega
    have h1 := (imay_seg h hi).2
    rw [behI_succ hil] at h1
    have h2 := (imay_seg h hil).1.2.2.2.2.1
    have h3 : (l[i]).at_ + (l[i]).size ≤ endI l[i] := by unfold endI pagesI; omega
    by_cases e : k = i
    · subst e; omega
    · have := imay_apart h (show k < i by omega) hil
      omega
set_option maxHeartbeats 2000000 in
theorem eplaces_any {A : Option Addr} {cap : Nat} {L : List Sg} {w : World} {e : Int} (he : 0 ≤ e ∧ e ≤ 18446744073709551615) (hG : SgG w A cap L) :
    Calls Try.prog 3 #[.agg #[.int .u64 e, .slice A L.length cap]] w fun e' w' => e' = .returned (.bool true) ∧ Below w.heap.size w w' := by
  obtain ⟨hL, _, hwf, hlen⟩ := hG
  obtain ⟨W0, hW0⟩ : ∃ W0, w.alloc (.cells #[.int .u64 e, .slice A L.length cap] 25) = W0 := ⟨_, rfl⟩
  have k0 : Below w.heap.size w W0 := by subst hW0; exact (Below.refl _ _).alloc (Nat.le_refl _) _
  have b0 : Box2 W0 w.heap.size e (.slice A L.length cap) := by
    subst hW0
    refine ⟨?_, ?_⟩ <;> simp [go_sem]
  have s0 : W0.heap.size = w.heap.size + 1 := by subst hW0; simp
  have HW0 := Lib.hid hW0
  have HK0 := Lib.hid k0
  have HB0 := Lib.hid b0
  have HS0 := Lib.hid s0
  have HL0 := Lib.hid (Sl.In.below hL k0)
  have HWF := Lib.hid hwf
  have hz0 : w.heap.size < W0.heap.size := by omega
  clear hW0 k0 b0 s0 hL hwf
  go_enter Try.func3, Try.ntmps3
  go_wp2_with fail
  rw [HW0.out]
  refine (ishown_any W0).mono ?_
  rintro e' w1 ⟨rfl, hb1⟩
  have HB1 := Lib.hid hb1
  have hz1 : w.heap.size < w1.heap.size := Nat.lt_of_lt_of_le hz0 hb1.size
  obtain ⟨d0, d1⟩ := HB0.out.below hb1 hz0
  have HL1 := Lib.hid (Sl.In.below HL0.out (hb1.mono (Nat.le_of_lt hz0)))
  clear hb1
  go_wp2_with fail
  refine (imay_any e he HL1.out (Nat.le_of_lt hz1) HWF.out hlen).mono ?_
  rintro e' w2 ⟨rfl, hb2⟩
  have HB2 := Lib.hid (HB1.out.trans (hb2.mono HB1.out.size))
  clear hb2 d0 d1
  cases hm : imayB e L with
  | false =>
    have hfin := HK0.out.trans (HB2.out.mono (Nat.le_of_lt hz0))
    go_wp2
    go_ret
    exact ⟨rfl, hfin⟩
  | true =>
    have hP := imayB_out hm
    have hl1 := hP.1.1
    have hl4 := hP.1.2
    have HP := Lib.hid hP
    obtain ⟨d0, d1⟩ := HB0.out.below HB2.out hz0
    have hz2 : w.heap.size < w2.heap.size := Nat.lt_of_lt_of_le hz0 HB2.out.size
    clear hm hP
    go_wp2
    go_loopw [4] (fun i wr => ∃ k : Nat, k ≤ L.length ∧ i = .int .i64 k ∧ Hid (Below W0.heap.size W0 wr)) (fun i _ => L.length - (intOf i).toNat)
    case atStart => exact ⟨0, Nat.zero_le _, rfl, HB2.out⟩
    case round =>
      clear d0 d1
      obtain ⟨k, hk, rfl, hbw⟩ := hrel
      obtain ⟨d0, d1⟩ := HB0.out.below hbw.out hz0
      by_cases hlt : k < L.length
      · obtain ⟨b', off, rfl, hb', c0, c1, c2, c3⟩ := Sgs.sg (Sl.In.below HL0.out (hbw.out.mono (Nat.le_of_lt hz0))) hlt
        obtain ⟨q1, q2, q3, q4, q5, q6⟩ := (imay_seg HP.out hlt).1
        have HAP : Hid (∀ j (hj : j < k), (L[j]'(by omega)).at_ + (L[j]'(by omega)).size ≤ (L[k]).at_) := fun j hj => imay_apart HP.out hj hlt
        have ho := HWF.out _ (List.getElem_mem hlt)
        obtain ⟨s, hs⟩ : ∃ s, L[k] = s := ⟨_, rfl⟩
        rw [hs] at c0 c1 c2 c3 q1 q2 q3 q4 q5 q6 HAP ho
        obtain ⟨o0, o1, o2, o3⟩ := ho
        have i1 : (0 : Int) ≤ (k : Int) := by omega
        have i2 : (k : Int) < (L.length : Int) := by omega
        obtain ⟨W2, hW2⟩ : ∃ W2, wr.alloc (.cells #[.int .u64 s.at_, .int .i64 s.perm, .string s.data, .int .u64 s.size] 29) = W2 := ⟨_, rfl⟩
        have a0 : W2.cell? ⟨wr.heap.size, 0, none⟩ = some (.int .u64 s.at_) := by subst hW2; simp [go_sem]
        have a1 : W2.cell? ⟨wr.heap.size, 1, none⟩ = some (.int .i64 s.perm) := by subst hW2; simp [go_sem]
        have hb2 : Hid (Below W0.heap.size W0 W2) := by subst hW2; exact hbw.out.alloc hbw.out.size _
        have hzw : W0.heap.size ≤ wr.heap.size := hbw.out.size
        have hz2' : wr.heap.size < W2.heap.size := by subst hW2; simp
        have HW2 := Lib.hid hW2
        have g1 : (s.at_ % 256 != 0) = false := by rw [q1]; rfl
        have g2 : (s.perm % 4 == 3) = false := by simpa using q4
        clear hs hW2 hbw q1 q4
        go_wp2
        rw [HW2.out]
        obtain ⟨wo, rfl⟩ : ∃ wo, wo = wr := ⟨_, rfl⟩
        clear c0 c1 c2 c3 d0 d1
        go_loopw [6] (fun i wr => ∃ j : Nat, j ≤ k ∧ i = .int .i64 j ∧ Hid (Below W2.heap.size W2 wr)) (fun i _ => k - (intOf i).toNat)
        case atStart => exact ⟨0, Nat.zero_le _, rfl, Below.refl _ _⟩
        case round =>
          obtain ⟨j, hj, rfl, hbq⟩ := hrel
          have hbz : Hid (Below W0.heap.size W0 wr) := hb2.out.trans (hbq.out.mono hb2.out.size)
          by_cases hjk : j < k
          · have hjl : j < L.length := by omega
            obtain ⟨d0, d1⟩ := HB0.out.below hbz.out hz0
            have e0 := (hbq.out.cell (p := ⟨wo.heap.size, 0, none⟩) hz2').trans a0
            obtain ⟨b2, off2, hA2, hb2', c0, c1, c2, c3⟩ := Sgs.sg (Sl.In.below HL0.out (hbz.out.mono (Nat.le_of_lt hz0))) hjl
            obtain ⟨rfl, rfl⟩ : b' = b2 ∧ off = off2 := by simpa using hA2
            have hap := HAP.out j hjk
            obtain ⟨p1, p2⟩ := (imay_seg HP.out hjl).1.2.2.2.2.1
            have p0 := (HWF.out _ (List.getElem_mem hjl)).1
            obtain ⟨t, ht⟩ : ∃ t, L[j] = t := ⟨_, rfl⟩
            rw [ht] at c0 c1 c2 c3 hap p1 p2 p0
            have j1 : (0 : Int) ≤ (j : Int) := by omega
            have j2 : (j : Int) < (L.length : Int) := by omega
            have j3 : (j : Int) < (k : Int) := by omega
            have e1 : IntKind.u64.wrap (t.at_ + t.size) = t.at_ + t.size := by rw [IntKind.wrap_u64]; omega
            have e2 : decide (s.at_ < t.at_ + t.size) = false := decide_eq_false (by omega)
            clear ht hap hA2
            go_wp2
            go_quiet (fail)
            go_wp2
            exact ⟨⟨j + 1, hjk, by go_num, below_drewN hbq.out _⟩, by simp [intOf]; omega⟩
          · obtain rfl : j = k := by omega
            go_wp2
            exact ⟨⟨j + 1, hlt, by go_num, hbz⟩, by simp [intOf]; omega⟩
      · obtain rfl : k = L.length := by omega
        have hfin := HK0.out.trans (hbw.out.mono (Nat.le_of_lt hz0))
        have l1 : (1 : Int) ≤ (L.length : Int) := by omega
        have l2 : (L.length : Int) ≤ 4 := by omega
        go_wp2
        go_ret
        exact ⟨rfl, hfin⟩
end Go.Proofs.Ytclghfekmmcfjaa
