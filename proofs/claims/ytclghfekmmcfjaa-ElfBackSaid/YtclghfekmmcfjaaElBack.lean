/- ElfBack: what was written is read as it was; a byte less is not, if its last segment has bytes: the walk. -/
import Derived.Test.YtclghfekmmcfjaaElRd
import Derived.Test.YtclghfekmmcfjaaElApart
namespace Go.Proofs.Ytclghfekmmcfjaa
open Go.ChangeShapes Go.WideShapes Go.ChangeAt Go.RowKit Go.Deep Go.Shelf
set_option maxRecDepth 100000
section
variable {e : Int} {L : List Sg}
theorem imay_all (h : IMayP e L) : ∀ s ∈ L, SegA s := fun s hs => by
  obtain ⟨j, hj, rfl⟩ := List.getElem_of_mem hs
  exact (imay_seg h hj).1
theorem has_ext {S : ByteArray} {p : Nat} {d : ByteArray} (h : Has S.data.toList p d.data.toList) : S.extract p (p + d.size) = d := by
  apply data_toList.1
  rw [ByteArray.toList_eq, ByteArray.toList_eq, ByteArray.data_extract, Array.toList_extract, List.extract_eq_take_drop, show p + d.size - p = d.size by omega, ba_size]
  exact h.ext
/-- a beginning of the file that holds the rows -/
theorem rd_of (h : IMayP e L) (he : 0 ≤ e ∧ e ≤ 18446744073709551615) (hwf : ∀ s ∈ L, s.ok) {S : ByteArray} {N m : Nat} (hS : S.data.toList = (fileAll e L).take N) (hN : N ≤ endN L L.length) (hN0 : 64 + 56 * L.length ≤ N)
    (hm : m ≤ L.length) (hfit : ∀ k, k < m → endN L (k + 1) ≤ N) (hstop : m < L.length → N < endN L (m + 1)) : RdH S e L m := by
  have hA := imay_all h
  have hsz : S.size = N := by rw [ba_size, hS, List.length_take, fileAll_len]; omega
  have hl4 := h.1.2
  have hE := (endN_bd hA (Nat.le_refl L.length)).2
  refine ⟨?_, fun k hk => ?_, by omega, by omega, hm, fun k hk hkm => ?_, fun hm' => ?_⟩
  · rw [hS]
    exact hdOk (has_head.cut (by rw [hdL_len]; omega)) he hl4
  · rw [hS]
    have hEk := endN_bd hA (k := k) (by omega)
    exact rowOk ((has_row hk).cut (by rw [rowL_len]; omega)) (hA _ (List.getElem_mem hk)) (hwf _ (List.getElem_mem hk)) (by unfold upN; omega)
  · have h1 := hfit k hkm
    rw [endN_succ hk] at h1
    refine ⟨by omega, has_ext ?_⟩
    rw [hS]
    exact (has_data hk).cut (by rw [← ba_size]; omega)
  · have h1 := hstop hm'
    rw [endN_succ hm'] at h1
    omega
theorem rd_whole (h : IMayP e L) (he : 0 ≤ e ∧ e ≤ 18446744073709551615) (hwf : ∀ s ∈ L, s.ok) : RdH ⟨(fileAll e L).toArray⟩ e L L.length := by
  have hE := (endN_bd (imay_all h) (Nat.le_refl L.length)).1
  refine rd_of h he hwf (N := endN L L.length) ?_ (Nat.le_refl _) hE (Nat.le_refl _) (fun k hk => endN_mono (by omega)) (fun hc => absurd hc (Nat.lt_irrefl _))
  rw [← fileAll_len (e := e), List.take_length]
theorem rd_cut (h : IMayP e L) (he : 0 ≤ e ∧ e ≤ 18446744073709551615) (hwf : ∀ s ∈ L, s.ok) {n : Nat} (hn : L.length = n + 1) (hd : ∀ hk : n < L.length, (L[n]).data.size ≠ 0) {S : ByteArray} (hS : S = ⟨(fileAll e L).toArray⟩) :
    RdH (S.extract 0 (S.size - 1)) e L n := by
  have hA := imay_all h
  have hnl : n < L.length := by omega
  have hsz : S.size = endN L L.length := by rw [ba_size, hS, ← fileAll_len (e := e)]
  have hEn := endN_bd hA (k := n) (by omega)
  have h1 := endN_succ hnl
  have h2 := hd hnl
  have h3 : endN L n ≤ upN (endN L n) := by unfold upN; omega
  rw [hn] at hsz
  refine rd_of h he hwf (N := S.size - 1) ?_ (by rw [hn]; omega) (by omega) (by omega) (fun k hk => ?_) (fun _ => by omega)
  · rw [ByteArray.data_extract, Array.toList_extract, List.extract_eq_take_drop, List.drop_zero, Nat.sub_zero, hS]
  · have := endN_mono (l := L) (j := k + 1) (k := n) (by omega)
    omega
end
set_option maxHeartbeats 4000000 in
theorem eback_any {A : Option Addr} {cap : Nat} {L : List Sg} {w : World} {e : Int} (he : 0 ≤ e ∧ e ≤ 18446744073709551615) (hG : SgG w A cap L) :
    Calls Try.prog 5 #[.agg #[.int .u64 e, .slice A L.length cap]] w fun e' w' => e' = .returned (.bool true) ∧ Below w.heap.size w w' := by
  obtain ⟨hL, _, hwf, hlen⟩ := hG
  obtain ⟨W0, hW0⟩ : ∃ W0, w.alloc (.cells #[.int .u64 e, .slice A L.length cap] 25) = W0 := ⟨_, rfl⟩
  have k0 : Below w.heap.size w W0 := by subst hW0; exact (Below.refl _ _).alloc (Nat.le_refl _) _
  have b0 : Box2 W0 w.heap.size e (.slice A L.length cap) := by
    subst hW0
    refine ⟨?_, ?_⟩ <;> simp [go_sem]
  have s0 : W0.heap.size = w.heap.size + 1 := by subst hW0; simp
  have HW0 := Lib.hid hW0
  have HK0 := Lib.hid k0
  have HB0 := Lib.hid b0
  have HS0 := Lib.hid s0
  have HL0 := Lib.hid (Sl.In.below hL k0)
  have HWF := Lib.hid hwf
  have hz0 : w.heap.size < W0.heap.size := by omega
  clear hW0 k0 b0 s0 hL hwf
  go_enter Try.func5, Try.ntmps5
  go_wp2_with fail
  rw [HW0.out]
  refine (ishown_any W0).mono ?_
  rintro e' w1 ⟨rfl, hb1⟩
  have HB1 := Lib.hid hb1
  have hz1 : w.heap.size < w1.heap.size := Nat.lt_of_lt_of_le hz0 hb1.size
  obtain ⟨d0, d1⟩ := HB0.out.below hb1 hz0
  have HL1 := Lib.hid (Sl.In.below HL0.out (hb1.mono (Nat.le_of_lt hz0)))
  clear hb1
  go_wp2_with fail
  cases hm : imayB e L with
  | false =>
    have HM := Lib.hid hm
    clear hm
    refine (write_bad e he HM.out HL1.out (Nat.le_of_lt hz1) HWF.out hlen).mono ?_
    rintro e' w2 ⟨rfl, hb2⟩
    have HB2 := Lib.hid (HB1.out.trans (hb2.mono HB1.out.size))
    have HL2 := Lib.hid (Sl.In.below HL1.out (hb2.mono (Nat.le_of_lt hz1)))
    have hz2 : w.heap.size < w2.heap.size := Nat.lt_of_lt_of_le hz1 hb2.size
    clear hb2 d0 d1
    obtain ⟨d0, d1⟩ := HB0.out.below HB2.out hz0
    go_wp2_with fail
    refine (imay_any e he HL2.out (Nat.le_of_lt hz2) HWF.out hlen).mono ?_
    rintro e' w3 ⟨rfl, hb3⟩
    rw [HM.out]
    have hfin := HK0.out.trans ((HB2.out.trans (hb3.mono HB2.out.size)).mono (Nat.le_of_lt hz0))
    go_wp2
    go_ret
    exact ⟨rfl, hfin⟩
  | true =>
    have HM := Lib.hid hm
    have hP := imayB_out hm
    have hl1 := hP.1.1
    have hl4 := hP.1.2
    obtain ⟨n, hn⟩ : ∃ n, L.length = n + 1 := ⟨L.length - 1, by omega⟩
    obtain ⟨S, hS⟩ : ∃ S : ByteArray, (⟨(fileAll e L).toArray⟩ : ByteArray) = S := ⟨_, rfl⟩
    have hrd := rd_whole hP he HWF.out
    rw [hS] at hrd
    have hrc : (∀ hk : n < L.length, (L[n]).data.size ≠ 0) → RdH (S.extract 0 (S.size - 1)) e L n := fun hd => rd_cut hP he HWF.out hn hd hS.symm
    have hsz := hrd.sz
    have HRD := Lib.hid hrd
    have HRC := Lib.hid hrc
    have HS := Lib.hid hS
    clear hm hP hrd hrc hS
    refine (write_good e he HM.out HL1.out (Nat.le_of_lt hz1) HWF.out hlen).mono ?_
    rintro e' w2 ⟨rfl, hb2⟩
    rw [HS.out]
    have HB2 := Lib.hid (HB1.out.trans (hb2.mono HB1.out.size))
    have hz2 : w.heap.size < w2.heap.size := Nat.lt_of_lt_of_le hz1 hb2.size
    clear hb2 d0 d1
    go_wp2_with fail
    refine (read_any (w := w2) HRD.out HM.out he HWF.out).mono ?_
    rintro e' w3 ⟨hb3, hall, _⟩
    obtain ⟨A3, c3, rfl, hS3, hA3⟩ := hall rfl
    have HB3 := Lib.hid (HB2.out.trans (hb3.mono HB2.out.size))
    have hz3 : w.heap.size < w3.heap.size := Nat.lt_of_lt_of_le hz2 hb3.size
    obtain ⟨W3, hW3⟩ : ∃ W3, w3.alloc (.cells #[.int .u64 e, .slice A3 L.length c3] 25) = W3 := ⟨_, rfl⟩
    have x3 : Box2 W3 w3.heap.size e (.slice A3 L.length c3) := by
      subst hW3
      refine ⟨?_, ?_⟩ <;> simp [go_sem]
    have k3 : Below w3.heap.size w3 W3 := by subst hW3; exact (Below.refl _ _).alloc (Nat.le_refl _) _
    have HB4 := Lib.hid (HB3.out.trans (k3.mono HB3.out.size))
    have HL4 := Lib.hid (Sl.In.below HL0.out (HB4.out.mono (Nat.le_of_lt hz0)))
    have HS4 := Lib.hid (Sl.In.below hS3 k3)
    have hz4 : w3.heap.size < W3.heap.size := by subst hW3; simp
    have hz5 : w.heap.size < W3.heap.size := by omega
    have HW3 := Lib.hid hW3
    have HX3 := Lib.hid x3
    obtain ⟨d0, d1⟩ := HB0.out.below HB4.out hz0
    have x3' := HX3.out
    obtain ⟨y0, y1⟩ := x3'
    have HN := Lib.hid hn
    have hl00 : L.length ≠ 0 := by omega
    have hnl : n < L.length := by omega
    rw [← HW3.out] at d0 d1 y0 y1
    clear hb3 hall hS3 hW3 x3 k3 hn
    go_wp2_with fail
    rw [HW3.out]
    refine (irsame_any HL4.out HS4.out (Nat.le_of_lt hz5) (Nat.le_of_lt hz4) hlen).mono ?_
    rintro e' w5 ⟨rfl, hb5⟩
    have hsame : sameI e L e L = true := decide_eq_true ⟨rfl, rfl⟩
    rw [hsame]
    have HB5 := Lib.hid (HB4.out.trans (hb5.mono HB4.out.size))
    have hz6 : w.heap.size < w5.heap.size := Nat.lt_of_lt_of_le hz5 hb5.size
    have z0 := HB0.out.below HB5.out hz0
    have HL5 := Sl.In.below HL0.out (HB5.out.mono (Nat.le_of_lt hz0))
    obtain ⟨b, off, rfl, hbk, c0, c1, c2, c3⟩ := Sgs.sg HL5 hnl
    clear hb5 d0 d1 y0 y1
    obtain ⟨d0, d1⟩ := z0
    have e1 : IntKind.i64.wrap ((L.length : Int) - 1) = (n : Int) := by have := HN.out; rw [IntKind.wrap_i64]; omega
    have i0 : ((L.length : Int) == 0) = false := beq_eq_false_iff_ne.2 (by omega)
    have i1 : (n : Int) < (L.length : Int) := by omega
    have i2 : (0 : Int) ≤ (n : Int) := by omega
    obtain ⟨sg, hsg⟩ : ∃ sg, L[n] = sg := ⟨_, rfl⟩
    rw [hsg] at c0 c1 c2 c3
    have HSG := Lib.hid hsg
    clear hsg
    by_cases hd0 : sg.data.size = 0
    · have q0 : ((sg.data.size : Int) == 0) = true := beq_iff_eq.2 (by omega)
      have hfin := HK0.out.trans (HB5.out.mono (Nat.le_of_lt hz0))
      go_wp2
      go_ret
      exact ⟨rfl, hfin⟩
    · have q0 : ((sg.data.size : Int) == 0) = false := beq_eq_false_iff_ne.2 (by omega)
      have hs2 := HRD.out.small
      have hs1 : IntKind.i64.wrap ((S.size : Int) - 1) = ((S.size - 1 : Nat) : Int) := by rw [IntKind.wrap_i64]; omega
      go_wp2_with fail
      refine (read_any (w := w5) (HRC.out (fun hk => by rw [HSG.out]; exact hd0)) HM.out he HWF.out).mono ?_
      rintro e' w6 ⟨hb6, _, hcut⟩
      rw [hcut (by omega)]
      have hfin := HK0.out.trans ((HB5.out.trans (hb6.mono HB5.out.size)).mono (Nat.le_of_lt hz0))
      go_wp2
      go_ret
      exact ⟨rfl, hfin.alloc hfin.size _⟩
end Go.Proofs.Ytclghfekmmcfjaa
