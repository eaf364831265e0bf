/- EncRows: a program's bytes are four for each instruction, and that program's again; those of one behind another one are both's: walked. -/
import Derived.Test.YthnekmfcbbohkaaDoorSame
import Derived.Test.YthnekmfcbbohkaaDoorLaws2
namespace Go.Proofs.YthnekmfcbbohkaaDoor
open Go.ChangeShapes Go.WideShapes Go.ChangeAt Go.RowKit Go.Deep
set_option maxRecDepth 100000
theorem opens_ops0 {w : World} : Opens Tryd.prog w 41 (fun s : Sl OpD => [s.v]) (fun s => Sl.Good w w.heap.size 5 40 OpD.cells (fun _ => True) s ∧ (s.a = none → s.cap = 0)) := opens_slice0 (P := Tryd.prog) (w := w) Tryd.underlying41 Tryd.cells23 (bytes := 40) (by kernel_rfl) (by omega) (fun _ => rfl) opens_op
theorem bytesL_at {i : Nat} (hi : i < 4) : ∀ {L : List OpD} {k : Nat} (hk : k < L.length), (bytesL L)[4 * k + i]? = some (byteN (L[k]).word i)
  | [], k, hk => by simp at hk
  | o :: L, 0, _ => by
    unfold bytesL
    rw [List.flatMap_cons, List.getElem?_append_left (by simp [bytes4]; omega)]
    match i, hi with
    | 0, _ => rfl
    | 1, _ => rfl
    | 2, _ => rfl
    | 3, _ => rfl
  | o :: L, k + 1, hk => by
    have h4 : (bytes4 o.word).length = 4 := rfl
    have := bytesL_at hi (L := L) (k := k) (by simpa using hk)
    unfold bytesL at *
    rw [List.flatMap_cons, List.getElem?_append_right (by rw [h4]; omega), h4, show 4 * (k + 1) + i - 4 = 4 * k + i by omega, this]
    rfl
theorem bytesS_ok {L : List OpD} (h : L.all OpD.may = true) : bytesS L = ⟨(bytesL L).toArray⟩ ∧ bytesE L = 0 := by
  unfold bytesS bytesE; rw [h]; exact ⟨rfl, rfl⟩
theorem bytesS_bad {L : List OpD} (h : L.all OpD.may = false) : bytesS L = ByteArray.empty ∧ bytesE L = 1 := by
  unfold bytesS bytesE; rw [h]; exact ⟨rfl, rfl⟩
theorem byteI_bytes {L : List OpD} (h : L.all OpD.may = true) {k i : Nat} (hk : k < L.length) (hi : i < 4) : byteI (bytesS L) (4 * k + i) = (byteN (L[k]).word i).toNat := by
  rw [(bytesS_ok h).1]
  unfold byteI
  rw [List.getElem?_toArray, bytesL_at hi hk]; rfl
theorem may_at {L : List OpD} (h : L.all OpD.may = true) {k : Nat} (hk : k < L.length) : (L[k]).may = true := List.all_eq_true.1 h _ (List.getElem_mem hk)
theorem byteN_sum {v : Int} (h : 0 ≤ v ∧ v < 4294967296) : ((byteN v 0).toNat : Int) + 256 * (byteN v 1).toNat + 65536 * (byteN v 2).toNat + 16777216 * (byteN v 3).toNat = v := by
  rw [byteN_toNat, byteN_toNat, byteN_toNat, byteN_toNat, Int.pow_zero, Int.ediv_one, show (256 : Int) ^ 1 = 256 from rfl, show (256 : Int) ^ 2 = 65536 from rfl, show (256 : Int) ^ 3 = 16777216 from rfl]
  omega
theorem wordAt_bytes {L : List OpD} (h : L.all OpD.may = true) {k : Nat} (hk : k < L.length) : wordAt (bytesS L) (4 * k) = (L[k]).word := by
  unfold wordAt
  have h0 := byteI_bytes h hk (i := 0) (by omega)
  rw [Nat.add_zero] at h0
  rw [h0, byteI_bytes h hk (i := 1) (by omega), byteI_bytes h hk (i := 2) (by omega), byteI_bytes h hk (i := 3) (by omega)]
  exact byteN_sum (word_nn (may_at h hk))
theorem takeO_word {o : OpD} (h : o.may = true) : takeO o.word = some o := by
  obtain ⟨k, rd, a, b, imm⟩ := o
  unfold OpD.may at h
  simp only at h
  obtain ⟨k, rfl⟩ := Int.eq_ofNat_of_zero_le (show 0 ≤ k by have := (mayB_out h).1; omega)
  obtain ⟨_, p1, p2, p3, p4⟩ := hit_self (mayB_out h)
  unfold takeO OpD.word
  simp only
  rw [take_word (mayB_out h), Option.map_some]
  unfold opOf
  rw [p1, p2, p3, p4]
theorem backN_bytes {L : List OpD} (h : L.all OpD.may = true) : ∀ {n : Nat}, n ≤ L.length → backN (bytesS L) n = some (L.take n)
  | 0, _ => rfl
  | n + 1, hn => by
    have hk : n < L.length := by omega
    simp only [backN, backN_bytes h (show n ≤ L.length by omega), Option.bind_some, wordAt_bytes h hk, takeO_word (may_at h hk), Option.map_some]
    rw [List.take_succ_eq_append_getElem hk]
theorem bytesS_size {L : List OpD} (h : L.all OpD.may = true) : (bytesS L).size = 4 * L.length := by
  rw [(bytesS_ok h).1, ← bytesL_len]; rfl
theorem back_bytes {L : List OpD} (h : L.all OpD.may = true) : backL (bytesS L) = L ∧ backE (bytesS L) = 0 := by
  have hs := bytesS_size h
  have hd : 4 * L.length / 4 = L.length := Nat.mul_div_cancel_left _ (by decide)
  unfold backL backE
  rw [hs, if_pos (Nat.mul_mod_right 4 _), if_pos (Nat.mul_mod_right 4 _), hd, backN_bytes h (Nat.le_refl _), List.take_length]
  exact ⟨rfl, rfl⟩
theorem bytesS_app {L L2 : List OpD} (h : L.all OpD.may = true) (h2 : L2.all OpD.may = true) : bytesS (L ++ L2) = bytesS L ++ bytesS L2 ∧ bytesE (L ++ L2) = 0 := by
  have h3 : (L ++ L2).all OpD.may = true := by rw [List.all_append, h, h2]; rfl
  refine ⟨?_, (bytesS_ok h3).2⟩
  rw [(bytesS_ok h).1, (bytesS_ok h2).1, (bytesS_ok h3).1]
  apply ByteArray.ext
  simp [bytesL]
set_option maxHeartbeats 1600000 in
theorem rows_any {A A2 : Option Addr} {cap cap2 : Nat} {L L2 : List OpD} {w : World} {B : Nat} (hT : Tab w) (hL : Sl.In w B 5 OpD.cells ⟨A, cap, L⟩) (hL2 : Sl.In w B 5 OpD.cells ⟨A2, cap2, L2⟩) (hA : A = none → cap = 0) (hA2 : A2 = none → cap2 = 0) (hB : B ≤ w.heap.size) :
    Calls Tryd.prog 11 #[.slice A L.length cap, .slice A2 L2.length cap2] w fun e w' => e = .returned (.bool true) ∧ Below w.heap.size w w' := by
  obtain ⟨i0, hi, hz0, hz1, hz2⟩ := info_parts Tryd.info23
  have hs := hT.size
  have HT := Lib.hid hT
  clear hT
  by_cases hlen : L.length ≤ 200
  · have l0 : (L.length : Int) ≤ 200 := by omega
    by_cases hlen2 : L2.length ≤ 200
    · have l1 : (L2.length : Int) ≤ 200 := by omega
      have hL0 := Lib.hid hL
      have hL20 := Lib.hid hL2
      have hN := Lib.hid (show L.length ≤ 10000 ∧ L2.length ≤ 10000 by omega)
      clear hL hL2
      cases hm : L.all OpD.may
      · have he := (bytesS_bad hm).2
        have HE := Lib.hid he
        have f1 : ((1 : Int) != 0) = true := rfl
        clear he hm
        go_enter Tryd.func11, Tryd.ntmps11
        go_wp2_with fail
        refine (shown_any HT.out).mono ?_
        rintro e w1 ⟨rfl, hb1⟩
        have K1 := Lib.hid hb1
        go_wp2_with fail
        refine (bytes_any (HT.out.below K1.out hs) (hL0.out.below (K1.out.mono hB)) (Nat.le_trans hB K1.out.size) hN.out.1).mono ?_
        rintro e w2 ⟨rfl, hb2⟩
        rw [HE.out]
        have K2 := Lib.hid (K1.out.trans (hb2.mono K1.out.size))
        clear hb1 hb2
        go_wp2_with fail
        refine (bytes_any (HT.out.below K2.out hs) (hL20.out.below (K2.out.mono hB)) (Nat.le_trans hB K2.out.size) hN.out.2).mono ?_
        rintro e w3 ⟨rfl, hb3⟩
        have K3 := Lib.hid (K2.out.trans (hb3.mono K2.out.size))
        clear hb3
        go_wp2
        go_ret
        exact ⟨rfl, K3.out⟩
      · have HM := Lib.hid hm
        have he := (bytesS_ok hm).2
        have HE := Lib.hid he
        have hz : (bytesS L).size ≤ 1000000 := by rw [bytesS_size hm]; omega
        have HZ := Lib.hid hz
        clear he hm hz
        cases hm2 : L2.all OpD.may
        · have he2 := (bytesS_bad hm2).2
          have HE2 := Lib.hid he2
          clear he2 hm2
          go_enter Tryd.func11, Tryd.ntmps11
          go_wp2_with fail
          refine (shown_any HT.out).mono ?_
          rintro e w1 ⟨rfl, hb1⟩
          have K1 := Lib.hid hb1
          go_wp2_with fail
          refine (bytes_any (HT.out.below K1.out hs) (hL0.out.below (K1.out.mono hB)) (Nat.le_trans hB K1.out.size) hN.out.1).mono ?_
          rintro e w2 ⟨rfl, hb2⟩
          rw [HE.out]
          have K2 := Lib.hid (K1.out.trans (hb2.mono K1.out.size))
          clear hb1 hb2
          go_wp2_with fail
          refine (bytes_any (HT.out.below K2.out hs) (hL20.out.below (K2.out.mono hB)) (Nat.le_trans hB K2.out.size) hN.out.2).mono ?_
          rintro e w3 ⟨rfl, hb3⟩
          rw [HE2.out]
          have K3 := Lib.hid (K2.out.trans (hb3.mono K2.out.size))
          clear hb3
          go_wp2
          go_ret
          exact ⟨rfl, K3.out⟩
        · have HM2 := Lib.hid hm2
          have he2 := (bytesS_ok hm2).2
          have HE2 := Lib.hid he2
          clear he2 hm2
          have hz1' := Lib.hid (bytesS_size HM.out)
          go_enter Tryd.func11, Tryd.ntmps11
          go_wp2_with fail
          refine (shown_any HT.out).mono ?_
          rintro e w1 ⟨rfl, hb1⟩
          have K1 := Lib.hid hb1
          go_wp2_with fail
          refine (bytes_any (HT.out.below K1.out hs) (hL0.out.below (K1.out.mono hB)) (Nat.le_trans hB K1.out.size) hN.out.1).mono ?_
          rintro e w2 ⟨rfl, hb2⟩
          rw [HE.out]
          have K2 := Lib.hid (K1.out.trans (hb2.mono K1.out.size))
          clear hb1 hb2
          go_wp2_with fail
          refine (bytes_any (HT.out.below K2.out hs) (hL20.out.below (K2.out.mono hB)) (Nat.le_trans hB K2.out.size) hN.out.2).mono ?_
          rintro e w3 ⟨rfl, hb3⟩
          rw [HE2.out]
          have K3 := Lib.hid (K2.out.trans (hb3.mono K2.out.size))
          clear hb3
          have hLL := bytesS_app HM.out HM2.out
          obtain ⟨LL, hLe⟩ : ∃ LL, LL = L ++ L2 := ⟨_, rfl⟩
          have hn : LL.length = L.length + L2.length := by rw [hLe, List.length_append]
          have hfl : LL.flatMap OpD.cells = L.flatMap OpD.cells ++ L2.flatMap OpD.cells := by rw [hLe, List.flatMap_append]
          rw [← hLe] at hLL
          have HS := Lib.hid hLL.1
          have HE3 := Lib.hid hLL.2
          have HNL := Lib.hid hn
          have HFL := Lib.hid hfl
          have hA' := Lib.hid hA
          have hA2' := Lib.hid hA2
          clear hLL hLe hn hfl hA hA2
          have hq1 : ¬ 9223372036854775807 < (bytesS L).size + (bytesS L2).size := by rw [bytesS_size HM.out, bytesS_size HM2.out]; omega
          have hq2 : ((bytesS L).size : Int) = 4 * (L.length : Int) := by rw [bytesS_size HM.out]; omega
          have z3 := K3.out.size
          have k0 : Below w3.heap.size w3 (w3.alloc (.cells #[] 23)) := (Below.refl _ _).alloc (Nat.le_refl _) _
          have K4 := Lib.hid (K3.out.alloc z3 (.cells #[] 23))
          go_wp2_with (first
            | (at_builtin
               refine wpList_append_sl rfl (.tmp 43) (.tmp 44) 41 rfl w.heap.size 23 i0 _ 5 40 Tryd.underlying41 hi hz0 hz1 hz2 rfl (by omega) _ 0 [] rfl (World.ownsRow_made w3 #[] 0 z3 (by decide) rfl) (fun _ => rfl) OpD.one (hL0.out.below (K4.out.mono hB)) hA'.out rfl ?_ ?_ ?_ ?_
               rotate_right
               intro v4 w4 hown4 hg4
               have hb4 : Below w.heap.size w w4 := K4.out.grown hg4 (by simp; omega) (fun k hk => by cases hk; exact z3)
               have K5 := Lib.hid hb4
               have ho4 := Lib.hid hown4
               clear hown4 hg4 hb4)
            | (at_builtin
               refine wpList_append_sl rfl (.tmp 45) (.tmp 46) 41 rfl w.heap.size 23 i0 _ 5 40 Tryd.underlying41 hi hz0 hz1 hz2 rfl (by omega) _ _ _ rfl ho4.out (fun _ => rfl) OpD.one (hL20.out.below (K5.out.mono hB)) hA2'.out rfl ?_ ?_ ?_ ?_
               rotate_right
               intro v5 w5 hown5 hg5
               have hb5 : Below w.heap.size w w5 := K5.out.grown hg5 K5.out.size (fun k hk => (ho4.out.lt k hk).1)
               have K6 := Lib.hid hb5
               rw [Nat.zero_add, List.nil_append, ← HNL.out, ← HFL.out] at hown5
               obtain ⟨S5, c5, rfl, hS5⟩ := Sl.of_own (cells := OpD.cells) (fun _ => rfl) hown5 rfl
               have J5 := Lib.hid hS5
               clear hown5 hg5 hb5 hS5)
            | (go_at_call 20
               refine (bytes_any (HT.out.below K6.out hs) J5.out (Nat.le_refl _) (by have := HNL.out; omega)).mono ?_
               rintro e w6 ⟨rfl, hb6⟩
               rw [HE3.out, HS.out]
               have K7 := Lib.hid (K6.out.trans (hb6.mono K6.out.size))
               clear hb6)
            | (go_at_call 19
               refine (backs_any (bytesS L) (HT.out.below K7.out hs) HZ.out).mono ?_
               rintro e w7 ⟨v, rfl, hv, hb7⟩
               rw [(back_bytes HM.out).2]
               rw [(back_bytes HM.out).1] at hv
               have K8 := Lib.hid (K7.out.trans (hb7.mono K7.out.size))
               obtain ⟨S7, c7, rfl, hS7⟩ := Sl.of_own (cells := OpD.cells) (fun _ => rfl) hv rfl
               have J7 := Lib.hid hS7
               clear hb7 hv hS7)
            | (go_at_call 23
               refine (same_any J7.out ((hL0.out.below (K8.out.mono hB)).more (Nat.le_trans hB K8.out.size)) (Nat.le_refl _) (by omega)).mono ?_
               rintro e w8 ⟨rfl, hb8⟩
               rw [decide_eq_true rfl]
               have K9 := Lib.hid (K8.out.trans (hb8.mono K8.out.size))
               clear hb8))
          rotate_right
          rotate_right
          rotate_right
          rotate_right
          rotate_right
          rotate_right
          · simp only [maxLen]; omega
          · omega
          · exact K5.out.size
          · simp only [maxLen]; omega
          · omega
          · simp; omega
          go_ret
          exact ⟨rfl, K9.out⟩
    · have l1 : 200 < (L2.length : Int) := by omega
      go_enter Tryd.func11, Tryd.ntmps11
      go_wp2_with fail
      refine (shown_any HT.out).mono ?_
      rintro e w1 ⟨rfl, hb1⟩
      go_wp2
      go_ret
      exact ⟨rfl, hb1⟩
  · have l0 : 200 < (L.length : Int) := by omega
    go_enter Tryd.func11, Tryd.ntmps11
    go_wp2_with fail
    refine (shown_any HT.out).mono ?_
    rintro e w1 ⟨rfl, hb1⟩
    go_wp2
    go_ret
    exact ⟨rfl, hb1⟩
end Go.Proofs.YthnekmfcbbohkaaDoor
