/- The reference's Store. -/
import Derived.Test.YtajhehmkdlebbaaDoorQPgPut
namespace Go.Proofs.YtajhehmkdlebbaaDoor
open Go.ChangeShapes Go.WideShapes Go.ChangeAt Go.RowKit Go.Deep Go.Maps Go.WideMaps
set_option maxRecDepth 100000
theorem bytesV_at (v : Int) {n k : Nat} (h : k < (bytesV v n).size) : (((bytesV v n)[k]).toNat : Int) = v / 256 ^ k % 256 := by
  have : (bytesV v n)[k] = UInt8.ofNat ((v / 256 ^ k) % 256).toNat := by
    show ((bytesV v n).data)[k] = _
    simp [bytesV]
  rw [this, byte_val]
theorem div_step (v : Int) (k : Nat) : v / 256 ^ k / 256 = v / 256 ^ (k + 1) := by
  rw [Int.pow_succ, Int.ediv_ediv, if_neg (fun h => absurd h.1 (Int.not_lt.2 (Int.le_of_lt (pow256_pos k)))), Int.sub_zero]
set_option maxHeartbeats 2000000 in
theorem rstore_any {A : Option Addr} {cap : Nat} {L : List Pg} {w : World} {B : Nat} (at_ n v : Int) (hat : 0 ≤ at_ ∧ at_ ≤ 18446744073709551615) (hv : 0 ≤ v ∧ v ≤ 18446744073709551615)
    (hL : Mem w B A cap L) (hA : A = none → cap = 0) (hB : B ≤ w.heap.size) (hwf : ∀ p ∈ L, p.ok) (hlen : L.length ≤ 140737488351232) :
    Calls Tryd.prog 47 #[.slice A L.length cap, .int .u64 at_, .int .i64 n, .int .u64 v] w fun e w' => Below w.heap.size w w' ∧ ∃ u, e = .returned (.tuple #[u, .int .i64 (loadE L at_ n 2)]) ∧ MemV w' u (storeX L at_ n v) := by
  by_cases hc : (1 ≤ n ∧ n ≤ 8) ∧ rightB L = true
  · obtain ⟨⟨h1, h8⟩, hR⟩ := hc
    obtain ⟨N, rfl⟩ := Int.eq_ofNat_of_zero_le (show 0 ≤ n by omega)
    have hRP := rightB_out hR
    have hE : loadE L at_ N 2 = if (loadN L at_ 2 N).isSome then 0 else 6 := by unfold loadE; rw [if_pos ⟨⟨h1, h8⟩, hR⟩, Int.toNat_natCast]
    have hX : storeX L at_ N v = if (loadN L at_ 2 N).isSome then wrL L at_ (bytesV v N) N else L := by
      unfold storeX; rw [Int.toNat_natCast]
      by_cases h : (loadN L at_ 2 N).isSome = true
      · rw [if_pos ⟨⟨⟨h1, h8⟩, hR⟩, h⟩, if_pos h]
      · rw [if_neg (fun h' => h h'.2), if_neg h]
    have HE := Lib.hid hE
    have HX := Lib.hid hX
    have HR := Lib.hid hR
    have HRP := Lib.hid hRP
    have HA := Lib.hid hA
    have HWF := Lib.hid hwf
    have HL := Lib.hid hL
    clear hE hX hR hRP hA hwf hL
    go_enter Tryd.func47, Tryd.ntmps47
    go_wp2_with fail
    refine (rright_any HL.out hB HWF.out).mono ?_
    rintro e w1 ⟨rfl, hb1⟩
    rw [HR.out]
    go_wp2
    go_loopw [3, 11, 12] (fun v' o i wr => ∃ (k : Nat) (V : Int), k ≤ N ∧ i = .int .i64 k ∧ v' = .int .u64 V ∧ Hid (V = v / 256 ^ k) ∧ (0 ≤ V ∧ V ≤ 18446744073709551615) ∧ Hid (MemV wr o (wrL L at_ (bytesV v N) k)) ∧ Hid ((loadN L at_ 2 k).isSome = true) ∧ Below w.heap.size w wr) (fun _ _ i _ => N - (intOf i).toNat)
    case atStart => exact ⟨0, v, Nat.zero_le _, rfl, rfl, by show v = v / 256 ^ 0; simp, hv, by show MemV _ _ _; rw [wrL_zero]; exact MemV.of (Sl.In.below HL.out (hb1.mono hB)) HA.out (Nat.le_trans hB hb1.size), rfl, hb1⟩
    case round =>
      obtain ⟨k, V, hk, rfl, rfl, hVe, hVb, hmv, hok, hbw⟩ := hrel
      by_cases hlt : k < N
      · have hso := hbw.size
        obtain ⟨T, hT⟩ : ∃ T, T = IntKind.u64.wrap (at_ + (k : Int)) := ⟨_, rfl⟩
        have hT2 : T = (at_ + k) % 18446744073709551616 := by rw [hT, IntKind.wrap_u64]
        have hTb : 0 ≤ T ∧ T ≤ 18446744073709551615 := by omega
        have HT2 := Lib.hid hT2
        have hTr : IntKind.u64.wrap (at_ + (k : Int)) = T := hT.symm
        have hLr := Sl.In.below HL.out (hbw.mono hB)
        have HLR := Lib.hid hLr
        clear hT hT2
        have hnone : byteAt L at_ 2 k = none → Hid (loadE L at_ N 2 = 6 ∧ storeX L at_ N v = L) := fun hby => by
          have hN := loadN_none (l := L) (at_ := at_) (perm := 2) (n := k + 1) (by simp only [loadN, hby]; cases loadN L at_ 2 k <;> rfl) (show k + 1 ≤ N by omega)
          show _ ∧ _
          rw [HE.out, HX.out, hN]
          exact ⟨rfl, rfl⟩
        cases hx : idxF L T with
        | none =>
          have hN := hnone (byteAt_far HT2.out hx)
          have HI := Lib.hid (atI_no hx)
          clear hx hnone hLr
          go_wp2_with (go_at_call 64; refine (at_any T hTb HLR.out HWF.out hlen).mono ?_; rintro e w2 ⟨rfl, rfl⟩; rw [HI.out])
          go_ret2
          rw [hN.out.1, hN.out.2]
          exact ⟨hbw, _, rfl, MemV.of HLR.out HA.out (Nat.le_trans hB hso)⟩
        | some i =>
          have hil := idxF_lt hx
          have HI := Lib.hid (atI_some hx)
          by_cases hlow : T < at_
          · have hN := hnone (byteAt_low HT2.out hlow)
            clear hx hnone hLr
            go_wp2_with (go_at_call 64; refine (at_any T hTb HLR.out HWF.out hlen).mono ?_; rintro e w2 ⟨rfl, rfl⟩; rw [HI.out])
            go_ret2
            rw [hN.out.1, hN.out.2]
            exact ⟨hbw, _, rfl, MemV.of HLR.out HA.out (Nat.le_trans hB hso)⟩
          · obtain ⟨b, off, rfl, hb, c0, c1, c2⟩ := Mem.pg hLr hil
            have hbz : b < wr.heap.size := by omega
            have hby := byteAt_some (perm := 2) HT2.out (show at_ ≤ T by omega) hx hil
            have i3 : (0 : Int) ≤ (i : Int) := by omega
            have i4 : (i : Int) < (L.length : Int) := by omega
            cases hg : grantB L[i] 2
            · rw [hg] at hby
              have hN := hnone hby
              have HG := Lib.hid hg
              clear hx hnone hby hg hLr
              go_wp2_with (first
                | (go_at_call 64; refine (at_any T hTb HLR.out HWF.out hlen).mono ?_; rintro e w2 ⟨rfl, rfl⟩; rw [HI.out])
                | (go_at_call 65; refine (grants_any L[i] 2 _).mono ?_; rintro e w3 ⟨rfl, hb3⟩; rw [HG.out]))
              go_ret2
              rw [hN.out.1, hN.out.2]
              have hb4 := hbw.trans (hb3.mono hso)
              exact ⟨hb4, _, rfl, MemV.of (Sl.In.below HL.out (hb4.mono hB)) HA.out (Nat.le_trans hB hb4.size)⟩
            · rw [hg, if_pos rfl] at hby
              have hTe : T = at_ + k := by have := HT2.out; omega
              have hok' : Hid ((loadN L at_ 2 (k + 1)).isSome = true) := by
                show _ = _
                have h1 := hok.out
                simp only [loadN, hby]
                cases h2 : loadN L at_ 2 k with
                | none => rw [h2] at h1; cases h1
                | some u => rfl
              obtain ⟨A1, c1', rfl, hm1, hm2⟩ := hmv.out
              have HM1 := Lib.hid hm1
              have hks : k < (bytesV v N).size := by rw [bytesV_size]; exact hlt
              have hcon : ∀ w3, Below wr.heap.size wr w3 → Calls Tryd.prog 70 #[.slice A1 L.length c1', .int .u64 T, .int .u8 (V % 256)] w3 fun e w' => Below w3.heap.size w3 w' ∧ ∃ u, e = .returned u ∧ OwnV w' w3.heap.size u (wrL L at_ (bytesV v N) (k + 1)) := fun w3 hb3 => by
                have hcon := put_any T (bytesV v N)[k] i hTb (by rw [wrL_idx]; exact hx) (wrL_right HRP.out at_ (bytesV v N) k) (Sl.In.below HM1.out hb3) (wrL_ok HWF.out at_ (bytesV v N) k)
                rw [put_wr HRP.out hx hTe hks, wrL_len, bytesV_at v hks, ← hVe.out] at hcon
                exact hcon
              have HCON := Lib.hid hcon
              have hLl : (wrL L at_ (bytesV v N) k).length = L.length := wrL_len _ _ _ _
              have HTE := Lib.hid hTe
              have HG := Lib.hid hg
              clear hx hnone hby hcon hm1 hm2 hmv hTe hg hLr
              rw [hLl]
              clear hLl
              go_wp2_with (first
                | (go_at_call 64; refine (at_any T hTb HLR.out HWF.out hlen).mono ?_; rintro e w2 ⟨rfl, rfl⟩; rw [HI.out])
                | (go_at_call 65; refine (grants_any L[i] 2 _).mono ?_; rintro e w3 ⟨rfl, hb3⟩; rw [HG.out])
                | (go_at_call 70; refine (HCON.out _ hb3).mono ?_; rintro e w4 ⟨hb4, v3, rfl, hown3⟩))
              have hbb := hbw.trans ((hb3.trans (hb4.mono hb3.size)).mono hso)
              exact ⟨⟨k + 1, V / 256, hlt, by go_num, rfl, by show _ = _; rw [hVe.out, div_step], by omega, hown3.mem, hok', hbb⟩, by simp [intOf]; omega⟩
      · obtain rfl : k = N := by omega
        obtain ⟨A1, c1, rfl, hm1, hm2⟩ := hmv.out
        go_wp2
        go_ret2
        rw [HE.out, HX.out, hok.out]
        exact ⟨hbw, _, rfl, hmv.out⟩
  · have hE : loadE L at_ n 2 = 1 := by unfold loadE; rw [if_neg hc]
    have hX : storeX L at_ n v = L := by unfold storeX; rw [if_neg (fun h => hc h.1)]
    have HE := Lib.hid hE
    have HX := Lib.hid hX
    have hcc : n < 1 ∨ (1 ≤ n ∧ 8 < n) ∨ ((1 ≤ n ∧ n ≤ 8) ∧ rightB L = false) := by
      by_cases c1 : 1 ≤ n
      · by_cases c2 : n ≤ 8
        · exact .inr (.inr ⟨⟨c1, c2⟩, by cases h : rightB L; rfl; exact absurd ⟨⟨c1, c2⟩, h⟩ hc⟩)
        · exact .inr (.inl ⟨c1, by omega⟩)
      · exact .inl (by omega)
    have HL := Lib.hid hL
    have HWF := Lib.hid hwf
    have HA := Lib.hid hA
    clear hc hE hX hL hwf hA
    rcases hcc with c | ⟨c, c'⟩ | ⟨⟨c, c'⟩, hR⟩
    · go_enter Tryd.func47, Tryd.ntmps47
      go_wp2_with fail
      refine (rright_any HL.out hB HWF.out).mono ?_
      rintro e w1 ⟨rfl, hb1⟩
      go_wp2
      go_ret2
      rw [HE.out, HX.out]
      exact ⟨hb1, _, rfl, MemV.of (Sl.In.below HL.out (hb1.mono hB)) HA.out (Nat.le_trans hB hb1.size)⟩
    · go_enter Tryd.func47, Tryd.ntmps47
      go_wp2_with fail
      refine (rright_any HL.out hB HWF.out).mono ?_
      rintro e w1 ⟨rfl, hb1⟩
      go_wp2
      go_ret2
      rw [HE.out, HX.out]
      exact ⟨hb1, _, rfl, MemV.of (Sl.In.below HL.out (hb1.mono hB)) HA.out (Nat.le_trans hB hb1.size)⟩
    · have HR := Lib.hid hR
      clear hR
      go_enter Tryd.func47, Tryd.ntmps47
      go_wp2_with fail
      refine (rright_any HL.out hB HWF.out).mono ?_
      rintro e w1 ⟨rfl, hb1⟩
      rw [HR.out]
      go_wp2
      go_ret2
      rw [HE.out, HX.out]
      exact ⟨hb1, _, rfl, MemV.of (Sl.In.below HL.out (hb1.mono hB)) HA.out (Nat.le_trans hB hb1.size)⟩
end Go.Proofs.YtajhehmkdlebbaaDoor
