/- elf.Write: an image's file, or none. -/
import Derived.Test.YtclghfekmmcfjaaElFile
import Derived.Test.YtclghfekmmcfjaaElMay
namespace Go.Proofs.Ytclghfekmmcfjaa
open Go.ChangeShapes Go.WideShapes Go.ChangeAt Go.RowKit Go.Deep Go.Shelf
set_option maxRecDepth 100000
theorem numsAt_alloc (w : World) (L : List Int) : NumsAt (w.alloc (.cells (numCells L) 22)) w.heap.size L := heap_alloc_new w _
theorem isB_alloc {T : TypeId} {B b : Nat} {bs : List Value} {w : World} (h : IsB T B b bs w) (o : Obj) : IsB T B b bs (w.alloc o) := by
  have main : ∀ p, BAt T B b p bs w → BAt T B b p bs (w.alloc o) := fun p h => by
    obtain ⟨hB, v, hbk, hown, hne⟩ := h
    exact ⟨hB, v, (Lib.alloc_old w o b (Array.getElem?_eq_some_iff.1 hbk).1).trans hbk, hown.alloc _, hne⟩
  rcases h with h | h
  · exact .inl (main _ h)
  · exact .inr (main _ h)
/-- num, its numbers in a new block -/
theorem num_new {W : World} {b cap : Nat} (n : Nat) (L : List Int) (bs : List UInt8) (hn : n ≤ 8) (hlen : L.length ≤ 8) (hv : ∀ v ∈ L, 0 ≤ v ∧ v ≤ 18446744073709551615)
    (hb : IsB 96 b b (Lib.byteCells bs) W) (hbW : b ≤ W.heap.size) (hbs : bs.length ≤ 140737488300000) :
    Calls Try.prog 44 #[.pointer (some ⟨b, 0, none⟩), .int .i64 n, .slice (some ⟨W.heap.size, 0, none⟩) L.length cap] (W.alloc (.cells (numCells L) 22)) fun e w' => e = .returned (.tuple #[]) ∧ IsB 96 b b (Lib.byteCells (bs ++ numsL n L)) w' ∧ Below b W w' ∧ Stay 96 W w' := by
  refine (num_any n bs hn (numsAt_alloc W L) hlen hv (isB_alloc hb _) (by simp; omega) hbs).mono ?_
  rintro e w' ⟨rfl, h1, h2, h3⟩
  exact ⟨rfl, h1, ((Below.refl b W).alloc hbW _).trans h2, ((Stay.refl _ W).alloc _).trans h3⟩
theorem isB_new (w : World) : IsB 96 w.heap.size w.heap.size (Lib.byteCells []) (w.alloc (.cells #[.pointer none, .slice none 0 0] 96)) :=
  .inl ⟨Nat.le_refl _, .slice none 0 0, heap_alloc_new w _, World.ownsRow_nil _ _ _ _, by simp [Value.ownBlock]⟩
set_option maxHeartbeats 1000000 in
theorem write_bad {A : Option Addr} {cap : Nat} {L : List Sg} {w : World} {B : Nat} (e : Int) (he : 0 ≤ e ∧ e ≤ 18446744073709551615) (hm : imayB e L = false) (hL : Sgs w B A cap L) (hB : B ≤ w.heap.size) (hwf : ∀ s ∈ L, s.ok) (hlen : L.length ≤ 140737488351232) :
    Calls Try.prog 19 #[.agg #[.int .u64 e, .slice A L.length cap]] w fun e' w' => e' = .returned (.tuple #[.string ⟨#[]⟩, .int .i64 1]) ∧ Below w.heap.size w w' := by
  have k0 : Hid (Below w.heap.size w (w.alloc (.cells #[.int .u64 e, .slice A L.length cap] 25))) := (Below.refl _ _).alloc (Nat.le_refl _) _
  have HM := Lib.hid hm
  have HL := Lib.hid (Sl.In.below hL (k0.out.mono hB))
  have hz : B ≤ (w.alloc (.cells #[.int .u64 e, .slice A L.length cap] 25)).heap.size := Nat.le_trans hB k0.out.size
  have HZ := Lib.hid hz
  clear hm hL hz
  go_enter Try.func19, Try.ntmps19
  go_wp2_with fail
  refine (imay_any e he HL.out HZ.out hwf hlen).mono ?_
  rintro e' w1 ⟨rfl, hb1⟩
  rw [HM.out]
  have hb := k0.out.trans (hb1.mono k0.out.size)
  go_wp2
  go_ret2
  exact ⟨rfl, hb⟩
theorem head_eq (e : Int) (n : Nat) : begL ++ numsL 2 [2, 243] ++ numsL 4 [1] ++ numsL 8 [e, 64, 0] ++ numsL 4 [0] ++ numsL 2 [64, 56, n, 0, 0, 0] = hdL e n := by
  simp only [hdL, List.append_assoc]
theorem pagesI_up (n : Nat) : pagesI n * 256 = (upN n : Nat) := by unfold pagesI upN; omega
set_option maxHeartbeats 4000000 in
theorem write_good {A : Option Addr} {cap : Nat} {L : List Sg} {w : World} {B : Nat} (e : Int) (he : 0 ≤ e ∧ e ≤ 18446744073709551615) (hm : imayB e L = true) (hL : Sgs w B A cap L) (hB : B ≤ w.heap.size) (hwf : ∀ s ∈ L, s.ok) (hlen : L.length ≤ 140737488351232) :
    Calls Try.prog 19 #[.agg #[.int .u64 e, .slice A L.length cap]] w fun e' w' => e' = .returned (.tuple #[.string ⟨(fileAll e L).toArray⟩, .int .i64 0]) ∧ Below w.heap.size w w' := by
  have hmx : Try.prog.follows .mixedOrders = true := by kernel_rfl
  have hP := imayB_out hm
  have hA : ∀ s ∈ L, SegA s := fun s hs => by
    obtain ⟨j, hj, rfl⟩ := List.getElem_of_mem hs
    exact (hP.2.1 j hj _ (List.getElem?_eq_getElem hj)).1
  have hl4 := hP.1.2
  have hl1 := hP.1.1
  have HEB : Hid (∀ k, k ≤ L.length → 64 + 56 * L.length ≤ endN L k ∧ endN L k ≤ 64 + 56 * L.length + 16640 * k) := fun k hk => endN_bd hA hk
  obtain ⟨W0, hW0⟩ : ∃ W0, w.alloc (.cells #[.int .u64 e, .slice A L.length cap] 25) = W0 := ⟨_, rfl⟩
  have k0 : Below w.heap.size w W0 := by subst hW0; exact (Below.refl _ _).alloc (Nat.le_refl _) _
  have b0 : Box2 W0 w.heap.size e (.slice A L.length cap) := by
    subst hW0
    refine ⟨?_, ?_⟩ <;> simp [go_sem]
  have s0 : W0.heap.size = w.heap.size + 1 := by subst hW0; simp
  have HW0 := Lib.hid hW0
  have HK0 := Lib.hid k0
  have HB0 := Lib.hid b0
  have HS0 := Lib.hid s0
  have HL0 := Lib.hid (Sl.In.below hL (k0.mono hB))
  have HA := Lib.hid hA
  have HWF := Lib.hid hwf
  have HM := Lib.hid hm
  have hz0 : B ≤ W0.heap.size := by omega
  clear hW0 k0 b0 s0 hL hA hwf hm hP
  go_enter Try.func19, Try.ntmps19
  go_wp2_with fail
  rw [HW0.out]
  refine (imay_any e he HL0.out hz0 HWF.out hlen).mono ?_
  rintro e' w1 ⟨rfl, hb1⟩
  rw [HM.out]
  obtain ⟨W1, hW1⟩ : ∃ W1, w1.alloc (.cells #[.pointer none, .slice none 0 0] 96) = W1 := ⟨_, rfl⟩
  obtain ⟨b, hb⟩ : ∃ b, w1.heap.size = b := ⟨_, rfl⟩
  have hbw := hb1.size
  have hwb : w.heap.size < b := by have := HS0.out; omega
  have hk1 : Below b W0 W1 → True := fun _ => trivial
  have i1 : IsB 96 b b (Lib.byteCells []) W1 := by subst hW1 hb; exact isB_new w1
  have HI1 := Lib.hid i1
  have hz1 : b < W1.heap.size := by subst hW1 hb; simp
  have hq1 : Below (w.heap.size + 1) W0 W1 := by rw [HS0.out] at hb1; subst hW1; exact hb1.alloc (by omega) _
  have HQ1 := Lib.hid hq1
  have HX1 := Lib.hid (HB0.out.below hq1 (Nat.lt_succ_self _))
  have HL1 := Lib.hid (Sl.In.below HL0.out (hq1.mono (show B ≤ w.heap.size + 1 by omega)))
  have HW1 := Lib.hid hW1
  have HBB := Lib.hid hb
  have hBb : B ≤ b := by omega
  clear hW1 hb hb1 i1 hq1 hk1 hbw
  go_wp2_with fail
  rw [HW1.out, HBB.out]
  refine (b_wsS bt_out b b _ _ W1 HI1.out (by simp [Lib.byteCells, ByteArray.size]) (Nat.le_of_lt hz1)).mono ?_
  rintro e' w2 ⟨rfl, hI, hb2, _⟩
  have HI2 : Hid (IsB 96 b b (Lib.byteCells begL) w2) := .inr hI
  have HB2 := Lib.hid hb2
  have hz2 : b ≤ w2.heap.size := Nat.le_trans (Nat.le_of_lt hz1) hb2.size
  clear hI hb2
  go_wp2_with fail
  refine (num_new 2 [2, 243] _ (by decide) (by decide) (by decide) HI2.out hz2 (by simp [begL])).mono ?_
  rintro e' w3 ⟨rfl, hI, hb3, _⟩
  have HI3 := Lib.hid hI
  have HB3 := Lib.hid (HB2.out.trans hb3)
  have hz3 : b ≤ w3.heap.size := Nat.le_trans hz2 hb3.size
  clear hI hb3
  go_wp2_with fail
  refine (num_new 4 [1] _ (by decide) (by decide) (by decide) HI3.out hz3 (by simp [begL, numsL_len])).mono ?_
  rintro e' w4 ⟨rfl, hI, hb4, _⟩
  have HI4 := Lib.hid hI
  have HB4 := Lib.hid (HB3.out.trans hb4)
  have hz4 : b ≤ w4.heap.size := Nat.le_trans hz3 hb4.size
  clear hI hb4
  obtain ⟨d0, d1⟩ := HX1.out.below HB4.out hwb
  go_wp2_with fail
  refine (num_new 8 [e, 64, 0] _ (by decide) (by simp) (by simp [he]) HI4.out hz4 (by simp [begL, numsL_len])).mono ?_
  rintro e' w5 ⟨rfl, hI, hb5, _⟩
  have HI5 := Lib.hid hI
  have HB5 := Lib.hid (HB4.out.trans hb5)
  have hz5 : b ≤ w5.heap.size := Nat.le_trans hz4 hb5.size
  clear hI hb5 d0 d1
  go_wp2_with fail
  refine (num_new 4 [0] _ (by decide) (by decide) (by decide) HI5.out hz5 (by simp [begL, numsL_len])).mono ?_
  rintro e' w6 ⟨rfl, hI, hb6, _⟩
  have HI6 := Lib.hid hI
  have HB6 := Lib.hid (HB5.out.trans hb6)
  have hz6 : b ≤ w6.heap.size := Nat.le_trans hz5 hb6.size
  clear hI hb6
  obtain ⟨d0, d1⟩ := HX1.out.below HB6.out hwb
  have e8 : IntKind.u64.wrap (L.length : Int) = L.length := by rw [IntKind.wrap_u64]; omega
  go_wp2_with fail
  refine (num_new 2 [64, 56, L.length, 0, 0, 0] _ (by decide) (by simp) (by intro v hv; simp only [List.mem_cons, List.not_mem_nil, or_false] at hv; omega) HI6.out hz6 (by simp [begL, numsL_len])).mono ?_
  rintro e' w7 ⟨rfl, hI, hb7, _⟩
  rw [head_eq] at hI
  have HI7 := Lib.hid hI
  have HB7 := Lib.hid (HB6.out.trans hb7)
  have hz7 : b ≤ w7.heap.size := Nat.le_trans hz6 hb7.size
  clear hI hb7 d0 d1
  obtain ⟨d0, d1⟩ := HX1.out.below HB7.out hwb
  have e9 : IntKind.u64.wrap (64 + 56 * (L.length : Int)) = ((64 + 56 * L.length : Nat) : Int) := by rw [IntKind.wrap_u64]; omega
  go_wp2
  go_loopw [5, 49] (fun at_ i wr => ∃ k : Nat, k ≤ L.length ∧ i = .int .i64 k ∧ at_ = .int .u64 (endN L k : Nat) ∧ Hid (IsB 96 b b (Lib.byteCells (hdL e L.length ++ tabL L k)) wr) ∧ Hid (Below b w7 wr)) (fun _ i _ => L.length - (intOf i).toNat)
  case atStart => exact ⟨0, Nat.zero_le _, rfl, rfl, by show IsB _ _ _ _ _; simpa [tabL] using HI7.out, Below.refl _ _⟩
  case round =>
    obtain ⟨k, hk, rfl, rfl, hI, hbw⟩ := hrel
    have hzr : b ≤ wr.heap.size := Nat.le_trans hz7 hbw.out.size
    by_cases hlt : k < L.length
    · obtain ⟨b', off, rfl, hb', c0, c1, c2, c3⟩ := Sgs.sg (Sl.In.below HL1.out ((HB7.out.trans hbw.out).mono hBb)) hlt
      have ho := HWF.out _ (List.getElem_mem hlt)
      have hS := HA.out _ (List.getElem_mem hlt)
      have hTL := tabL_succ hlt
      have hEB := HEB.out k (by omega)
      have hEN := endN_succ hlt
      have hEB2 := HEB.out (k + 1) hlt
      obtain ⟨s, hs⟩ : ∃ s, L[k] = s := ⟨_, rfl⟩
      rw [hs] at c0 c1 c2 c3 ho hS hTL hEN
      obtain ⟨N, hN⟩ : ∃ N, endN L k = N := ⟨_, rfl⟩
      obtain ⟨E, hE⟩ : ∃ E, endN L (k + 1) = E := ⟨_, rfl⟩
      obtain ⟨F, hF⟩ : ∃ F, upN N = F := ⟨_, rfl⟩
      rw [hN] at hEB hEN hTL
      rw [hE] at hEB2 hEN
      rw [hF] at hEN
      have hFb : N ≤ F ∧ F ≤ N + 255 := by rw [← hF]; unfold upN; omega
      have hpu := pagesI_up N
      rw [hF] at hpu
      have hpg : 0 ≤ pagesI (N : Int) ∧ pagesI (N : Int) ≤ 100000 := by unfold pagesI; omega
      obtain ⟨PG, hPG⟩ : ∃ PG, pagesI (N : Int) = PG := ⟨_, rfl⟩
      rw [hPG] at hpg hpu
      have i1 : (0 : Int) ≤ (k : Int) := by omega
      have i2 : (k : Int) < (L.length : Int) := by omega
      obtain ⟨W2, hW2⟩ : ∃ W2, wr.alloc (.cells #[.int .u64 s.at_, .int .i64 s.perm, .string s.data, .int .u64 s.size] 29) = W2 := ⟨_, rfl⟩
      have g2 : W2.heap[wr.heap.size]? = some (.cells #[.int .u64 s.at_, .int .i64 s.perm, .string s.data, .int .u64 s.size] 29) := by subst hW2; exact heap_alloc_new wr _
      have hI2 : Hid (IsB 96 b b (Lib.byteCells (hdL e L.length ++ tabL L k)) W2) := by subst hW2; exact isB_alloc hI.out _
      have hb2 : Hid (Below b w7 W2) := by subst hW2; exact hbw.out.alloc hzr _
      have hz2' : b ≤ W2.heap.size := by subst hW2; simp; omega
      have HW2 := Lib.hid hW2
      have HS := Lib.hid hs
      have HF := Lib.hid hF
      have HPG := Lib.hid hPG
      have HNN := Lib.hid hN
      have HEE := Lib.hid hE
      clear hs hW2 hI hbw
      go_wp2_with fail
      rw [HW2.out, HNN.out]
      refine (pages_any (N : Int) W2 (by omega)).mono ?_
      rintro e' w8 ⟨rfl, rfl⟩
      rw [HPG.out]
      obtain ⟨o0, o1, o2, o3⟩ := ho
      obtain ⟨q1, q2, q3, q4, q5, q6⟩ := hS
      have a1 : W2.cell? ⟨wr.heap.size, 1, none⟩ = some (.int .i64 s.perm) := by rw [Lib.cell_of_heap g2]; rfl
      have e10 : IntKind.u64.wrap (PG * 256) = (F : Int) := by rw [IntKind.wrap_u64]; omega
      have e11 : IntKind.u64.wrap s.perm = s.perm := by rw [IntKind.wrap_u64]; omega
      have e12 : IntKind.u64.wrap (s.data.size : Int) = s.data.size := by rw [IntKind.wrap_u64]; omega
      have e13 : IntKind.u64.wrap ((F : Int) + s.data.size) = (E : Int) := by rw [IntKind.wrap_u64]; omega
      have htl : (tabL L k).length ≤ 1000 := by rw [tabL_len hk]; omega
      have HTL := Lib.hid hTL
      have HTN := Lib.hid htl
      have HGG := Lib.hid g2
      clear hTL htl g2 q1 q4 hEN hN hE hF hPG hpu
      go_wp2_with fail
      refine (num_new 4 [1, s.perm] _ (by decide) (by simp) (by intro v hv; simp only [List.mem_cons, List.not_mem_nil, or_false] at hv; omega) hI2.out hz2' (by have := HTN.out; rw [List.length_append, hdL_len]; omega)).mono ?_
      rintro e' w9 ⟨rfl, hI, hb9, hst⟩
      have HI9 := Lib.hid hI
      have HB9 := Lib.hid (hb2.out.trans hb9)
      have hz9 : b ≤ w9.heap.size := Nat.le_trans hz2' hb9.size
      have HG9 := Lib.hid (hst _ _ _ _ HGG.out (by decide) (by decide))
      have a0 : w9.cell? ⟨wr.heap.size, 0, none⟩ = some (.int .u64 s.at_) := by rw [Lib.cell_of_heap HG9.out]; rfl
      have a2 : w9.cell? ⟨wr.heap.size, 2, none⟩ = some (.string s.data) := by rw [Lib.cell_of_heap HG9.out]; rfl
      have a3 : w9.cell? ⟨wr.heap.size, 3, none⟩ = some (.int .u64 s.size) := by rw [Lib.cell_of_heap HG9.out]; rfl
      clear hI hb9 hst
      go_wp2_with fail
      refine (num_new 8 [F, s.at_, s.at_, s.data.size, s.size, 256] _ (by decide) (by simp) (by intro v hv; simp only [List.mem_cons, List.not_mem_nil, or_false] at hv; omega) HI9.out hz9 (by have := HTN.out; rw [List.length_append, List.length_append, hdL_len, numsL_len]; simp; omega)).mono ?_
      rintro e' w10 ⟨rfl, hI, hb10, hst⟩
      have hI3 : Hid (IsB 96 b b (Lib.byteCells (hdL e L.length ++ tabL L (k + 1))) w10) := by
        show IsB _ _ _ _ _
        rw [HTL.out, HF.out]
        rw [List.append_assoc, List.append_assoc] at hI
        exact hI
      have HB10 := Lib.hid (HB9.out.trans hb10)
      have a4 : w10.cell? ⟨wr.heap.size, 2, none⟩ = some (.string s.data) := by rw [Lib.cell_of_heap (hst _ _ _ _ HG9.out (by decide) (by decide))]; rfl
      clear hI hb10 hst a0 a1 a2 a3
      go_wp2
      exact ⟨⟨k + 1, hlt, by go_num, by rw [HEE.out], hI3, HB10⟩, by simp [intOf]; omega⟩
    · obtain rfl : k = L.length := by omega
      have hI0 : Hid (IsB 96 b b (Lib.byteCells (fileL e L 0)) wr) := hI
      obtain ⟨f0, f1⟩ := HX1.out.below (HB7.out.trans hbw.out) hwb
      clear hI
      go_wp2
      obtain ⟨wo, rfl⟩ : ∃ wo, wo = wr := ⟨_, rfl⟩
      go_loopw [86] (fun i wr => ∃ k : Nat, k ≤ L.length ∧ i = .int .i64 k ∧ Hid (IsB 96 b b (Lib.byteCells (fileL e L k)) wr) ∧ Hid (Below b wo wr)) (fun i _ => L.length - (intOf i).toNat)
      case atStart => exact ⟨0, Nat.zero_le _, rfl, hI0, Below.refl _ _⟩
      case round =>
        clear hI0 f0 f1
        obtain ⟨k, hk, rfl, hI, hbq⟩ := hrel
        have hzq : b ≤ wr.heap.size := Nat.le_trans hzr hbq.out.size
        by_cases hlt : k < L.length
        · obtain ⟨b', off, rfl, hb', c0, c1, c2, c3⟩ := Sgs.sg (Sl.In.below HL1.out ((HB7.out.trans (hbw.out.trans hbq.out)).mono hBb)) hlt
          have hS := (HA.out _ (List.getElem_mem hlt)).2.2.2.2
          have hFS := fileL_succ (e := e) hlt
          have hfl : (fileL e L k).length ≤ 1000000 := by rw [fileL_len (by omega)]; have := HEB.out k (by omega); omega
          obtain ⟨s, hs⟩ : ∃ s, L[k] = s := ⟨_, rfl⟩
          rw [hs] at c0 c1 c2 c3 hS hFS
          have hpl : (fileL e L k ++ List.replicate (padN (fileL e L k).length) 0).length ≤ 1000255 := by rw [List.length_append, List.length_replicate]; unfold padN; omega
          have i1 : (0 : Int) ≤ (k : Int) := by omega
          have i2 : (k : Int) < (L.length : Int) := by omega
          obtain ⟨W2, hW2⟩ : ∃ W2, wr.alloc (.cells #[.int .u64 s.at_, .int .i64 s.perm, .string s.data, .int .u64 s.size] 29) = W2 := ⟨_, rfl⟩
          have g2 : W2.heap[wr.heap.size]? = some (.cells #[.int .u64 s.at_, .int .i64 s.perm, .string s.data, .int .u64 s.size] 29) := by subst hW2; exact heap_alloc_new wr _
          have hI2 : Hid (IsB 96 b b (Lib.byteCells (fileL e L k)) W2) := by subst hW2; exact isB_alloc hI.out _
          have hb2 : Hid (Below b wo W2) := by subst hW2; exact hbq.out.alloc hzq _
          have hz2' : b ≤ W2.heap.size := by subst hW2; simp; omega
          have HW2 := Lib.hid hW2
          have HFS := Lib.hid hFS
          have HFL := Lib.hid hfl
          have HPL := Lib.hid hpl
          clear hs hW2 hI hbq hFS hfl hpl
          go_wp2_with fail
          rw [HW2.out]
          refine (pad_any (fileL e L k) hI2.out hz2' (by have := HFL.out; omega)).mono ?_
          rintro e' w8 ⟨rfl, hI, hb8, hst⟩
          have HI8 := Lib.hid hI
          have HB8 := Lib.hid (hb2.out.trans hb8)
          have hz8 : b ≤ w8.heap.size := Nat.le_trans hz2' hb8.size
          have a2 : w8.cell? ⟨wr.heap.size, 2, none⟩ = some (.string s.data) := by rw [Lib.cell_of_heap (hst _ _ _ _ g2 (by decide) (by decide))]; rfl
          clear hI hb8 hst g2
          go_wp2_with fail
          go_still_tail 5, hmx
          go_wp2_with fail
          refine (b_wsS bt_out b b _ s.data w8.drew HI8.out (by have := HPL.out; rw [Lib.byteCells_length]; omega) hz8).mono ?_
          rintro e' w9 ⟨rfl, hI, hb9, _⟩
          have hI3 : Hid (IsB 96 b b (Lib.byteCells (fileL e L (k + 1))) w9) := by
            show IsB _ _ _ _ _
            rw [HFS.out, ← List.append_assoc, Lib.byteCells_append, ← Lib.strCells_eq]
            exact .inr hI
          have HB9 : Hid (Below b wo w9) := HB8.out.drew.trans hb9
          clear hI hb9 a2
          go_wp2
          exact ⟨⟨k + 1, hlt, by go_num, hI3, HB9⟩, by simp [intOf]; omega⟩
        · obtain rfl : k = L.length := by omega
          have hne : fileL e L L.length ≠ [] := fun h0 => by
            have h1 := congrArg List.length h0
            rw [fileL_len (Nat.le_refl _)] at h1
            have := (HEB.out L.length (Nat.le_refl _)).1
            simp at h1
            omega
          have HNE := Lib.hid hne
          clear hne
          go_wp2_with fail
          refine (bf_str b b _ wr (isBF_of hI.out) HNE.out).mono ?_
          rintro e' w9 ⟨rfl, _, hb9⟩
          have hfin : Below w.heap.size w w9 := HK0.out.trans ((HQ1.out.trans ((HB7.out.trans (hbw.out.trans (hbq.out.trans hb9))).mono (Nat.succ_le_of_lt hwb))).mono (Nat.le_succ _))
          go_wp2
          go_ret2
          exact ⟨rfl, hfin⟩
end Go.Proofs.Ytclghfekmmcfjaa
