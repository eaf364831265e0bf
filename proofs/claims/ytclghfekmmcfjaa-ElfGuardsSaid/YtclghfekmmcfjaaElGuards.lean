/- ElfGuards: no page of a loaded image is written and holds instructions; where it begins a page holds some: the walk. -/
import Derived.Test.YtclghfekmmcfjaaElLoad
import Derived.Test.YtclghfekmmcfjaaElShown
import Derived.Test.YtclghfekmmcfjaaElLaw
import Derived.BigQuiet
import Derived.Deep.QuietTactic
import Derived.OrdersHeld
namespace Go.Proofs.Ytclghfekmmcfjaa
open Go.ChangeShapes Go.WideShapes Go.ChangeAt Go.RowKit Go.Deep Go.Maps Go.WideMaps
set_option maxRecDepth 100000
attribute [-go_sem] loadVar storeVar
@[go_sem] theorem lvPg (a : Addr) : Go.loadVar 47 a = (do if ← isAgg 47 then pure (.agg (← loadCells a (← sizeOf 47))) else load a) := rfl
@[go_sem] theorem svPg (a : Addr) (v : Value) : Go.storeVar 47 a v = (do
  if v.cells.size ≠ (← sizeOf 47) then stuck "storeVar: the value has not the size of the variable"
  storeCells a v.cells.toList) := rfl
def goodE (e : Int) (p : Pg) : Bool := decide (p.perm % 2 = 1 ∧ p.at_ ≤ e ∧ e - p.at_ < 256)
set_option maxHeartbeats 4000000 in
theorem eguards_any {A : Option Addr} {cap : Nat} {L : List Sg} {w : World} {e : Int} (inp : ByteArray) (he : 0 ≤ e ∧ e ≤ 18446744073709551615) (hG : SgG w A cap L) (_hi : inp.size ≤ 140737488351232) :
    Calls Try.prog 7 #[.agg #[.int .u64 e, .slice A L.length cap], .string inp] w fun r w' => r = .returned (.bool true) ∧ Below w.heap.size w w' := by
  obtain ⟨hL, _, hwf, hlen⟩ := hG
  obtain ⟨W0, hW0⟩ : ∃ W0, w.alloc (.cells #[.int .u64 e, .slice A L.length cap] 25) = W0 := ⟨_, rfl⟩
  have k0 : Below w.heap.size w W0 := by subst hW0; exact (Below.refl _ _).alloc (Nat.le_refl _) _
  have b0 : Box2 W0 w.heap.size e (.slice A L.length cap) := by
    subst hW0
    refine ⟨?_, ?_⟩ <;> simp [go_sem]
  have z0 : W0.heap.size = w.heap.size + 1 := by subst hW0; simp
  have HB0 := Lib.hid k0
  have HI0 := Lib.hid b0
  have HWF := Lib.hid hwf
  have HL := Lib.hid hL
  clear hwf k0 b0 hL
  go_enter Try.func7, Try.ntmps7
  go_wp2_with fail
  refine (ishown_any _).mono ?_
  rintro r w1 ⟨rfl, hb1⟩
  have HB1 := Lib.hid (HB0.out.trans (hb1.mono HB0.out.size))
  have HI1 := Lib.hid (HI0.out.below hb1 (by omega))
  have s1 := hb1.size
  clear hb1
  obtain ⟨c0, c1⟩ := HI1.out
  go_wp2_with fail
  refine (iload_any e inp he (Sl.In.below HL.out HB1.out) (by omega) HWF.out hlen).mono ?_
  rintro r w2 ⟨A2, d2, rfl, hb2, hM2, hn2⟩
  obtain ⟨R, hR⟩ : ∃ R, R = (imMc e L inp).home A2 d2 := ⟨_, rfl⟩
  rw [← hR]
  have hlR : R.x.length = 32 := by rw [hR]; exact imMc_len e L inp
  have HB2 := Lib.hid (HB1.out.trans (hb2.mono HB1.out.size))
  have HI2 := Lib.hid (HI1.out.below hb2 (by omega))
  have HM2 := Lib.hid hM2
  have HR := Lib.hid hR
  have s2 := hb2.size
  obtain ⟨W3, h3, s3, x3, b3, _⟩ := mach_more w2
  obtain ⟨W4, h4, x4, s4, b4, _⟩ := x3.lay rfl R hlR
  have HB4 := Lib.hid ((HB2.out.trans (b3.mono HB2.out.size)).trans (b4.mono HB2.out.size))
  have HX4 := Lib.hid x4
  have HI4 := Lib.hid ((HI2.out.below b3 (by omega)).below b4 (by omega))
  have HM4 := Lib.hid (show Mem W4 w2.heap.size A2 d2 (imMc e L inp).mem from Sl.In.below hM2 (b3.trans b4))
  clear c0 c1 hb2 hM2 hn2 hR x3 b3 x4 b4
  obtain ⟨c0, c1⟩ := HI4.out
  obtain ⟨E, hE⟩ : ∃ E, E = imE e L := ⟨_, rfl⟩
  rw [← hE]
  by_cases hE0 : E = 0
  rotate_left
  · have g : (E != 0) = true := by simpa using hE0
    clear hE hE0
    go_wp2
    go_ret
    exact ⟨rfl, HB4.out⟩
  subst hE0
  have hE' : imE e L = 0 := hE.symm
  clear hE
  have hm : imMc e L inp = ⟨List.replicate 32 0, e, none, 0, ldM L L.length, inp, ByteArray.empty, 0, 0, 0⟩ := by unfold imMc; rw [if_pos hE']
  have hME : ∃ p ∈ ldM L L.length, goodE e p = true := by
    obtain ⟨p, hp, h1, h2, h3⟩ := imE_entry hE'
    exact ⟨p, hp, decide_eq_true ⟨h1, h2, h3⟩⟩
  have hMP : ∀ p ∈ ldM L L.length, p.perm % 4 ≠ 3 := fun p hp => imE_page hE' hp
  have hMR := ldM_right L L.length
  have hMW : Mem W4 w2.heap.size A2 d2 (ldM L L.length) := by have := HM4.out; rw [hm] at this; exact this
  have hMO := ldM_ok HWF.out L.length
  have hRR : R = ⟨List.replicate 32 0, e, A2, d2, ldM L L.length, inp, ByteArray.empty, 0, 0, 0⟩ := by rw [HR.out, hm]; rfl
  generalize ldM L L.length = M at hMW hMR hMO hME hMP hRR
  have hml := hMR.1
  obtain ⟨q0, q1, q2, q3, q4, -, -⟩ := HX4.out.tail hlR
  have r0 : R.pc = e := by rw [hRR]
  have r1 : R.mem.length = M.length ∧ R.a = A2 ∧ R.cap = d2 := by rw [hRR]; exact ⟨rfl, rfl, rfl⟩
  have r2 : R.inp = inp := by rw [hRR]
  have r3 : R.out = ⟨#[]⟩ := by rw [hRR]; rfl
  have r4 : R.state = 0 := by rw [hRR]
  rw [r0] at q0
  rw [r1.1, r1.2.1, r1.2.2] at q1
  rw [r2] at q2
  rw [r3] at q3
  rw [r4] at q4
  have HMW := Lib.hid hMW
  have HME := Lib.hid hME
  have HMP := Lib.hid hMP
  have HMR := Lib.hid hMR
  have HMO := Lib.hid hMO
  have hz : w.heap.size < W4.heap.size := by omega
  have hz2 : w2.heap.size < W4.heap.size := by omega
  have HQ := Lib.hid (And.intro q0 (And.intro q1 (And.intro q2 (And.intro q3 q4))))
  clear hm hME hMP hMR hMW hMO hRR r0 r1 r2 r3 r4 q0 q2 q3 q4 HM2 HX4 HR HM4
  clear c0 c1
  go_wp2_with fail
  clear q1 h3 h4
  go_loopw [8, 9] (fun b i wr => ∃ k : Nat, k ≤ M.length ∧ b = .bool ((M.take k).any (goodE e)) ∧ i = .int .i64 k ∧ Hid (Below W4.heap.size W4 wr)) (fun _ i _ => M.length - (intOf i).toNat)
  case atStart => exact ⟨0, Nat.zero_le _, rfl, rfl, Below.refl _ _⟩
  case round =>
    obtain ⟨k, hk, rfl, rfl, hbw⟩ := hrel
    obtain ⟨c0, c1⟩ := HI4.out.below hbw.out hz
    have q0 := (hbw.out.cell (p := ⟨w2.heap.size, 32, none⟩) hz2).trans HQ.out.1
    have q1 := (hbw.out.cell (p := ⟨w2.heap.size, 33, none⟩) hz2).trans HQ.out.2.1
    have q2 := (hbw.out.cell (p := ⟨w2.heap.size, 34, none⟩) hz2).trans HQ.out.2.2.1
    have q3 := (hbw.out.cell (p := ⟨w2.heap.size, 35, none⟩) hz2).trans HQ.out.2.2.2.1
    have q4 := (hbw.out.cell (p := ⟨w2.heap.size, 36, none⟩) hz2).trans HQ.out.2.2.2.2
    by_cases hlt : k < M.length
    · have hMw := Sl.In.below HMW.out (hbw.out.mono (Nat.le_of_lt hz2))
      obtain ⟨b, off, rfl, hb, d0, d1, d2'⟩ := Mem.pg hMw hlt
      obtain ⟨p1, p2, p3, p4, p5⟩ := HMR.out.2 k hlt _ (List.getElem?_eq_getElem hlt)
      have p6 := HMP.out _ (List.getElem_mem hlt)
      obtain ⟨p7, -⟩ := HMO.out _ (List.getElem_mem hlt)
      have htk : (M.take (k + 1)).any (goodE e) = ((M.take k).any (goodE e) || goodE e M[k]) := by
        rw [List.take_succ_eq_append_getElem hlt, List.any_append]; simp
      have HTK := Lib.hid htk
      have i1 : (0 : Int) ≤ (k : Int) := by omega
      have i2 : (k : Int) < (M.length : Int) := by omega
      have g1 : ((M[k]).perm % 4 == 3) = false := by simpa using p6
      have g3 : ((M[k]).data.size : Int) = 256 := by omega
      have hPre : Hid (∀ (hk0 : 0 < k), (M[k - 1]'(by omega)).at_ < (M[k]).at_) := fun hk0 => p5 _ hk0 (List.getElem?_eq_getElem (by omega))
      obtain ⟨p, hp⟩ : ∃ p, p = M[k] := ⟨_, rfl⟩
      rw [← hp] at d0 d1 d2' p1 p2 p3 p4 p6 p7 g1 g3 hPre HTK
      obtain ⟨W5, hW5⟩ : ∃ W5, wr.alloc (.cells #[.int .u64 p.at_, .int .i64 p.perm, .string p.data] 47) = W5 := ⟨_, rfl⟩
      have a0 : W5.cell? ⟨wr.heap.size, 0, none⟩ = some (.int .u64 p.at_) := by subst hW5; simp [go_sem]
      have a1 : W5.cell? ⟨wr.heap.size, 1, none⟩ = some (.int .i64 p.perm) := by subst hW5; simp [go_sem]
      have a2 : W5.cell? ⟨wr.heap.size, 2, none⟩ = some (.string p.data) := by subst hW5; simp [go_sem]
      have hb5 : Hid (Below W4.heap.size W4 W5) := by subst hW5; exact hbw.out.alloc hbw.out.size _
      have HW5 := Lib.hid hW5
      clear hp p1 p4 p5 p6 hW5 hMw htk
      go_wp2_with fail
      rw [HW5.out]
      clear c0 c1 d0 d1 d2' q0 q1 q2 q3 q4
      have hzw : W4.heap.size ≤ wr.heap.size := hbw.out.size
      obtain ⟨c0, c1⟩ := HI4.out.below hb5.out hz
      have q1 := (hb5.out.cell (p := ⟨w2.heap.size, 33, none⟩) hz2).trans HQ.out.2.1
      have hMv := Sl.In.below HMW.out (hb5.out.mono (Nat.le_of_lt hz2))
      by_cases hk0 : k = 0
      · have g5 : decide ((0 : Int) < (k : Int)) = false := decide_eq_false (by omega)
        go_quiet (fail)
        cases hbt : (M.take k).any (goodE e) with
        | true =>
          cases hgd : goodE e p <;> (go_wp2; exact ⟨⟨k + 1, hlt, by rw [HTK.out, hbt, hgd]; rfl, by go_num, below_drewN hb5.out _⟩, by simp [intOf]; omega⟩)
        | false =>
          by_cases f1 : p.perm % 2 = 1
          · have f1' : (p.perm % 2 == 1) = true := by simpa using f1
            by_cases f2 : p.at_ ≤ e
            · have e2 : IntKind.u64.wrap (e - p.at_) = e - p.at_ := by rw [IntKind.wrap_u64]; omega
              by_cases f3 : e - p.at_ < 256
              · have hgd : goodE e p = true := decide_eq_true ⟨f1, f2, f3⟩
                go_wp2
                exact ⟨⟨k + 1, hlt, by rw [HTK.out, hbt, hgd]; rfl, by go_num, below_drewN hb5.out _⟩, by simp [intOf]; omega⟩
              · have hgd : goodE e p = false := decide_eq_false fun h => f3 h.2.2
                go_wp2
                exact ⟨⟨k + 1, hlt, by rw [HTK.out, hbt, hgd]; rfl, by go_num, below_drewN hb5.out _⟩, by simp [intOf]; omega⟩
            · have hgd : goodE e p = false := decide_eq_false fun h => f2 h.2.1
              go_wp2
              exact ⟨⟨k + 1, hlt, by rw [HTK.out, hbt, hgd]; rfl, by go_num, below_drewN hb5.out _⟩, by simp [intOf]; omega⟩
          · have f1' : (p.perm % 2 == 1) = false := by simpa using f1
            have hgd : goodE e p = false := decide_eq_false fun h => f1 h.1
            go_wp2
            exact ⟨⟨k + 1, hlt, by rw [HTK.out, hbt, hgd]; rfl, by go_num, below_drewN hb5.out _⟩, by simp [intOf]; omega⟩
      · have g5 : decide ((0 : Int) < (k : Int)) = true := decide_eq_true (by omega)
        have j1 : (0 : Int) ≤ (k : Int) - 1 := by omega
        have j2 : (k : Int) - 1 < (M.length : Int) := by omega
        have j3 : IntKind.i64.wrap ((k : Int) - 1) = (k : Int) - 1 := IntWalk.i64_in _ (by omega)
        have j4 : ((k : Int) - 1).toNat = k - 1 := by omega
        obtain ⟨b', off', hA', hb', d0, d1, d2'⟩ := Mem.pg hMv (show k - 1 < M.length by omega)
        obtain ⟨rfl, rfl⟩ : b = b' ∧ off = off' := by simpa using hA'
        have hlt2 := hPre.out (by omega)
        have g6 : ¬ p.at_ ≤ (M[k - 1]'(by omega)).at_ := by omega
        have g7 : decide (p.at_ ≤ (M[k - 1]'(by omega)).at_) = false := decide_eq_false g6
        have g8 : (p.perm.tmod 4 == 3) = false := by rw [Int.tmod_eq_emod_of_nonneg p2]; exact g1
        have g5n : decide (0 < k) = true := decide_eq_true (by omega)
        clear d1 d2' hA'
        go_quiet (fail)
        cases hbt : (M.take k).any (goodE e) with
        | true =>
          cases hgd : goodE e p <;> (go_wp2; exact ⟨⟨k + 1, hlt, by rw [HTK.out, hbt, hgd]; rfl, by go_num, below_drewN hb5.out _⟩, by simp [intOf]; omega⟩)
        | false =>
          by_cases f1 : p.perm % 2 = 1
          · have f1' : (p.perm % 2 == 1) = true := by simpa using f1
            by_cases f2 : p.at_ ≤ e
            · have e2 : IntKind.u64.wrap (e - p.at_) = e - p.at_ := by rw [IntKind.wrap_u64]; omega
              by_cases f3 : e - p.at_ < 256
              · have hgd : goodE e p = true := decide_eq_true ⟨f1, f2, f3⟩
                go_wp2
                exact ⟨⟨k + 1, hlt, by rw [HTK.out, hbt, hgd]; rfl, by go_num, below_drewN hb5.out _⟩, by simp [intOf]; omega⟩
              · have hgd : goodE e p = false := decide_eq_false fun h => f3 h.2.2
                go_wp2
                exact ⟨⟨k + 1, hlt, by rw [HTK.out, hbt, hgd]; rfl, by go_num, below_drewN hb5.out _⟩, by simp [intOf]; omega⟩
            · have hgd : goodE e p = false := decide_eq_false fun h => f2 h.2.1
              go_wp2
              exact ⟨⟨k + 1, hlt, by rw [HTK.out, hbt, hgd]; rfl, by go_num, below_drewN hb5.out _⟩, by simp [intOf]; omega⟩
          · have f1' : (p.perm % 2 == 1) = false := by simpa using f1
            have hgd : goodE e p = false := decide_eq_false fun h => f1 h.1
            go_wp2
            exact ⟨⟨k + 1, hlt, by rw [HTK.out, hbt, hgd]; rfl, by go_num, below_drewN hb5.out _⟩, by simp [intOf]; omega⟩
    · obtain rfl : k = M.length := by omega
      have hev : (M.take M.length).any (goodE e) = true := by rw [List.take_length]; exact List.any_eq_true.2 HME.out
      have hfin := HB4.out.trans (hbw.out.mono (by have := HB4.out.size; omega))
      rw [hev]
      clear hev
      go_wp2
      go_ret
      exact ⟨rfl, hfin⟩
end Go.Proofs.Ytclghfekmmcfjaa
