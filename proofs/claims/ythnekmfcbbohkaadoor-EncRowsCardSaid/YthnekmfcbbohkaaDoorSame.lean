/- The reference's Same: two programs compared. -/
import Derived.Test.YthnekmfcbbohkaaDoorBytes
import Derived.Deep.QuietTactic
import Derived.BigQuiet
import Derived.IntWalk
namespace Go.Proofs.YthnekmfcbbohkaaDoor
open Go.ChangeShapes Go.WideShapes Go.ChangeAt Go.RowKit Go.Deep
set_option maxRecDepth 100000
theorem OpD.same {a b : OpD} : (a.kind = b.kind ∧ a.rd = b.rd ∧ a.a = b.a ∧ a.b = b.b ∧ a.imm = b.imm) ↔ a = b := by
  cases a; cases b; simp
instance : DecidableEq OpD := fun _ _ => decidable_of_iff _ OpD.same
set_option maxHeartbeats 1600000 in
theorem same_any {A A2 : Option Addr} {cap cap2 : Nat} {L L2 : List OpD} {w : World} {B : Nat} (hL : Sl.In w B 5 OpD.cells ⟨A, cap, L⟩) (hL2 : Sl.In w B 5 OpD.cells ⟨A2, cap2, L2⟩) (hB : B ≤ w.heap.size) (hlen : L.length ≤ 1000000) :
    Calls Tryd.prog 23 #[.slice A L.length cap, .slice A2 L2.length cap2] w fun e w' => e = .returned (.bool (decide (L = L2))) ∧ Below w.heap.size w w' := by
  by_cases hll : L.length = L2.length
  · have HLL := Lib.hid hll
    have hc : ((L.length : Int) != (L2.length : Int)) = false := by simp; omega
    clear hll
    go_enter Tryd.func23, Tryd.ntmps23
    go_wp2
    go_loopw [5] (fun i wr => ∃ k : Nat, k ≤ L.length ∧ i = .int .i64 k ∧ Below w.heap.size w wr ∧ Hid (L.take k = L2.take k)) (fun i _ => L.length - (intOf i).toNat)
    case atStart => exact ⟨0, Nat.zero_le _, rfl, Below.refl _ _, rfl⟩
    case round =>
      obtain ⟨k, hk, rfl, hbw, hno⟩ := hrel
      by_cases hlt : k < L.length
      · have hlt2 : k < L2.length := by have := HLL.out; omega
        obtain ⟨b, off, rfl, hb, c0, c1, c2, c3, c4⟩ := (hL.below (hbw.mono hB)).op hlt
        obtain ⟨b', off', rfl, hb', d0, d1, d2, d3, d4⟩ := (hL2.below (hbw.mono hB)).op hlt2
        have i1 : (0 : Int) ≤ (k : Int) := by omega
        have i2 : (k : Int) < (L.length : Int) := by omega
        have i3 : (k : Int) < (L2.length : Int) := by omega
        by_cases he : L[k] = L2[k]
        · have hst : L.take (k + 1) = L2.take (k + 1) := by
            rw [List.take_succ_eq_append_getElem hlt, List.take_succ_eq_append_getElem hlt2, hno.out, he]
          have HST := Lib.hid hst
          clear hst
          go_wp2_with fail
          go_quiet (fail)
          go_wp2
          exact ⟨⟨k + 1, hlt, by go_num, below_drewN hbw _, HST.out⟩, by simp [intOf]; omega⟩
        · have hd : decide (L = L2) = false := decide_eq_false fun e => he (by subst e; rfl)
          have hne : (¬ (L[k]).kind = (L2[k]).kind) ∨ ((L[k]).kind = (L2[k]).kind ∧ ¬ (L[k]).rd = (L2[k]).rd) ∨ ((L[k]).kind = (L2[k]).kind ∧ (L[k]).rd = (L2[k]).rd ∧ ¬ (L[k]).a = (L2[k]).a) ∨ ((L[k]).kind = (L2[k]).kind ∧ (L[k]).rd = (L2[k]).rd ∧ (L[k]).a = (L2[k]).a ∧ ¬ (L[k]).b = (L2[k]).b) ∨ ((L[k]).kind = (L2[k]).kind ∧ (L[k]).rd = (L2[k]).rd ∧ (L[k]).a = (L2[k]).a ∧ (L[k]).b = (L2[k]).b ∧ ¬ (L[k]).imm = (L2[k]).imm) := by
            have : ¬ _ := fun h => he (OpD.same.1 h)
            omega
          have HD := Lib.hid hd
          clear hd he
          rcases hne with h0 | ⟨h0, h1⟩ | ⟨h0, h1, h2⟩ | ⟨h0, h1, h2, h3⟩ | ⟨h0, h1, h2, h3, h4⟩
          · have e0 : ((L[k]).kind == (L2[k]).kind) = false := beq_eq_false_iff_ne.2 h0
            go_wp2_with fail
            go_quiet (fail)
            go_wp2
            go_ret
            rw [HD.out]
            exact ⟨rfl, below_drewN hbw _⟩
          · have e0 : ((L[k]).kind == (L2[k]).kind) = true := beq_iff_eq.2 h0
            have e1 : ((L[k]).rd == (L2[k]).rd) = false := beq_eq_false_iff_ne.2 h1
            go_wp2_with fail
            go_quiet (fail)
            go_wp2
            go_ret
            rw [HD.out]
            exact ⟨rfl, below_drewN hbw _⟩
          · have e0 : ((L[k]).kind == (L2[k]).kind) = true := beq_iff_eq.2 h0
            have e1 : ((L[k]).rd == (L2[k]).rd) = true := beq_iff_eq.2 h1
            have e2 : ((L[k]).a == (L2[k]).a) = false := beq_eq_false_iff_ne.2 h2
            go_wp2_with fail
            go_quiet (fail)
            go_wp2
            go_ret
            rw [HD.out]
            exact ⟨rfl, below_drewN hbw _⟩
          · have e0 : ((L[k]).kind == (L2[k]).kind) = true := beq_iff_eq.2 h0
            have e1 : ((L[k]).rd == (L2[k]).rd) = true := beq_iff_eq.2 h1
            have e2 : ((L[k]).a == (L2[k]).a) = true := beq_iff_eq.2 h2
            have e3 : ((L[k]).b == (L2[k]).b) = false := beq_eq_false_iff_ne.2 h3
            go_wp2_with fail
            go_quiet (fail)
            go_wp2
            go_ret
            rw [HD.out]
            exact ⟨rfl, below_drewN hbw _⟩
          · have e0 : ((L[k]).kind == (L2[k]).kind) = true := beq_iff_eq.2 h0
            have e1 : ((L[k]).rd == (L2[k]).rd) = true := beq_iff_eq.2 h1
            have e2 : ((L[k]).a == (L2[k]).a) = true := beq_iff_eq.2 h2
            have e3 : ((L[k]).b == (L2[k]).b) = true := beq_iff_eq.2 h3
            have e4 : ((L[k]).imm == (L2[k]).imm) = false := beq_eq_false_iff_ne.2 h4
            go_wp2_with fail
            go_quiet (fail)
            go_wp2
            go_ret
            rw [HD.out]
            exact ⟨rfl, below_drewN hbw _⟩
      · obtain rfl : k = L.length := by omega
        have he : decide (L = L2) = true := by
          apply decide_eq_true
          have := hno.out
          rwa [List.take_length, HLL.out, List.take_length] at this
        have HE := Lib.hid he
        clear he
        go_wp2
        go_ret
        rw [HE.out]
        exact ⟨rfl, hbw⟩
  · have hc : ((L.length : Int) != (L2.length : Int)) = true := by simp; omega
    have hd : decide (L = L2) = false := decide_eq_false fun e => hll (by rw [e])
    have HD := Lib.hid hd
    clear hd
    go_enter Tryd.func23, Tryd.ntmps23
    go_wp2
    go_ret
    rw [HD.out]
    exact ⟨rfl, Below.refl _ _⟩
end Go.Proofs.YthnekmfcbbohkaaDoor
