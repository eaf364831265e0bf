/- place.hangs, place.set, slices.Clone at instructions. -/
import Derived.Test.YtajhehmkdlebbaaDoorPlTab2
import Derived.Lib.LazyBuf
import Derived.Deep.DeepAppendWide
import Derived.Laws.OwnMore
namespace Go.Proofs.YtajhehmkdlebbaaDoor.Pl
open Go.ChangeShapes Go.WideShapes Go.ChangeAt Go.RowKit Go.Deep
set_option maxRecDepth 100000
def OpD.zero : OpD := ⟨0, 0, 0, 0, 0⟩
def kindOk (rk k : Int) : Bool := if rk = 1 then (k == 29) else if rk = 2 then (k == 27) else if rk = 3 then (k == 19 || k == 21) else false
def hangsB (ops : List OpD) (r : RelD) : Bool := if 0 ≤ r.at_ ∧ r.at_ < (ops.length : Int) then kindOk r.kind (ops.getD r.at_.toNat OpD.zero).kind else false
set_option maxHeartbeats 1000000 in
theorem hangs_any {w : World} {B : Nat} {nm : ByteArray} {A R : Option Addr} {ca rn rc : Nat} {ops : List OpD} {r : RelD} (hO : (⟨A, ca, ops⟩ : Sl OpD).In w B 5 OpD.cells) (hB : B ≤ w.heap.size) (_hlen : ops.length ≤ 140737488351232) :
    Calls Tryd.prog 78 #[.agg #[.string nm, .slice A ops.length ca, .slice R rn rc], .agg #[.int .i64 r.at_, .int .i64 r.kind, .string r.name]] w fun e w' => e = .returned (.bool (hangsB ops r)) ∧ Below w.heap.size w w' := by
  obtain ⟨at_, rk, rname⟩ := r
  simp only
  have kk : Below w.heap.size w ((w.alloc (.cells #[.string nm, .slice A ops.length ca, .slice R rn rc] 91)).alloc (.cells #[.int .i64 at_, .int .i64 rk, .string rname] 134)) := ((Below.refl _ _).alloc (Nat.le_refl _) _).alloc (by simp) _
  have KK := Lib.hid kk
  by_cases h0 : at_ < 0
  · have hr : hangsB ops ⟨at_, rk, rname⟩ = false := by unfold hangsB; exact if_neg (by simp only; omega)
    rw [hr]
    clear hr kk
    go_enter Tryd.func78, Tryd.ntmps78
    go_wp2
    go_ret
    exact ⟨rfl, KK.out⟩
  · have d0 : decide (at_ < 0) = false := decide_eq_false h0
    by_cases h1 : (ops.length : Int) ≤ at_
    · have hr : hangsB ops ⟨at_, rk, rname⟩ = false := by unfold hangsB; exact if_neg (by simp only; omega)
      rw [hr]
      clear hr kk h0
      go_enter Tryd.func78, Tryd.ntmps78
      go_wp2
      go_ret
      exact ⟨rfl, KK.out⟩
    · have d1 : decide ((ops.length : Int) ≤ at_) = false := decide_eq_false h1
      obtain ⟨q, rfl⟩ := Int.eq_ofNat_of_zero_le (show 0 ≤ at_ by omega)
      have hq : q < ops.length := by omega
      have hr : hangsB ops ⟨(q : Int), rk, rname⟩ = kindOk rk (ops[q]).kind := by
        unfold hangsB
        rw [if_pos (by simp only; omega)]
        simp only [Int.toNat_natCast]
        rw [List.getD_eq_getElem?_getD, List.getElem?_eq_getElem hq]; rfl
      rw [hr]
      obtain ⟨b, off, rfl, hb, hc⟩ := (Sl.In.below hO (kk.mono hB)).at_ hq
      have c0 := hc 0 _ rfl
      rw [Nat.add_zero] at c0
      obtain ⟨k, hk⟩ : ∃ k, k = (ops[q]).kind := ⟨_, rfl⟩
      rw [← hk] at c0 ⊢
      have i1 : (0 : Int) ≤ (q : Int) := by omega
      have i2 : (q : Int) < (ops.length : Int) := by omega
      clear hr hc hk kk h0 h1 hO
      by_cases k1 : rk = 1
      · subst k1
        rw [show kindOk 1 k = (k == 29) from rfl]
        go_enter Tryd.func78, Tryd.ntmps78
        go_wp2
        go_ret
        exact ⟨rfl, KK.out⟩
      by_cases k2 : rk = 2
      · subst k2
        rw [show kindOk 2 k = (k == 27) from rfl]
        go_enter Tryd.func78, Tryd.ntmps78
        go_wp2
        go_ret
        exact ⟨rfl, KK.out⟩
      by_cases k3 : rk = 3
      · subst k3
        by_cases k19 : k = 19
        · subst k19
          rw [show kindOk 3 19 = true from rfl]
          go_enter Tryd.func78, Tryd.ntmps78
          go_wp2
          go_ret
          exact ⟨rfl, KK.out⟩
        · have f19 : (k == 19) = false := by simpa using k19
          rw [show kindOk 3 k = (k == 21) by show (k == 19 || k == 21) = _; rw [f19]; rfl]
          clear k19
          go_enter Tryd.func78, Tryd.ntmps78
          go_wp2
          go_ret
          exact ⟨rfl, KK.out⟩
      · have f1 : (rk == 1) = false := by simpa using k1
        have f2 : (rk == 2) = false := by simpa using k2
        have f3 : (rk == 3) = false := by simpa using k3
        rw [show kindOk rk k = false by unfold kindOk; rw [if_neg k1, if_neg k2, if_neg k3]]
        clear k1 k2 k3
        go_enter Tryd.func78, Tryd.ntmps78
        go_wp2
        go_ret
        exact ⟨rfl, KK.out⟩
def setN (k v own : Int) : Int := if k = 1 then wrap64 (IntKind.u64.wrap (v - own)) else if k = 2 then highI v else lowI v
def setB (k n : Int) : Bool := if k = 1 then decide (-1048576 ≤ n) && decide (n ≤ 1048574) else decide (-2147483648 ≤ n) && decide (n < 2147483648)
set_option maxHeartbeats 1000000 in
theorem set_any (k v own : Int) (w : World) :
    Calls Tryd.prog 79 #[.int .i64 k, .int .u64 v, .int .u64 own] w fun e w' => e = .returned (.tuple #[.int .i64 (setN k v own), .bool (setB k (setN k v own))]) ∧ w = w' := by
  by_cases k1 : k = 1
  · subst k1
    rw [show setN 1 v own = wrap64 (IntKind.u64.wrap (v - own)) from rfl]
    cases b1 : decide (-1048576 ≤ wrap64 (IntKind.u64.wrap (v - own)))
    · rw [show setB 1 (wrap64 (IntKind.u64.wrap (v - own))) = false by unfold setB; rw [if_pos rfl]; rw [b1]; rfl]
      go_enter Tryd.func79, Tryd.ntmps79
      go_wp2_with fail
      refine (low_any _ _).mono ?_
      rintro e w1 ⟨rfl, rfl⟩
      go_wp2
      go_ret2
      exact ⟨rfl, rfl⟩
    · cases b2 : decide (wrap64 (IntKind.u64.wrap (v - own)) ≤ 1048574)
      · rw [show setB 1 (wrap64 (IntKind.u64.wrap (v - own))) = false by unfold setB; rw [if_pos rfl]; rw [b1, b2]; rfl]
        go_enter Tryd.func79, Tryd.ntmps79
        go_wp2_with fail
        refine (low_any _ _).mono ?_
        rintro e w1 ⟨rfl, rfl⟩
        go_wp2
        go_ret2
        exact ⟨rfl, rfl⟩
      · rw [show setB 1 (wrap64 (IntKind.u64.wrap (v - own))) = true by unfold setB; rw [if_pos rfl]; rw [b1, b2]; rfl]
        go_enter Tryd.func79, Tryd.ntmps79
        go_wp2_with fail
        refine (low_any _ _).mono ?_
        rintro e w1 ⟨rfl, rfl⟩
        go_wp2
        go_ret2
        exact ⟨rfl, rfl⟩
  by_cases k2 : k = 2
  · subst k2
    rw [show setN 2 v own = highI v from rfl]
    cases b1 : decide (-2147483648 ≤ highI v)
    · rw [show setB 2 (highI v) = false by unfold setB; rw [if_neg (by omega)]; rw [b1]; rfl]
      go_enter Tryd.func79, Tryd.ntmps79
      go_wp2_with fail
      refine (low_any _ _).mono ?_
      rintro e w1 ⟨rfl, rfl⟩
      go_wp2_with fail
      refine (high_any _ _).mono ?_
      rintro e w1 ⟨rfl, rfl⟩
      go_wp2
      go_ret2
      exact ⟨rfl, rfl⟩
    · cases b2 : decide (highI v < 2147483648)
      · rw [show setB 2 (highI v) = false by unfold setB; rw [if_neg (by omega)]; rw [b1, b2]; rfl]
        go_enter Tryd.func79, Tryd.ntmps79
        go_wp2_with fail
        refine (low_any _ _).mono ?_
        rintro e w1 ⟨rfl, rfl⟩
        go_wp2_with fail
        refine (high_any _ _).mono ?_
        rintro e w1 ⟨rfl, rfl⟩
        go_wp2
        go_ret2
        exact ⟨rfl, rfl⟩
      · rw [show setB 2 (highI v) = true by unfold setB; rw [if_neg (by omega)]; rw [b1, b2]; rfl]
        go_enter Tryd.func79, Tryd.ntmps79
        go_wp2_with fail
        refine (low_any _ _).mono ?_
        rintro e w1 ⟨rfl, rfl⟩
        go_wp2_with fail
        refine (high_any _ _).mono ?_
        rintro e w1 ⟨rfl, rfl⟩
        go_wp2
        go_ret2
        exact ⟨rfl, rfl⟩
  · have f1 : (k == 1) = false := by simpa using k1
    have f2 : (k == 2) = false := by simpa using k2
    rw [show setN k v own = lowI v by unfold setN; rw [if_neg k1, if_neg k2]]
    cases b1 : decide (-2147483648 ≤ lowI v)
    · rw [show setB k (lowI v) = false by unfold setB; rw [if_neg k1]; rw [b1]; rfl]
      go_enter Tryd.func79, Tryd.ntmps79
      go_wp2_with fail
      refine (low_any _ _).mono ?_
      rintro e w1 ⟨rfl, rfl⟩
      go_wp2
      go_ret2
      exact ⟨rfl, rfl⟩
    · cases b2 : decide (lowI v < 2147483648)
      · rw [show setB k (lowI v) = false by unfold setB; rw [if_neg k1]; rw [b1, b2]; rfl]
        go_enter Tryd.func79, Tryd.ntmps79
        go_wp2_with fail
        refine (low_any _ _).mono ?_
        rintro e w1 ⟨rfl, rfl⟩
        go_wp2
        go_ret2
        exact ⟨rfl, rfl⟩
      · rw [show setB k (lowI v) = true by unfold setB; rw [if_neg k1]; rw [b1, b2]; rfl]
        go_enter Tryd.func79, Tryd.ntmps79
        go_wp2_with fail
        refine (low_any _ _).mono ?_
        rintro e w1 ⟨rfl, rfl⟩
        go_wp2
        go_ret2
        exact ⟨rfl, rfl⟩
end Go.Proofs.YtajhehmkdlebbaaDoor.Pl
