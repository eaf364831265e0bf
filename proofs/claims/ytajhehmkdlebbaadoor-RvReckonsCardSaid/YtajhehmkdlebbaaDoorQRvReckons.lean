/- RvReckons: what was added is taken off again; a number is its quotient times the divisor and what is left: the walk. -/
import Derived.Test.YtajhehmkdlebbaaDoorQRvEnd
import Derived.OrdersHeld
namespace Go.Proofs.YtajhehmkdlebbaaDoor
open Go.ChangeShapes Go.WideShapes Go.ChangeAt Go.RowKit Go.Deep
set_option maxRecDepth 100000
attribute [-go_sem] loadVar storeVar
theorem sub_add {a b : Int} (ha : U64 a) (hb : U64 b) : doesF 2 0 (doesF 1 0 a b 0) b 0 = a := by
  have e : ∀ x, doesF 2 0 x b 0 = IntKind.u64.wrap (x - b) := fun x => rfl
  have f : doesF 1 0 a b 0 = IntKind.u64.wrap (a + b) := rfl
  obtain ⟨a0, a1⟩ := ha
  obtain ⟨b0, b1⟩ := hb
  rw [e, f, IntKind.wrap_u64, IntKind.wrap_u64]
  omega
theorem xor_xor {a b : Int} (ha : U64 a) (hb : U64 b) : doesF 5 0 (doesF 5 0 a b 0) b 0 = a := by
  have e : ∀ x, doesF 5 0 x b 0 = bits .xor .u64 x b := fun x => rfl
  obtain ⟨a0, a1⟩ := ha
  obtain ⟨b0, b1⟩ := hb
  rw [e, e]
  obtain ⟨A, rfl⟩ := Int.eq_ofNat_of_zero_le a0
  obtain ⟨B, rfl⟩ := Int.eq_ofNat_of_zero_le b0
  have hx : A ^^^ B < 2 ^ 64 := Nat.xor_lt_two_pow (by omega) (by omega)
  rw [u64_xor_nat A B (by omega) (by omega), u64_xor_nat (A ^^^ B) B (by omega) (by omega), Nat.xor_assoc, Nat.xor_self, Nat.xor_zero]
theorem quo_rem {a b : Int} (ha : U64 a) (hb : U64 b) (h0 : b ≠ 0) : IntKind.u64.wrap (IntKind.u64.wrap (doesF 10 0 a b 0 * b) + doesF 11 0 a b 0) = a ∧ doesF 11 0 a b 0 < b := by
  have e : doesF 10 0 a b 0 = a / b := by show (if b = 0 then _ else _) = _; rw [if_neg h0]; rfl
  have f : doesF 11 0 a b 0 = a % b := by show (if b = 0 then _ else _) = _; rw [if_neg h0]; rfl
  obtain ⟨a0, a1⟩ := ha
  obtain ⟨b0, b1⟩ := hb
  rw [e, f, IntKind.wrap_u64, IntKind.wrap_u64]
  have h1 := Int.mul_ediv_add_emod a b
  have h2 := Int.emod_nonneg a h0
  have h3 := Int.emod_lt_of_pos a (show 0 < b by omega)
  rw [Int.mul_comm] at h1
  refine ⟨?_, h3⟩
  rw [Int.emod_add_emod, h1]
  omega
set_option maxHeartbeats 2000000 in
theorem reckons_any (a b : Int) {w : World} (ha : U64 a) (hb : U64 b) (hT : Tab w) :
    Calls Tryd.prog 11 #[.int .u64 a, .int .u64 b] w fun e w' => e = .returned (.bool true) ∧ Below w.heap.size w w' := by
  obtain ⟨s, hs⟩ : ∃ s, s = doesF 1 0 a b 0 := ⟨_, rfl⟩
  obtain ⟨q, hq⟩ : ∃ q, q = doesF 10 0 a b 0 := ⟨_, rfl⟩
  obtain ⟨r, hr⟩ : ∃ r, r = doesF 11 0 a b 0 := ⟨_, rfl⟩
  obtain ⟨u, hu⟩ : ∃ u, u = doesF 5 0 a b 0 := ⟨_, rfl⟩
  have HS := Lib.hid hs
  have HQ := Lib.hid hq
  have HR := Lib.hid hr
  have HU := Lib.hid hu
  have HUs := Lib.hid (show U64 s by rw [hs]; exact doesF_bd ha hb)
  have HUu := Lib.hid (show U64 u by rw [hu]; exact doesF_bd ha hb)
  have HD := Lib.hid (show doesF 2 0 s b 0 = a by rw [hs]; exact sub_add ha hb)
  have HX := Lib.hid (show doesF 5 0 u b 0 = a by rw [hu]; exact xor_xor ha hb)
  have HA := Lib.hid ha
  have HBB := Lib.hid hb
  have HB0 := Lib.hid (Below.refl w.heap.size w)
  have HB1 := HB0
  by_cases h0 : b = 0
  · have e0 : (b == 0) = true := by simp [h0]
    clear hs hq hr hu ha hb h0
    go_enter Tryd.func11, Tryd.ntmps11
    go_wp2_with fail
    refine (shown3_any hT).mono ?_
    rintro e w2 ⟨rfl, hb2⟩
    have HB2 := Lib.hid (HB1.out.trans (hb2.mono HB1.out.size))
    clear hb2
    go_wp2_with fail
    refine (does_any 1 0 0 0 0 a b 0 _ HA.out HBB.out).mono ?_
    rintro e w3 ⟨rfl, hb3⟩
    rw [← HS.out]
    have HB3 := Lib.hid (HB2.out.trans (hb3.mono HB2.out.size))
    clear hb3
    go_wp2_with fail
    refine (does_any 10 0 0 0 0 a b 0 _ HA.out HBB.out).mono ?_
    rintro e w4 ⟨rfl, hb4⟩
    rw [← HQ.out]
    have HB4 := Lib.hid (HB3.out.trans (hb4.mono HB3.out.size))
    clear hb4
    go_wp2_with fail
    refine (does_any 11 0 0 0 0 a b 0 _ HA.out HBB.out).mono ?_
    rintro e w5 ⟨rfl, hb5⟩
    rw [← HR.out]
    have HB5 := Lib.hid (HB4.out.trans (hb5.mono HB4.out.size))
    clear hb5
    go_wp2_with fail
    refine (does_any 2 0 0 0 0 s b 0 _ HUs.out HBB.out).mono ?_
    rintro e w6 ⟨rfl, hb6⟩
    rw [HD.out]
    have HB6 := Lib.hid (HB5.out.trans (hb6.mono HB5.out.size))
    clear hb6
    go_wp2_with fail
    refine (does_any 5 0 0 0 0 a b 0 _ HA.out HBB.out).mono ?_
    rintro e w7 ⟨rfl, hb7⟩
    rw [← HU.out]
    have HB7 := Lib.hid (HB6.out.trans (hb7.mono HB6.out.size))
    clear hb7
    go_wp2_with fail
    refine (does_any 5 0 0 0 0 u b 0 _ HUu.out HBB.out).mono ?_
    rintro e w8 ⟨rfl, hb8⟩
    rw [HX.out]
    have HB8 := Lib.hid (HB7.out.trans (hb8.mono HB7.out.size))
    clear hb8
    go_wp2
    go_ret
    exact ⟨rfl, HB8.out⟩
  · have e0 : (b == 0) = false := by simp [h0]
    obtain ⟨g1, g2⟩ := quo_rem ha hb h0
    rw [← hq, ← hr] at g1
    rw [← hr] at g2
    have e1 : (IntKind.u64.wrap (IntKind.u64.wrap (q * b) + r) == a) = true := by rw [g1]; simp
    have e2 : decide (r < b) = true := decide_eq_true g2
    clear hs hq hr hu ha hb h0 g1 g2
    go_enter Tryd.func11, Tryd.ntmps11
    go_wp2_with fail
    refine (shown3_any hT).mono ?_
    rintro e w2 ⟨rfl, hb2⟩
    have HB2 := Lib.hid (HB1.out.trans (hb2.mono HB1.out.size))
    clear hb2
    go_wp2_with fail
    refine (does_any 1 0 0 0 0 a b 0 _ HA.out HBB.out).mono ?_
    rintro e w3 ⟨rfl, hb3⟩
    rw [← HS.out]
    have HB3 := Lib.hid (HB2.out.trans (hb3.mono HB2.out.size))
    clear hb3
    go_wp2_with fail
    refine (does_any 10 0 0 0 0 a b 0 _ HA.out HBB.out).mono ?_
    rintro e w4 ⟨rfl, hb4⟩
    rw [← HQ.out]
    have HB4 := Lib.hid (HB3.out.trans (hb4.mono HB3.out.size))
    clear hb4
    go_wp2_with fail
    refine (does_any 11 0 0 0 0 a b 0 _ HA.out HBB.out).mono ?_
    rintro e w5 ⟨rfl, hb5⟩
    rw [← HR.out]
    have HB5 := Lib.hid (HB4.out.trans (hb5.mono HB4.out.size))
    clear hb5
    go_wp2_with fail
    refine (does_any 2 0 0 0 0 s b 0 _ HUs.out HBB.out).mono ?_
    rintro e w6 ⟨rfl, hb6⟩
    rw [HD.out]
    have HB6 := Lib.hid (HB5.out.trans (hb6.mono HB5.out.size))
    clear hb6
    go_wp2_with fail
    refine (does_any 5 0 0 0 0 a b 0 _ HA.out HBB.out).mono ?_
    rintro e w7 ⟨rfl, hb7⟩
    rw [← HU.out]
    have HB7 := Lib.hid (HB6.out.trans (hb7.mono HB6.out.size))
    clear hb7
    go_wp2_with fail
    refine (does_any 5 0 0 0 0 u b 0 _ HUu.out HBB.out).mono ?_
    rintro e w8 ⟨rfl, hb8⟩
    rw [HX.out]
    have HB8 := Lib.hid (HB7.out.trans (hb8.mono HB7.out.size))
    clear hb8
    go_wp2
    go_ret
    exact ⟨rfl, HB8.out⟩
end Go.Proofs.YtajhehmkdlebbaaDoor
