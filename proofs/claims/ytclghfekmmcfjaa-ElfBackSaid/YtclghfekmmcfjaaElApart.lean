/- ElfApart: of two images that may be, and are not the same, the files are not: the walk. -/
import Derived.Test.YtclghfekmmcfjaaElShown
import Derived.Test.YtclghfekmmcfjaaElSame
namespace Go.Proofs.Ytclghfekmmcfjaa
open Go.ChangeShapes Go.WideShapes Go.ChangeAt Go.RowKit Go.Deep Go.Shelf
set_option maxRecDepth 100000
noncomputable def wrS (e : Int) (L : List Sg) : ByteArray := if imayB e L = true then ⟨(fileAll e L).toArray⟩ else ⟨#[]⟩
noncomputable def wrE (e : Int) (L : List Sg) : Int := if imayB e L = true then 0 else 1
theorem write_any {A : Option Addr} {cap : Nat} {L : List Sg} {w : World} {B : Nat} (e : Int) (he : 0 ≤ e ∧ e ≤ 18446744073709551615) (hL : Sgs w B A cap L) (hB : B ≤ w.heap.size) (hwf : ∀ s ∈ L, s.ok) (hlen : L.length ≤ 140737488351232) :
    Calls Try.prog 19 #[.agg #[.int .u64 e, .slice A L.length cap]] w fun e' w' => e' = .returned (.tuple #[.string (wrS e L), .int .i64 (wrE e L)]) ∧ Below w.heap.size w w' := by
  unfold wrS wrE
  cases hm : imayB e L with
  | true => exact write_good e he hm hL hB hwf hlen
  | false => exact write_bad e he hm hL hB hwf hlen
theorem apart_law {e e' : Int} {L L' : List Sg} (h : imayB e L = true) (h' : imayB e' L' = true) (he : 0 ≤ e ∧ e ≤ 18446744073709551615) (he' : 0 ≤ e' ∧ e' ≤ 18446744073709551615) (hwf : ∀ s ∈ L, s.ok) (hwf' : ∀ s ∈ L', s.ok) :
    ((wrS e L).toList == (wrS e' L').toList) = sameI e L e' L' := by
  unfold wrS sameI
  rw [if_pos h, if_pos h', ByteArray.toList_eq, ByteArray.toList_eq]
  by_cases hs : e = e' ∧ L = L'
  · obtain ⟨rfl, rfl⟩ := hs
    simp
  · rw [decide_eq_false hs]
    refine beq_false_of_ne fun hc => hs ?_
    exact file_inj (imayB_out h) (imayB_out h') hwf hwf' he he' (by simpa using hc)
set_option maxHeartbeats 2000000 in
theorem eapart_any {A A' : Option Addr} {cap cap' : Nat} {L L' : List Sg} {w : World} {e e' : Int} (he : 0 ≤ e ∧ e ≤ 18446744073709551615) (he' : 0 ≤ e' ∧ e' ≤ 18446744073709551615) (hG : SgG w A cap L) (hG' : SgG w A' cap' L') :
    Calls Try.prog 4 #[.agg #[.int .u64 e, .slice A L.length cap], .agg #[.int .u64 e', .slice A' L'.length cap']] w fun r w' => r = .returned (.bool true) ∧ Below w.heap.size w w' := by
  obtain ⟨hL, _, hwf, hlen⟩ := hG
  obtain ⟨hL', _, hwf', hlen'⟩ := hG'
  have hlaw := apart_law (e := e) (e' := e') (L := L) (L' := L')
  obtain ⟨W1, hW1⟩ : ∃ W1, w.alloc (.cells #[.int .u64 e, .slice A L.length cap] 25) = W1 := ⟨_, rfl⟩
  have x1 : Box2 W1 w.heap.size e (.slice A L.length cap) := by
    subst hW1
    refine ⟨?_, ?_⟩ <;> simp [go_sem]
  have k1 : Below w.heap.size w W1 := by subst hW1; exact (Below.refl _ _).alloc (Nat.le_refl _) _
  have z1 : W1.heap.size = w.heap.size + 1 := by subst hW1; simp
  obtain ⟨W2, hW2⟩ : ∃ W2, W1.alloc (.cells #[.int .u64 e', .slice A' L'.length cap'] 25) = W2 := ⟨_, rfl⟩
  have x2 : Box2 W2 (w.heap.size + 1) e' (.slice A' L'.length cap') := by
    subst hW2
    rw [← z1]
    refine ⟨?_, ?_⟩ <;> simp [go_sem]
  have k2 : Below W1.heap.size W1 W2 := by subst hW2; exact (Below.refl _ _).alloc (Nat.le_refl _) _
  have z2 : W2.heap.size = w.heap.size + 2 := by subst hW2; simp [z1]
  have x1' := x1.below k2 (by omega)
  have kb := k1.trans (k2.mono k1.size)
  have HW1 := Lib.hid hW1
  have HW2 := Lib.hid hW2
  have HX1 := Lib.hid x1'
  have HX2 := Lib.hid x2
  have HZ := Lib.hid z2
  have HK := Lib.hid kb
  have HL := Lib.hid (Sl.In.below hL kb)
  have HL' := Lib.hid (Sl.In.below hL' kb)
  clear hW1 hW2 x1 x1' x2 k1 k2 z1 hL hL' kb
  obtain ⟨X, hX⟩ : ∃ X, wrS e L = X := ⟨_, rfl⟩
  obtain ⟨Y, hY⟩ : ∃ Y, wrS e' L' = Y := ⟨_, rfl⟩
  obtain ⟨S, hS⟩ : ∃ S, sameI e L e' L' = S := ⟨_, rfl⟩
  have hEX : wrE e L = 0 ∧ imayB e L = true ∨ wrE e L = 1 := by unfold wrE; cases imayB e L <;> simp
  have hEY : wrE e' L' = 0 ∧ imayB e' L' = true ∨ wrE e' L' = 1 := by unfold wrE; cases imayB e' L' <;> simp
  obtain ⟨E, hE⟩ : ∃ E, wrE e L = E := ⟨_, rfl⟩
  obtain ⟨F, hF⟩ : ∃ F, wrE e' L' = F := ⟨_, rfl⟩
  have hpost : Hid (E = 1 ∨ F = 1 ∨ E = 0 ∧ F = 0 ∧ (X.toList == Y.toList) = S) := by
    rcases hEX with ⟨h1, h2⟩ | h1
    · rcases hEY with ⟨h3, h4⟩ | h3
      · exact .inr (.inr ⟨hE ▸ h1, hF ▸ h3, by rw [← hX, ← hY, ← hS]; exact hlaw h2 h4 he he' hwf hwf'⟩)
      · exact .inr (.inl (hF ▸ h3))
    · exact .inl (hE ▸ h1)
  have HX := Lib.hid hX
  have HY := Lib.hid hY
  have HS := Lib.hid hS
  have HE := Lib.hid hE
  have HF := Lib.hid hF
  have HWF := Lib.hid hwf
  have HWF' := Lib.hid hwf'
  have hsz : w.heap.size + 1 < W2.heap.size := by omega
  have hsz0 : w.heap.size < W2.heap.size := by omega
  clear hlaw hX hY hS hEX hEY hE hF hwf hwf' z2
  go_enter Try.func4, Try.ntmps4
  go_wp2_with fail
  rw [HW1.out, HW2.out]
  refine (ishown_any W2).mono ?_
  rintro r w1 ⟨rfl, hb1⟩
  have HB1 := Lib.hid hb1
  obtain ⟨a0, a1⟩ := HX1.out.below HB1.out hsz0
  clear hb1
  go_wp2_with fail
  refine (write_any e he (Sl.In.below HL.out (HB1.out.mono (Nat.le_of_lt hsz0))) (Nat.le_trans (Nat.le_of_lt hsz0) HB1.out.size) HWF.out hlen).mono ?_
  rintro r w2 ⟨rfl, hb2⟩
  rw [HX.out, HE.out]
  have HB2 := Lib.hid (HB1.out.trans (hb2.mono HB1.out.size))
  obtain ⟨b0, b1⟩ := HX2.out.below HB2.out hsz
  clear hb2 a0 a1
  go_wp2_with fail
  refine (write_any e' he' (Sl.In.below HL'.out (HB2.out.mono (Nat.le_of_lt hsz0))) (Nat.le_trans (Nat.le_of_lt hsz0) HB2.out.size) HWF'.out hlen').mono ?_
  rintro r w3 ⟨rfl, hb3⟩
  rw [HY.out, HF.out]
  have HB3 := Lib.hid (HB2.out.trans (hb3.mono HB2.out.size))
  clear hb3 b0 b1
  have hfin := HK.out.trans (HB3.out.mono HK.out.size)
  have HFIN := Lib.hid hfin
  clear hfin
  rcases hpost.out with rfl | rfl | ⟨rfl, rfl, hxy⟩
  · go_wp2
    go_ret
    exact ⟨rfl, HFIN.out⟩
  · by_cases h0 : E = 0
    · subst h0
      go_wp2
      go_ret
      exact ⟨rfl, HFIN.out⟩
    · have h1 : (E != 0) = true := by simpa using h0
      clear h0
      go_wp2
      go_ret
      exact ⟨rfl, HFIN.out⟩
  · obtain ⟨a0, a1⟩ := HX1.out.below HB3.out hsz0
    obtain ⟨b0, b1⟩ := HX2.out.below HB3.out hsz
    have HXY := Lib.hid hxy
    clear hxy
    go_wp2_with fail
    refine (isame_any (Sl.In.below HL.out (HB3.out.mono (Nat.le_of_lt hsz0))) (Sl.In.below HL'.out (HB3.out.mono (Nat.le_of_lt hsz0))) (Nat.le_trans (Nat.le_of_lt hsz0) HB3.out.size) (Nat.le_trans (Nat.le_of_lt hsz0) HB3.out.size) hlen).mono ?_
    rintro r w4 ⟨rfl, hb4⟩
    rw [HS.out]
    have hfin := HFIN.out.trans (hb4.mono HFIN.out.size)
    go_wp2
    go_ret
    exact ⟨ret_bool (a := (X.toList == Y.toList) == S) (by rw [HXY.out]; cases S <;> rfl), hfin⟩
end Go.Proofs.Ytclghfekmmcfjaa
