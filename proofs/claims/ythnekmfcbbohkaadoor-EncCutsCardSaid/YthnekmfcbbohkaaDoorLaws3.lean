/- EncCuts: bytes whose number isn't four for each are no program's: walked. -/
import Derived.Test.YthnekmfcbbohkaaDoorBack
namespace Go.Proofs.YthnekmfcbbohkaaDoor
open Go.ChangeShapes Go.WideShapes Go.ChangeAt Go.RowKit Go.Deep
set_option maxRecDepth 100000
theorem backE_cuts (s : ByteArray) : (s.size % 4 = 0 → (backE s == 2) = false) ∧ (¬ s.size % 4 = 0 → (backE s == 2) = true) := by
  unfold backE
  constructor
  · intro h
    rw [if_pos h]
    split <;> rfl
  · intro h
    rw [if_neg h]; rfl
set_option maxHeartbeats 1000000 in
theorem cuts_any (s : ByteArray) {w : World} (hT : Tab w) :
    Calls Tryd.prog 9 #[.string s] w fun e w' => e = .returned (.bool true) ∧ Below w.heap.size w w' := by
  have hs := hT.size
  have HT := Lib.hid hT
  clear hT
  by_cases hlen : s.size ≤ 2000
  · have hlen' := Lib.hid (show s.size ≤ 1000000 by omega)
    have l1 : (s.size : Int) ≤ 2000 := by omega
    by_cases h4 : s.size % 4 = 0
    · have b1 := (backE_cuts s).1 h4
      have b2 : ((s.size : Int) % 4 != 0) = false := by simp; omega
      clear h4
      go_enter Tryd.func9, Tryd.ntmps9
      go_wp2_with fail
      refine (shown_any HT.out).mono ?_
      rintro e w1 ⟨rfl, hb1⟩
      go_wp2_with fail
      refine (backs_any s (HT.out.below hb1 hs) hlen'.out).mono ?_
      rintro e w2 ⟨v, rfl, hv, hb2⟩
      go_wp2
      go_ret
      exact ⟨rfl, hb1.trans (hb2.mono hb1.size)⟩
    · have b1 := (backE_cuts s).2 h4
      have b2 : ((s.size : Int) % 4 != 0) = true := by simp; omega
      clear h4
      go_enter Tryd.func9, Tryd.ntmps9
      go_wp2_with fail
      refine (shown_any HT.out).mono ?_
      rintro e w1 ⟨rfl, hb1⟩
      go_wp2_with fail
      refine (backs_any s (HT.out.below hb1 hs) hlen'.out).mono ?_
      rintro e w2 ⟨v, rfl, hv, hb2⟩
      go_wp2
      go_ret
      exact ⟨rfl, hb1.trans (hb2.mono hb1.size)⟩
  · have l1 : 2000 < (s.size : Int) := by omega
    go_enter Tryd.func9, Tryd.ntmps9
    go_wp2_with fail
    refine (shown_any HT.out).mono ?_
    rintro e w1 ⟨rfl, hb1⟩
    go_wp2
    go_ret
    exact ⟨rfl, hb1⟩
end Go.Proofs.YthnekmfcbbohkaaDoor
