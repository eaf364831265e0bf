/- EncBytes: a program's bytes, and the program of bytes, are as the document says: walked. -/
import Derived.Test.YthnekmfcbbohkaaDoorRefBack
import Derived.Test.YthnekmfcbbohkaaDoorRefBytes
import Derived.Test.YthnekmfcbbohkaaDoorSame
namespace Go.Proofs.YthnekmfcbbohkaaDoor
open Go.ChangeShapes Go.WideShapes Go.ChangeAt Go.RowKit Go.Deep
set_option maxRecDepth 100000
theorem opens_ops {w : World} : Opens Tryd.prog w 41 (fun s : Sl OpD => [s.v]) (Sl.Good w w.heap.size 5 40 OpD.cells (fun _ => True)) := opens_slice (P := Tryd.prog) (w := w) Tryd.underlying41 Tryd.cells23 (bytes := 40) (by kernel_rfl) (by omega) (fun _ => rfl) opens_op
theorem backL_len (s : ByteArray) : (backL s).length ≤ s.size := by
  unfold backL
  split
  · cases h : backN s (s.size / 4) with
    | none => simp
    | some l => rw [Option.getD_some, backN_len h]; omega
  · simp
set_option maxHeartbeats 1600000 in
theorem bytesLaw_any {A : Option Addr} {cap : Nat} {L : List OpD} (s : ByteArray) {w : World} {B : Nat} (hT : Tab w) (hL : Sl.In w B 5 OpD.cells ⟨A, cap, L⟩) (hB : B ≤ w.heap.size) :
    Calls Tryd.prog 10 #[.slice A L.length cap, .string s] w fun e w' => e = .returned (.bool true) ∧ Below w.heap.size w w' := by
  have hs := hT.size
  have HT := Lib.hid hT
  clear hT
  by_cases hlen : L.length ≤ 500
  · have l0 : (L.length : Int) ≤ 500 := by omega
    by_cases hsz : s.size ≤ 2000
    · have l1 : (s.size : Int) ≤ 2000 := by omega
      have hL0 := Lib.hid hL
      have hbl := Lib.hid (backL_len s)
      have hlen' := Lib.hid hlen
      have hsz' := Lib.hid hsz
      clear hL hlen hsz
      go_enter Tryd.func10, Tryd.ntmps10
      go_wp2_with fail
      refine (shown_any HT.out).mono ?_
      rintro e w1 ⟨rfl, hb1⟩
      have K1 := Lib.hid hb1
      go_wp2_with fail
      refine (bytes_any (HT.out.below K1.out hs) (hL0.out.below (K1.out.mono hB)) (Nat.le_trans hB K1.out.size) (by have := hlen'.out; omega)).mono ?_
      rintro e w2 ⟨rfl, hb2⟩
      have K2 := Lib.hid (K1.out.trans (hb2.mono K1.out.size))
      clear hb1 hb2
      go_wp2_with fail
      refine (rbytes_any (hL0.out.below (K2.out.mono hB)) (Nat.le_trans hB K2.out.size) (by have := hlen'.out; omega)).mono ?_
      rintro e w3 ⟨rfl, hb3⟩
      have K3 := Lib.hid (K2.out.trans (hb3.mono K2.out.size))
      clear hb3
      go_wp2_with fail
      refine (backs_any s (HT.out.below K3.out hs) (by have := hsz'.out; omega)).mono ?_
      rintro e w4 ⟨v, rfl, hv, hb4⟩
      have K4 := Lib.hid (K3.out.trans (hb4.mono K3.out.size))
      have hv' := Lib.hid hv
      clear hb4 hv
      go_wp2_with fail
      refine (rbacks_any s (by have := hsz'.out; omega)).mono ?_
      rintro e w5 ⟨v', rfl, hu, hb5⟩
      have K5 := Lib.hid (K4.out.trans (hb5.mono K4.out.size))
      obtain ⟨S, c, rfl, hS⟩ := Sl.of_own (cells := OpD.cells) (fun _ => rfl) hv'.out rfl
      obtain ⟨S', c', rfl, hS'⟩ := Sl.of_own (cells := OpD.cells) (fun _ => rfl) hu rfl
      have J1 := Lib.hid ((hS.below hb5).more hb5.size)
      have J2 := Lib.hid hS'
      clear hb5 hu hS hS'
      go_wp2_with fail
      refine (same_any J1.out J2.out (Nat.le_refl _) (by have := hsz'.out; have := hbl.out; omega)).mono ?_
      rintro e w6 ⟨rfl, hb6⟩
      rw [decide_eq_true rfl]
      have K6 := Lib.hid (K5.out.trans (hb6.mono K5.out.size))
      clear hb6
      go_wp2
      go_ret
      exact ⟨rfl, K6.out⟩
    · have l1 : 2000 < (s.size : Int) := by omega
      go_enter Tryd.func10, Tryd.ntmps10
      go_wp2_with fail
      refine (shown_any HT.out).mono ?_
      rintro e w1 ⟨rfl, hb1⟩
      go_wp2
      go_ret
      exact ⟨rfl, hb1⟩
  · have l0 : 500 < (L.length : Int) := by omega
    go_enter Tryd.func10, Tryd.ntmps10
    go_wp2_with fail
    refine (shown_any HT.out).mono ?_
    rintro e w1 ⟨rfl, hb1⟩
    go_wp2
    go_ret
    exact ⟨rfl, hb1⟩
end Go.Proofs.YthnekmfcbbohkaaDoor
