/- ElfLoads: the machine with an image is as the document says: the walk. -/
import Derived.Test.YtclghfekmmcfjaaElLoad
import Derived.Test.YtclghfekmmcfjaaElShown
import Derived.BigQuiet
import Derived.Deep.QuietTactic
import Derived.OrdersHeld
namespace Go.Proofs.Ytclghfekmmcfjaa
open Go.ChangeShapes Go.WideShapes Go.ChangeAt Go.RowKit Go.Deep Go.Maps Go.WideMaps
set_option maxRecDepth 100000
attribute [-go_sem] loadVar storeVar
theorem emsame_homes (m : Mc) (A A' : Option Addr) (c c' : Nat) {w : World} (hm : m.Ok) (hM : Mem w w.heap.size A c m.mem) (hM' : Mem w w.heap.size A' c' m.mem) :
    Calls Try.prog 25 #[.agg (m.home A c).cells.toArray, .agg (m.home A' c').cells.toArray] w fun e w' => e = .returned (.bool true) ∧ Below w.heap.size w w' :=
  msame_any (m.home A c) A' c' hm.home hM hM'
set_option maxHeartbeats 2000000 in
theorem eloads_any {A : Option Addr} {cap : Nat} {L : List Sg} {w : World} {e : Int} (inp : ByteArray) (he : 0 ≤ e ∧ e ≤ 18446744073709551615) (hG : SgG w A cap L) (hi : inp.size ≤ 140737488351232) :
    Calls Try.prog 6 #[.agg #[.int .u64 e, .slice A L.length cap], .string inp] w fun r w' => r = .returned (.bool true) ∧ Below w.heap.size w w' := by
  obtain ⟨hL, _, hwf, hlen⟩ := hG
  obtain ⟨W0, hW0⟩ : ∃ W0, w.alloc (.cells #[.int .u64 e, .slice A L.length cap] 25) = W0 := ⟨_, rfl⟩
  have k0 : Below w.heap.size w W0 := by subst hW0; exact (Below.refl _ _).alloc (Nat.le_refl _) _
  have b0 : Box2 W0 w.heap.size e (.slice A L.length cap) := by
    subst hW0
    refine ⟨?_, ?_⟩ <;> simp [go_sem]
  have z0 : W0.heap.size = w.heap.size + 1 := by subst hW0; simp
  have HB0 := Lib.hid k0
  have HI0 := Lib.hid b0
  have HWF := Lib.hid hwf
  have HL := Lib.hid hL
  clear hwf k0 b0 hL
  go_enter Try.func6, Try.ntmps6
  go_wp2_with fail
  refine (ishown_any _).mono ?_
  rintro r w1 ⟨rfl, hb1⟩
  have HB1 := Lib.hid (HB0.out.trans (hb1.mono HB0.out.size))
  have HI1 := Lib.hid (HI0.out.below hb1 (by omega))
  have s1 := hb1.size
  clear hb1
  obtain ⟨c0, c1⟩ := HI1.out
  go_wp2_with fail
  refine (iload_any e inp he (Sl.In.below HL.out HB1.out) (by omega) HWF.out hlen).mono ?_
  rintro r w2 ⟨A2, d2, rfl, hb2, hM2, hn2⟩
  obtain ⟨R, hR⟩ : ∃ R, R = (imMc e L inp).home A2 d2 := ⟨_, rfl⟩
  rw [← hR]
  have hlR : R.x.length = 32 := by rw [hR]; exact imMc_len e L inp
  have HB2 := Lib.hid (HB1.out.trans (hb2.mono HB1.out.size))
  have HI2 := Lib.hid (HI1.out.below hb2 (by omega))
  have HM2 := Lib.hid hM2
  have HR := Lib.hid hR
  have s2 := hb2.size
  obtain ⟨W3, h3, s3, x3, b3, _⟩ := mach_more w2
  obtain ⟨W4, h4, x4, s4, b4, _⟩ := x3.lay rfl R hlR
  have HB4 := Lib.hid ((HB2.out.trans (b3.mono HB2.out.size)).trans (b4.mono HB2.out.size))
  have HX4 := Lib.hid x4
  have HI4 := Lib.hid ((HI2.out.below b3 (by omega)).below b4 (by omega))
  have HM4 := Lib.hid (show Mem W4 w2.heap.size A2 d2 (imMc e L inp).mem from Sl.In.below hM2 (b3.trans b4))
  clear c0 c1 hb2 hM2 hn2 hR x3 b3 x4 b4
  obtain ⟨c0, c1⟩ := HI4.out
  have HB24 := Lib.hid HB4.out
  go_wp2_with fail
  refine (irload_any e inp he (Sl.In.below HL.out HB4.out) (by omega) HWF.out hlen).mono ?_
  rintro r w5 ⟨A5, d5, rfl, hb5, hM5, hn5⟩
  obtain ⟨Q, hQ⟩ : ∃ Q, Q = (imMc e L inp).home A5 d5 := ⟨_, rfl⟩
  rw [← hQ]
  have hlQ : Q.x.length = 32 := by rw [hQ]; exact imMc_len e L inp
  obtain ⟨W6, h6, s6, x6, b6, o6⟩ := mach_more w5
  obtain ⟨W7, h7, x7, s7, b7, o7⟩ := x6.lay rfl Q hlQ
  have s5 := hb5.size
  have hR5 := HX4.out.below hb5 HX4.out.lt
  have hlt := hR5.lt
  have hR7 := o7 _ _ (by omega) (o6 _ _ hR5)
  have lk1 := hR7.loadVar hlR
  have lk2 := x7.loadVar hlQ
  have HB7 := Lib.hid (((HB4.out.trans (hb5.mono HB4.out.size)).trans (b6.mono (by have := HB4.out.size; omega))).trans (b7.mono (by have := HB4.out.size; omega)))
  have hMa : Mem W7 W7.heap.size A2 d2 (imMc e L inp).mem := (Sl.In.below (Sl.In.below HM4.out (hb5.mono (by omega))) ((b6.trans b7).mono (by omega))).more (by omega)
  have hMb : Mem W7 W7.heap.size A5 d5 (imMc e L inp).mem := (Sl.In.below hM5 (b6.trans b7)).more (by omega)
  have HMa := Lib.hid hMa
  have HMb := Lib.hid hMb
  have HQ := Lib.hid hQ
  have HOK := Lib.hid (imMc_ok he hi HWF.out : (imMc e L inp).Ok)
  clear c0 c1 hb5 hM5 hn5 x6 b6 o6 x7 b7 o7 hR5 hR7 hMa hMb hQ
  obtain ⟨E, hE⟩ : ∃ E, E = imE e L := ⟨_, rfl⟩
  rw [← hE]
  clear hE
  go_wp2_with fail
  rw [HR.out, HQ.out]
  refine (emsame_homes (imMc e L inp) A2 A5 d2 d5 (w := W7) HOK.out HMa.out HMb.out).mono ?_
  rintro r w8 ⟨rfl, hb8⟩
  have HB8 := Lib.hid (HB7.out.trans (hb8.mono HB7.out.size))
  clear hb8
  go_wp2
  go_ret
  exact ⟨rfl, HB8.out⟩
end Go.Proofs.Ytclghfekmmcfjaa
