/- The reference's Right, At, grants. -/
import Derived.Test.YtajhehmkdlebbaaDoorPg
namespace Go.Proofs.YtajhehmkdlebbaaDoor
open Go.ChangeShapes Go.WideShapes Go.ChangeAt Go.RowKit Go.Deep
set_option maxRecDepth 100000
set_option maxHeartbeats 1600000 in
theorem rright_any {A : Option Addr} {cap : Nat} {L : List Pg} {w : World} {B : Nat} (hL : Mem w B A cap L) (hB : B ≤ w.heap.size) (hwf : ∀ p ∈ L, p.ok) :
    Calls Tryd.prog 63 #[.slice A L.length cap] w fun e w' => e = .returned (.bool (rightB L)) ∧ Below w.heap.size w w' := by
  by_cases hlen : L.length ≤ 64
  · have l0 : (L.length : Int) ≤ 64 := by omega
    have HWF := Lib.hid hwf
    clear hwf
    go_enter Tryd.func63, Tryd.ntmps63
    go_wp2
    go_loopw [3] (fun i wr => ∃ k : Nat, k ≤ L.length ∧ i = .int .i64 k ∧ Below w.heap.size w wr ∧ Hid (∀ j, j < k → OkAt L j)) (fun i _ => L.length - (intOf i).toNat)
    case atStart => exact ⟨0, Nat.zero_le _, rfl, Below.refl _ _, fun j hj => absurd hj (Nat.not_lt_zero _)⟩
    case round =>
      obtain ⟨k, hk, rfl, hbw, hno⟩ := hrel
      by_cases hlt : k < L.length
      · obtain ⟨b, off, rfl, hb, c0, c1, c2⟩ := Mem.pg (Sl.In.below hL (hbw.mono hB)) hlt
        obtain ⟨ha, hp, hd⟩ := HWF.out _ (List.getElem_mem hlt)
        have hso := hbw.size
        rcases okAt_split hlt with ⟨h1, hn⟩ | ⟨h1, h2, hn⟩ | ⟨h1, h2, h3, hn⟩ | ⟨h1, h2, h3, h4, hn⟩ | ⟨h1, h2, h3, h4, hh⟩
        · have e1 : ((L[k]).at_ % 256 != 0) = true := by simpa using h1
          have HR := Lib.hid (rightB_bad hlt hn)
          clear hn h1
          go_wp2
          go_ret
          rw [HR.out]
          exact ⟨rfl, hbw⟩
        · have e1 : ((L[k]).at_ % 256 != 0) = false := by simpa using h1
          have HR := Lib.hid (rightB_bad hlt hn)
          have h2' : (L[k]).perm < 0 := by omega
          clear hn h1 h2
          go_wp2
          go_ret
          rw [HR.out]
          exact ⟨rfl, hbw⟩
        · have e1 : ((L[k]).at_ % 256 != 0) = false := by simpa using h1
          have HR := Lib.hid (rightB_bad hlt hn)
          have h3' : 7 < (L[k]).perm := by omega
          clear hn h1 h3
          go_wp2
          go_ret
          rw [HR.out]
          exact ⟨rfl, hbw⟩
        · have e1 : ((L[k]).at_ % 256 != 0) = false := by simpa using h1
          have e4 : (((L[k]).data.size : Int) != 256) = true := by simp; omega
          have HR := Lib.hid (rightB_bad hlt hn)
          clear hn h1 h4
          go_wp2
          go_ret
          rw [HR.out]
          exact ⟨rfl, hbw⟩
        · have e1 : ((L[k]).at_ % 256 != 0) = false := by simpa using h1
          have e4 : (((L[k]).data.size : Int) != 256) = false := by simp; omega
          have e2 : decide ((L[k]).perm < 0) = false := decide_eq_false (by omega)
          have e3 : decide (7 < (L[k]).perm) = false := decide_eq_false (by omega)
          clear h1 h4
          have i3 : (k : Int) < (L.length : Int) := by omega
          rcases hh with ⟨hk0, hok⟩ | ⟨k', hk', rfl, ⟨h5, hok⟩ | ⟨h5, hn⟩⟩
          · have HOK := Lib.hid hok
            have HK0 := Lib.hid hk0
            have u0 : decide (0 < k) = false := decide_eq_false (by omega)
            clear hok hk0
            go_wp2_with fail
            go_quiet (fail)
            go_wp2
            exact ⟨⟨k + 1, hlt, by go_num, below_drewN hbw _, fun j hj => by obtain rfl : j = k := (by have := HK0.out; omega); exact HOK.out⟩, by simp [intOf]; omega⟩
          · obtain ⟨b', off', h', hb', d0, d1, d2⟩ := Mem.pg (Sl.In.below hL (hbw.mono hB)) hk'
            obtain ⟨rfl, rfl⟩ : b = b' ∧ off = off' := by simpa using h'
            have HOK := Lib.hid hok
            have u0 : decide ((0 : Int) < (k' : Int) + 1) = true := by simp <;> omega
            have u1 : IntKind.i64.wrap (k' : Int) = k' := IntWalk.i64_in _ (by omega)
            have u2 : decide ((L[k' + 1]).at_ ≤ (L[k']).at_) = false := decide_eq_false (by omega)
            clear hok d1 d2
            have i1 : (0 : Int) ≤ (k' : Int) := by omega
            have i2 : (k' : Int) < (L.length : Int) := by omega
            have i4 : (0 : Int) ≤ (k' : Int) + 1 := by omega
            have i5 : (k' : Int) + 1 < (L.length : Int) := by omega
            go_wp2_with fail
            go_quiet (fail)
            go_wp2
            exact ⟨⟨k' + 1 + 1, hlt, by go_num, below_drewN hbw _, fun j hj => if e : j = k' + 1 then by rw [e]; exact HOK.out else hno.out j (by omega)⟩, by simp [intOf]; omega⟩
          · obtain ⟨b', off', h', hb', d0, d1, d2⟩ := Mem.pg (Sl.In.below hL (hbw.mono hB)) hk'
            obtain ⟨rfl, rfl⟩ : b = b' ∧ off = off' := by simpa using h'
            have HR := Lib.hid (rightB_bad hlt hn)
            have u0 : decide ((0 : Int) < (k' : Int) + 1) = true := by simp <;> omega
            have u1 : IntKind.i64.wrap (k' : Int) = k' := IntWalk.i64_in _ (by omega)
            have u2 : decide ((L[k' + 1]).at_ ≤ (L[k']).at_) = true := decide_eq_true (by omega)
            clear hn d1 d2
            have i1 : (0 : Int) ≤ (k' : Int) := by omega
            have i2 : (k' : Int) < (L.length : Int) := by omega
            have i4 : (0 : Int) ≤ (k' : Int) + 1 := by omega
            have i5 : (k' : Int) + 1 < (L.length : Int) := by omega
            go_wp2_with fail
            go_quiet (fail)
            go_wp2
            go_ret
            rw [HR.out]
            exact ⟨rfl, below_drewN hbw _⟩
      · obtain rfl : k = L.length := by omega
        have HR := Lib.hid (rightB_all hno.out)
        go_wp2
        go_ret
        rw [HR.out]
        exact ⟨ret_bool (by simp; omega), hbw⟩
  · have l0 : 64 < (L.length : Int) := by omega
    have HR := Lib.hid (rightB_long hlen)
    go_enter Tryd.func63, Tryd.ntmps63
    go_wp2
    go_ret
    rw [HR.out]
    exact ⟨rfl, Below.refl _ _⟩
end Go.Proofs.YtajhehmkdlebbaaDoor
