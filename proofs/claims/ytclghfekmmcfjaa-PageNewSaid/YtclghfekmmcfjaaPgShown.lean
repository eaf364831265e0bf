/- The document's example for memory, at the head of all its statements: true. Memory among a law's arguments. -/
import Derived.Test.YtclghfekmmcfjaaPgMap
import Derived.Test.YtclghfekmmcfjaaPgRMap
import Derived.Test.YtclghfekmmcfjaaPgPl2
import Derived.Test.YtclghfekmmcfjaaPgSame
namespace Go.Proofs.Ytclghfekmmcfjaa
open Go.ChangeShapes Go.WideShapes Go.ChangeAt Go.RowKit Go.Deep Go.Maps Go.WideMaps
set_option maxRecDepth 100000
def shPg : Pg := ⟨256, 6, zerosB 256⟩
theorem sh_right0 : RightP ([] : List Pg) := ⟨by simp, fun k hk => absurd hk (by simp)⟩
theorem sh_map : mapE [] 256 1 6 = 0 ∧ mapX [] 256 1 6 = [shPg] := by
  have hok : mapOk [] 256 1 6 := ⟨rightB_in sh_right0, by omega, by omega, by omega, by omega⟩
  have hE : mapE [] 256 1 6 = 0 := by
    unfold mapE; rw [if_pos hok]; rfl
  refine ⟨hE, ?_⟩
  rw [mapX_zero hE]; rfl
theorem sh_rightX : RightP [shPg] := by
  have := mapX_rightP (l := []) (at_ := 256) (n := 1) (perm := 6) sh_right0
  rwa [sh_map.2] at this
theorem sh_okX : ∀ p ∈ [shPg], p.ok := by
  have := mapX_okP (l := []) (at_ := 256) (n := 1) (perm := 6) (fun p hp => by cases hp) (by omega)
  rwa [sh_map.2] at this
theorem sh_byte {k : Nat} (hk : k < 2) : (byteAt [shPg] 510 2 k).isSome = true := by
  have hi : idxF [shPg] (510 + (k : Int)) = some 0 := by
    refine atI_hit (k := 0) (by simp) (decide_eq_true ?_) (fun j hj h => absurd h (Nat.not_lt_zero _))
    simp only [List.getElem_cons_zero, shPg]; omega
  have hT : (510 + (k : Int)) = (510 + (k : Int)) % 18446744073709551616 := by omega
  rw [byteAt_some hT (by omega) hi (by simp)]
  have hg : grantB ([shPg][0]) 2 = true := by
    show (bits .and .i64 6 2 == 2) = true
    decide +kernel
  rw [hg]; rfl
theorem sh_load2 : loadE [shPg] 510 2 2 = 0 := by
  unfold loadE; rw [if_pos ⟨by omega, rightB_in sh_rightX⟩]
  have : (loadN [shPg] 510 2 (2 : Int).toNat).isSome = true := loadN_some_iff fun k hk => sh_byte hk
  rw [this]; rfl
theorem sh_load4 : loadE [shPg] 510 4 2 = 6 := by
  unfold loadE; rw [if_pos ⟨by omega, rightB_in sh_rightX⟩]
  have hb : byteAt [shPg] 510 2 2 = none := by
    refine byteAt_far (T := 512) (by omega) (atI_none fun j hj => decide_eq_false ?_)
    obtain rfl : j = 0 := by simpa using hj
    simp only [List.getElem_cons_zero, shPg]; omega
  have h3 : loadN [shPg] 510 2 3 = none := by
    simp only [loadN]; rw [hb]
    simp
  have : loadN [shPg] 510 2 (4 : Int).toNat = none := loadN_none h3 (show 3 ≤ 4 by omega)
  rw [this]; rfl
set_option maxHeartbeats 1000000 in
theorem shown_any (w : World) : Calls Try.prog 27 #[] w fun e w' => e = .returned (.bool true) ∧ Below w.heap.size w w' := by
  have HM := Lib.hid sh_map
  have H2 := Lib.hid sh_load2
  have H4 := Lib.hid sh_load4
  go_enter Try.func27, Try.ntmps27
  go_wp2_with fail
  refine (map_any (L := []) (A := none) (cap := 0) (B := w.heap.size) 256 1 6 (by omega) ⟨by simp, fun k x hk => by simp at hk⟩ (fun _ => rfl) (Nat.le_refl _) (fun p hp => by cases hp) (by simp)).mono ?_
  rintro e w1 ⟨hb1, v, rfl, hv⟩
  rw [HM.out.1]
  rw [HM.out.2] at hv
  obtain ⟨A1, c1, rfl, hm, hn⟩ := hv
  have HM1 := Lib.hid hm
  have HN := Lib.hid hn
  have HB1 := Lib.hid hb1
  clear hm hn hb1
  go_wp2_with fail
  refine (store_any (L := [shPg]) 510 2 7 (by omega) HM1.out HN.out (Nat.le_refl _) sh_okX (by simp)).mono ?_
  rintro e w2 ⟨hb2, u, rfl, hu⟩
  rw [H2.out]
  have HM2 := Lib.hid ((Sl.In.below HM1.out hb2).more hb2.size)
  have HB2 := Lib.hid (HB1.out.trans (hb2.mono HB1.out.size))
  clear hu hb2
  go_wp2_with fail
  refine (store_any (L := [shPg]) 510 4 7 (by omega) HM2.out HN.out (Nat.le_refl _) sh_okX (by simp)).mono ?_
  rintro e w3 ⟨hb3, u3, rfl, hu3⟩
  rw [H4.out]
  have HB3 := HB2.out.trans (hb3.mono HB2.out.size)
  clear hu3 hb3
  go_wp2
  go_ret
  exact ⟨rfl, HB3⟩
/-- memory among a law's arguments -/
def MemG (w : World) (A : Option Addr) (cap : Nat) (L : List Pg) : Prop := Mem w w.heap.size A cap L ∧ (A = none → cap = 0) ∧ (∀ p ∈ L, p.ok) ∧ L.length ≤ 140737488351232
theorem MemG.of {w : World} {s : Sl Pg} (h : Sl.Good w w.heap.size 3 32 Pg.cells Pg.ok s ∧ (s.a = none → s.cap = 0)) : MemG w s.a s.cap s.l := by
  refine ⟨h.1.1, h.2, h.1.2.2.2, ?_⟩
  have h1 := h.1.1.1
  have h2 := h.1.2.1
  omega
theorem Mem.step {w w' : World} {A : Option Addr} {cap : Nat} {L : List Pg} (h : Mem w w.heap.size A cap L) (hb : Below w.heap.size w w') : Mem w' w'.heap.size A cap L := (Sl.In.below h hb).more hb.size
end Go.Proofs.Ytclghfekmmcfjaa
