/- The reference's Load. page.table: where each page stands; page.of. Plain facts on right memory: where a page stands; the bytes. -/
import Derived.Test.YtajhehmkdlebbaaDoorPgAt
import Derived.Maps.Own
import Derived.Maps.OwnSet
import Derived.Maps.Views
namespace Go.Proofs.YtajhehmkdlebbaaDoor
open Go.ChangeShapes Go.WideShapes Go.ChangeAt Go.RowKit Go.Deep
set_option maxRecDepth 100000
theorem pow256_le {n : Nat} (h : n ≤ 7) : (256 : Int) ^ n ≤ 72057594037927936 := by
  match n, h with
  | 0, _ => decide
  | 1, _ => decide
  | 2, _ => decide
  | 3, _ => decide
  | 4, _ => decide
  | 5, _ => decide
  | 6, _ => decide
  | 7, _ => decide
theorem toNat_of_eq {x : Int} {d : Nat} (h : x = d) : x.toNat = d := by omega
/-- the sum that a round of Load makes -/
theorem load_sum {v b : Int} {k : Nat} (hv : 0 ≤ v ∧ v < 256 ^ k) (hb : 0 ≤ b ∧ b < 256) (hk : k ≤ 7) :
    IntKind.u64.wrap (v + IntKind.u64.wrap (256 ^ k % 18446744073709551616 * IntKind.u64.wrap b)) = v + 256 ^ k * b := by
  have hp := pow256_pos k
  have hl := pow256_le hk
  have h1 : (256 : Int) ^ k % 18446744073709551616 = 256 ^ k := Int.emod_eq_of_lt (by omega) (by omega)
  have h2 : IntKind.u64.wrap b = b := by rw [IntKind.wrap_u64]; omega
  have h3 : 256 ^ k * b ≤ 256 ^ k * 255 := Int.mul_le_mul_of_nonneg_left (by omega) (Int.le_of_lt hp)
  have h4 : 0 ≤ (256 : Int) ^ k * b := Int.mul_nonneg (Int.le_of_lt hp) hb.1
  rw [h1, h2, IntKind.wrap_u64, IntKind.wrap_u64]
  generalize (256 : Int) ^ k * b = m at *
  generalize (256 : Int) ^ k = p at *
  omega
theorem pow256_step (k : Nat) : IntKind.u64.wrap ((256 : Int) ^ k % 18446744073709551616 * 256) = 256 ^ (k + 1) % 18446744073709551616 := by
  rw [IntKind.wrap_u64, Int.pow_succ, Int.mul_emod, Int.emod_emod, ← Int.mul_emod]
theorem byteAt_low {l : List Pg} {at_ perm T : Int} {k : Nat} (hT : T = (at_ + k) % 18446744073709551616) (h : T < at_) : byteAt l at_ perm k = none := by
  unfold byteAt; rw [← hT, if_pos h]
theorem byteAt_far {l : List Pg} {at_ perm T : Int} {k : Nat} (hT : T = (at_ + k) % 18446744073709551616) (h : idxF l T = none) : byteAt l at_ perm k = none := by
  unfold byteAt; rw [← hT]
  split
  · rfl
  · rw [h]; rfl
theorem byteAt_some {l : List Pg} {at_ perm T : Int} {k i : Nat} (hT : T = (at_ + k) % 18446744073709551616) (h0 : at_ ≤ T) (h : idxF l T = some i) (hi : i < l.length) :
    byteAt l at_ perm k = if grantB l[i] perm then some (byteI (l[i]).data (T - (l[i]).at_).toNat) else none := by
  unfold byteAt
  rw [← hT, if_neg (by omega), h, Option.bind_some, List.getElem?_eq_getElem hi, Option.bind_some]
theorem atI_some {l : List Pg} {T : Int} {i : Nat} (h : idxF l T = some i) : atI l T = i := by unfold atI; rw [h]
theorem atI_no {l : List Pg} {T : Int} (h : idxF l T = none) : atI l T = -1 := by unfold atI; rw [h]
set_option maxHeartbeats 2000000 in
theorem rload_any {A : Option Addr} {cap : Nat} {L : List Pg} {w : World} {B : Nat} (at_ n perm : Int) (_hat : 0 ≤ at_ ∧ at_ ≤ 18446744073709551615) (hn : -9223372036854775808 ≤ n ∧ n ≤ 9223372036854775807)
    (hL : Mem w B A cap L) (hB : B ≤ w.heap.size) (hwf : ∀ p ∈ L, p.ok) (hlen : L.length ≤ 140737488351232) :
    Calls Tryd.prog 33 #[.slice A L.length cap, .int .u64 at_, .int .i64 n, .int .i64 perm] w fun e w' => e = .returned (.tuple #[.int .u64 (loadV L at_ n perm), .int .i64 (loadE L at_ n perm)]) ∧ Below w.heap.size w w' := by
  by_cases hc : (1 ≤ n ∧ n ≤ 8) ∧ rightB L = true
  · have hV : loadV L at_ n perm = (loadN L at_ perm n.toNat).getD 0 := by unfold loadV; rw [if_pos hc]
    have hE : loadE L at_ n perm = (if (loadN L at_ perm n.toNat).isSome then 0 else 6) := by unfold loadE; rw [if_pos hc]
    obtain ⟨⟨h1, h8⟩, hR⟩ := hc
    obtain ⟨N, rfl⟩ := Int.eq_ofNat_of_zero_le (show 0 ≤ n by omega)
    rw [Int.toNat_natCast] at hV hE
    have hR0 := rightB_out hR
    have HV := Lib.hid hV
    have HE := Lib.hid hE
    have HR := Lib.hid hR
    have HR0 := Lib.hid hR0
    have HWF := Lib.hid hwf
    clear hV hE hR hR0 hwf
    go_enter Tryd.func33, Tryd.ntmps33
    go_wp2_with fail
    refine (rright_any hL hB HWF.out).mono ?_
    rintro e w1 ⟨rfl, hb1⟩
    rw [HR.out]
    go_wp2
    go_loopw [11, 12, 13] (fun v f i wr => ∃ (k : Nat) (V : Int), k ≤ N ∧ i = .int .i64 k ∧ v = .int .u64 V ∧ f = .int .u64 (256 ^ k % 18446744073709551616) ∧ Below w.heap.size w wr ∧ Hid (loadN L at_ perm k = some V)) (fun _ _ i _ => N - (intOf i).toNat)
    case atStart => exact ⟨0, 0, Nat.zero_le _, rfl, rfl, rfl, hb1, rfl⟩
    case round =>
      obtain ⟨k, V, hk, rfl, rfl, rfl, hbw, hno⟩ := hrel
      by_cases hlt : k < N
      · have hso := hbw.size
        obtain ⟨T, hT⟩ : ∃ T, T = IntKind.u64.wrap (at_ + (k : Int)) := ⟨_, rfl⟩
        have hT2 : T = (at_ + k) % 18446744073709551616 := by rw [hT, IntKind.wrap_u64]
        have hTb : 0 ≤ T ∧ T ≤ 18446744073709551615 := by omega
        have HT2 := Lib.hid hT2
        have hTr : IntKind.u64.wrap (at_ + (k : Int)) = T := hT.symm
        have hLr := Sl.In.below hL (hbw.mono hB)
        clear hT hT2
        cases hx : idxF L T with
        | none =>
          have hN := Lib.hid (loadN_none (l := L) (at_ := at_) (perm := perm) (n := k + 1) (by simp only [loadN, hno.out, byteAt_far HT2.out hx, Option.bind_some, Option.map_none]) (show k + 1 ≤ N by omega))
          have HI := Lib.hid (atI_no hx)
          clear hx
          go_wp2_with (go_at_call 64; refine (at_any T hTb hLr HWF.out hlen).mono ?_; rintro e w2 ⟨rfl, rfl⟩; rw [HI.out])
          go_ret2
          rw [HV.out, HE.out, hN.out]
          exact ⟨rfl, hbw⟩
        | some i =>
          have hil := idxF_lt hx
          have hih := idxF_has hx hil
          have HI := Lib.hid (atI_some hx)
          by_cases hlow : T < at_
          · have hN := Lib.hid (loadN_none (l := L) (at_ := at_) (perm := perm) (n := k + 1) (by simp only [loadN, hno.out, byteAt_low HT2.out hlow, Option.bind_some, Option.map_none]) (show k + 1 ≤ N by omega))
            clear hx
            go_wp2_with (go_at_call 64; refine (at_any T hTb hLr HWF.out hlen).mono ?_; rintro e w2 ⟨rfl, rfl⟩; rw [HI.out])
            go_ret2
            rw [HV.out, HE.out, hN.out]
            exact ⟨rfl, hbw⟩
          · obtain ⟨b, off, rfl, hb, c0, c1, c2⟩ := Mem.pg hLr hil
            have hbz : b < wr.heap.size := by omega
            have hby := byteAt_some (perm := perm) HT2.out (show at_ ≤ T by omega) hx hil
            cases hg : grantB L[i] perm
            · rw [hg] at hby
              have hN := Lib.hid (loadN_none (l := L) (at_ := at_) (perm := perm) (n := k + 1) (by simp only [loadN, hno.out, hby, Option.bind_some]; rfl) (show k + 1 ≤ N by omega))
              have HG := Lib.hid hg
              clear hx hby hg
              go_wp2_with (first
                | (go_at_call 64; refine (at_any T hTb hLr HWF.out hlen).mono ?_; rintro e w2 ⟨rfl, rfl⟩; rw [HI.out])
                | (go_at_call 65; refine (grants_any L[i] perm _).mono ?_; rintro e w3 ⟨rfl, hb3⟩; rw [HG.out]))
              go_ret2
              rw [HV.out, HE.out, hN.out]
              exact ⟨rfl, hbw.trans (hb3.mono hso)⟩
            · rw [hg] at hby
              have HG := Lib.hid hg
              have HBY := Lib.hid hby
              obtain ⟨ha, hp, hd⟩ := HWF.out _ (List.getElem_mem hil)
              obtain ⟨d, hde⟩ := Int.eq_ofNat_of_zero_le (show 0 ≤ T - (L[i]).at_ by omega)
              have hds : (L[i]).data.size = 256 := ((HR0.out.2 i hil) _ (List.getElem?_eq_getElem hil)).2.2.2.1
              have hdl : d < (L[i]).data.size := by omega
              have hw1 : IntKind.u64.wrap (T - (L[i]).at_) = (d : Int) := by rw [IntKind.wrap_u64]; omega
              have HDE := Lib.hid hde
              clear hx hby hg hde hds hih
              have i1 : (0 : Int) ≤ (d : Int) := by omega
              have i2 : (d : Int) < ((L[i]).data.size : Int) := by omega
              have i3 : (0 : Int) ≤ (i : Int) := by omega
              have i4 : (i : Int) < (L.length : Int) := by omega
              go_wp2_with (first
                | (go_at_call 64; refine (at_any T hTb hLr HWF.out hlen).mono ?_; rintro e w2 ⟨rfl, rfl⟩; rw [HI.out])
                | (go_at_call 65; refine (grants_any L[i] perm _).mono ?_; rintro e w3 ⟨rfl, hb3⟩; rw [HG.out]; obtain ⟨q3, g3⟩ := bcell hb3))
              go_quiet (fail)
              go_wp2
              have hsum := load_sum (loadN_bd hno.out) (byteI_bd (L[i]).data d) (show k ≤ 7 by omega)
              have hstep : loadN L at_ perm (k + 1) = some (V + 256 ^ k * byteI (L[i]).data d) := by
                simp only [loadN, hno.out, HBY.out, Option.bind_some, if_true, Option.map_some]
                rw [HDE.out, Int.toNat_natCast]
              exact ⟨⟨k + 1, _, hlt, by go_num, by rw [byteI_at hdl, hsum], by rw [pow256_step], below_drewN (hbw.trans (hb3.mono hso)) _, hstep⟩, by simp [intOf]; omega⟩
      · obtain rfl : k = N := by omega
        go_wp2
        go_ret2
        rw [HV.out, HE.out, hno.out]
        exact ⟨rfl, hbw⟩
  · have hV : loadV L at_ n perm = 0 := by unfold loadV; rw [if_neg hc]
    have hE : loadE L at_ n perm = 1 := by unfold loadE; rw [if_neg hc]
    have HV := Lib.hid hV
    have HE := Lib.hid hE
    clear hV hE
    have hcc : ¬ 1 ≤ n ∨ (1 ≤ n ∧ ¬ n ≤ 8) ∨ ((1 ≤ n ∧ n ≤ 8) ∧ rightB L = false) := by
      by_cases c1 : 1 ≤ n
      · by_cases c2 : n ≤ 8
        · exact .inr (.inr ⟨⟨c1, c2⟩, by cases h : rightB L; rfl; exact absurd ⟨⟨c1, c2⟩, h⟩ hc⟩)
        · exact .inr (.inl ⟨c1, c2⟩)
      · exact .inl c1
    clear hc
    rcases hcc with c | ⟨c, c'⟩ | ⟨⟨c, c'⟩, hR⟩
    · have c0 : n < 1 := by omega
      go_enter Tryd.func33, Tryd.ntmps33
      go_wp2_with fail
      refine (rright_any hL hB hwf).mono ?_
      rintro e w1 ⟨rfl, hb1⟩
      go_wp2
      go_ret2
      rw [HV.out, HE.out]
      exact ⟨rfl, hb1⟩
    · have c0 : 8 < n := by omega
      go_enter Tryd.func33, Tryd.ntmps33
      go_wp2_with fail
      refine (rright_any hL hB hwf).mono ?_
      rintro e w1 ⟨rfl, hb1⟩
      go_wp2
      go_ret2
      rw [HV.out, HE.out]
      exact ⟨rfl, hb1⟩
    · have HR := Lib.hid hR
      clear hR
      go_enter Tryd.func33, Tryd.ntmps33
      go_wp2_with fail
      refine (rright_any hL hB hwf).mono ?_
      rintro e w1 ⟨rfl, hb1⟩
      rw [HR.out]
      go_wp2
      go_ret2
      rw [HV.out, HE.out]
      exact ⟨rfl, hb1⟩
end Go.Proofs.YtajhehmkdlebbaaDoor
namespace Go.Proofs.YtajhehmkdlebbaaDoor
open Go.ChangeShapes Go.WideShapes Go.ChangeAt Go.RowKit Go.Deep Go.Maps Go.WideMaps
set_option maxRecDepth 100000
theorem p_laidOut : laidOutB Tryd.prog = true := by kernel_rfl
theorem p_row : (164 : TypeId) < Tryd.prog.types.size := of_decide_eq_true (by kernel_rfl)
theorem p_wide : (match Tryd.prog.underlying 164 with | some (.array _ _) | some (.struct _) => true | _ => false) = true := by rw [Tryd.underlying164]
theorem p_law : Keyed Tryd.prog 164 := Keyed.of_law (deep_law_laid p_laidOut (m := 2) (by omega) p_row (by kernel_rfl) p_wide)
def keyL (a : Int) : Lit := .string (keyBytes [.int .u64 a])
theorem keyOf_page {a : Int} (h : 0 ≤ a ∧ a ≤ 18446744073709551615) : keyOf Tryd.prog 164 (.agg #[.int .u64 a]) = some (keyL a) := by
  have hw : (Lit.int .u64 a).wf = true := by go_wf
  have hk : Tryd.prog.keyType 164 = true := by kernel_rfl
  have hs : Tryd.prog.cellsOf 164 = 1 := by kernel_rfl
  have hu : Tryd.prog.cellsOf 24 = 1 := by kernel_rfl
  obtain ⟨n, hn⟩ := Nat.exists_eq_succ_of_ne_zero (Nat.ne_of_gt (Nat.lt_of_le_of_lt (Nat.zero_le _) p_row))
  unfold keyOf
  rw [Tryd.underlying164]
  simp only [hk, Value.formed, Tryd.underlying164, hs, hn]
  simp [Program.keyLits, Tryd.underlying164, Tryd.underlying24, hs, hu, hw, Value.cells, keyL]
theorem keyL_inj {a b : Int} (ha : 0 ≤ a ∧ a ≤ 18446744073709551615) (hb : 0 ≤ b ∧ b ≤ 18446744073709551615) (h : keyL a = keyL b) : a = b := by
  have h1 := keyOf_page ha
  have h2 := keyOf_page hb
  rw [h] at h1
  have := p_law.inj h1 h2
  simpa using this
/-- the last of the first k pages that begins at a place -/
def lastIx (l : List Pg) (a : Int) : Nat → Option Nat
  | 0 => none
  | k + 1 => if (l[k]?).map Pg.at_ = some a then some k else lastIx l a k
abbrev zD : DataW Unit := .lit (.int .i64 0)
def ixD : Option Nat → DataW Unit
  | some i => .lit (.int .i64 i)
  | none => zD
def TabD (D : DataW Unit) (l : List Pg) (k : Nat) : Prop := IsMap D ∧ ∀ a : Int, 0 ≤ a ∧ a ≤ 18446744073709551615 → Maps.has D (keyL a) = (lastIx l a k).isSome ∧ D.atKey (keyL a) zD = ixD (lastIx l a k)
theorem tabD_zero (l : List Pg) : TabD (.map []) l 0 := ⟨isMap_empty, fun _ _ => ⟨rfl, rfl⟩⟩
theorem tabD_step {D : DataW Unit} {l : List Pg} {k : Nat} (h : TabD D l k) (hk : k < l.length) (ha : 0 ≤ (l[k]).at_ ∧ (l[k]).at_ ≤ 18446744073709551615) : TabD (D.put (keyL (l[k]).at_) (.lit (.int .i64 k))) l (k + 1) := by
  have hg : (l[k]?).map Pg.at_ = some (l[k]).at_ := by rw [List.getElem?_eq_getElem hk]; rfl
  have hkl : WideAt.IsKeyLit (keyL (l[k]).at_) := p_law.key (keyOf_page ha)
  refine ⟨h.1.put _ _, fun a hab => ?_⟩
  by_cases e : a = (l[k]).at_
  · subst e
    have hl : lastIx l (l[k]).at_ (k + 1) = some k := by unfold lastIx; rw [if_pos hg]
    rw [hl]
    exact ⟨has_put_same h.1 hkl _, atKey_put_same h.1 hkl _ _⟩
  · have hl : lastIx l a (k + 1) = lastIx l a k := by
      show (if _ then _ else _) = _
      rw [if_neg (by rw [hg]; simpa using fun h => e h.symm)]
    have hne : keyL a ≠ keyL (l[k]).at_ := fun h' => e (keyL_inj hab ha h')
    rw [hl, has_put_other hne, atKey_put_other hne]
    exact h.2 a hab
/-- the map in block b tells where each page stands -/
def TabAt (w : World) (b : Nat) (l : List Pg) (k : Nat) : Prop := ∃ D : DataW Unit, w.ownsMap Tryd.prog 164 (plainElem Tryd.prog 3) b k D ∧ TabD D l k
theorem TabAt.kept {w w' : World} {b k : Nat} {l : List Pg} {row : Option Nat} (h : TabAt w b l k) (hg : w.grownBy w' row) (hne : some b ≠ row) : TabAt w' b l k := by
  obtain ⟨D, h1, h2⟩ := h
  exact ⟨D, h1.kept hg hne, h2⟩
theorem TabAt.below {w w' : World} {b k : Nat} {l : List Pg} (h : TabAt w b l k) (hb : Below w.heap.size w w') : TabAt w' b l k := h.kept (grown0 hb) (by simp)
theorem TabAt.lt {w : World} {b k : Nat} {l : List Pg} (h : TabAt w b l k) : b < w.heap.size := by
  obtain ⟨D, h1, _⟩ := h
  exact h1.lt
set_option maxHeartbeats 1000000 in
theorem table_any {A : Option Addr} {cap : Nat} {L : List Pg} {w : World} {B : Nat} (hL : Mem w B A cap L) (hB : B ≤ w.heap.size) (hwf : ∀ p ∈ L, p.ok) (hlen : L.length ≤ 140737488351232) :
    Calls Tryd.prog 94 #[.slice A L.length cap] w fun e w' => e = .returned (.map (some w.heap.size)) ∧ TabAt w' w.heap.size L L.length ∧ Below w.heap.size w w' := by
  have HWF := Lib.hid hwf
  have hmm := @run_makeMap Tryd.prog
  clear hwf
  go_enter Tryd.func94, Tryd.ntmps94
  go_wp2
  go_loopw [9] (fun i wr => ∃ k : Nat, k ≤ L.length ∧ i = .int .i64 k ∧ TabAt wr w.heap.size L k ∧ Below w.heap.size w wr) (fun i _ => L.length - (intOf i).toNat)
  case atStart => exact ⟨0, Nat.zero_le _, rfl, ⟨_, World.ownsMap_made _ _ _ _, tabD_zero L⟩, (Below.refl _ _).alloc (Nat.le_refl _) _⟩
  case round =>
    obtain ⟨k, hk, rfl, hT, hbw⟩ := hrel
    by_cases hlt : k < L.length
    · obtain ⟨b, off, rfl, hb, c0, c1, c2⟩ := Mem.pg (Sl.In.below hL (hbw.mono hB)) hlt
      obtain ⟨ha, hp, hd⟩ := HWF.out _ (List.getElem_mem hlt)
      obtain ⟨D, hown, hD⟩ := hT
      have hso := hbw.size
      have hstep := tabD_step hD hlt ha
      have HS := Lib.hid hstep
      have hown1 := hown.alloc (.cells #[.int .u64 (L[k]).at_, .int .i64 (L[k]).perm, .string (L[k]).data] 41)
      have HO := Lib.hid hown1
      clear hstep hown hown1 hD
      go_wp2_with (at_mapUpdate; refine wpList_mapUpdate_own (H := Unit) _ rfl _ _ _ 159 rfl 164 3 p_law Tryd.underlying159 _ w.heap.size k _ rfl HO.out (by unfold maxLen; omega) _ _ _ rfl rfl (keyOf_page ha) _ [] (plainElem_int Tryd.underlying3 (by go_wf)) ?_; intro w1 hown2 hgrow)
      exact ⟨⟨k + 1, hlt, by go_num, ⟨_, hown2, HS.out⟩, (hbw.alloc hso _).grown hgrow (by simp; omega) (fun j e => by cases e; exact Nat.le_refl _)⟩, by simp [intOf]; omega⟩
    · obtain rfl : k = L.length := by omega
      go_wp2
      go_ret
      exact ⟨rfl, hT, hbw⟩
end Go.Proofs.YtajhehmkdlebbaaDoor
namespace Go.Proofs.YtajhehmkdlebbaaDoor
open Go.ChangeShapes Go.WideShapes Go.ChangeAt Go.RowKit Go.Deep Go.Maps Go.WideMaps
theorem right_lt {l : List Pg} (h : RightP l) : ∀ {j i : Nat} (hij : i < j) (hj : j < l.length), (l[i]).at_ < (l[j]).at_
  | 0, i, hij, _ => absurd hij (Nat.not_lt_zero _)
  | j + 1, i, hij, hj => by
    have hjl : j < l.length := by omega
    have h1 : (l[j]).at_ < (l[j + 1]).at_ := (h.2 (j + 1) hj _ (List.getElem?_eq_getElem hj)).2.2.2.2 _ (Nat.succ_pos _) (by rw [Nat.add_sub_cancel]; exact List.getElem?_eq_getElem hjl)
    by_cases e : i = j
    · subst e; exact h1
    · exact Int.lt_trans (right_lt h (show i < j by omega) hjl) h1
theorem right_mod {l : List Pg} (h : RightP l) {i : Nat} (hi : i < l.length) : (l[i]).at_ % 256 = 0 := (h.2 i hi _ (List.getElem?_eq_getElem hi)).1
theorem right_size {l : List Pg} (h : RightP l) {i : Nat} (hi : i < l.length) : (l[i]).data.size = 256 := (h.2 i hi _ (List.getElem?_eq_getElem hi)).2.2.2.1
theorem lastIx_some {l : List Pg} {a : Int} {i : Nat} : ∀ {k : Nat}, lastIx l a k = some i → i < k ∧ (l[i]?).map Pg.at_ = some a
  | 0, h => by cases h
  | k + 1, h => by
    unfold lastIx at h
    split at h
    · rename_i hc; cases h; exact ⟨Nat.lt_succ_self _, hc⟩
    · have := lastIx_some h; exact ⟨by omega, this.2⟩
theorem lastIx_none {l : List Pg} {a : Int} : ∀ {k : Nat}, lastIx l a k = none → ∀ j, j < k → (l[j]?).map Pg.at_ ≠ some a
  | 0, _, j, hj => absurd hj (Nat.not_lt_zero _)
  | k + 1, h, j, hj => by
    unfold lastIx at h
    split at h
    · cases h
    · rename_i hc
      by_cases e : j = k
      · subst e; exact hc
      · exact lastIx_none h j (by omega)
theorem hasPg_iff {l : List Pg} (h : RightP l) {T : Int} {i : Nat} (hi : i < l.length) : hasPg T l[i] = true ↔ (l[i]).at_ = T - T % 256 := by
  have := right_mod h hi
  unfold hasPg
  rw [decide_eq_true_iff]
  omega
theorem ix_eq {l : List Pg} (h : RightP l) (T : Int) : lastIx l (T - T % 256) l.length = idxF l T := by
  cases hl : lastIx l (T - T % 256) l.length with
  | some i =>
    obtain ⟨hi, ha⟩ := lastIx_some hl
    rw [List.getElem?_eq_getElem hi] at ha
    have ha' : (l[i]).at_ = T - T % 256 := by simpa using ha
    refine (atI_hit hi ((hasPg_iff h hi).2 ha') (fun j hj hji => ?_)).symm
    cases hp : hasPg T l[j] with
    | false => rfl
    | true =>
      have h1 := (hasPg_iff h hj).1 hp
      have h2 := right_lt h hji hi
      omega
  | none =>
    refine (atI_none (fun j hj => ?_)).symm
    cases hp : hasPg T l[j] with
    | false => rfl
    | true =>
      have h1 := (hasPg_iff h hj).1 hp
      have := lastIx_none hl j hj
      rw [List.getElem?_eq_getElem hj] at this
      exact absurd (by simpa using h1) this
end Go.Proofs.YtajhehmkdlebbaaDoor
