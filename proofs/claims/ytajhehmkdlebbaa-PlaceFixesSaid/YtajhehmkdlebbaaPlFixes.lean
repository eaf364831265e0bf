/- PlaceFixes: what doesn't hang on a place stays as it is; all that does has its kind and registers still: the walk. -/
import Derived.Test.YtajhehmkdlebbaaPlFix3
import Derived.BigQuiet
import Derived.Deep.QuietTactic
namespace Go.Proofs.Ytajhehmkdlebbaa.Pl
open Go.ChangeShapes Go.WideShapes Go.ChangeAt Go.RowKit Go.Deep
set_option maxRecDepth 100000
/-! ### plain -/
def anyAt (l : List RelD) (i : Nat) : Bool := l.any fun r => r.at_.toNat == i
theorem anyAt_take {l : List RelD} {k : Nat} (hk : k < l.length) (i : Nat) : anyAt (l.take (k + 1)) i = (anyAt (l.take k) i || (l[k]).at_.toNat == i) := by
  unfold anyAt
  rw [List.take_succ_eq_append_getElem hk, List.any_append]
  simp
theorem fixO_at (at_ : Int) (S : List SymD) : ∀ (l : List RelD) (ops : List OpD) (i : Nat) (x : OpD), ops[i]? = some x → ∃ n, (fixO ops at_ S l)[i]? = some { x with imm := n } ∧ (anyAt l i = false → n = x.imm)
  | [], ops, i, x, h => ⟨x.imm, h, fun _ => rfl⟩
  | r :: l, ops, i, x, h => by
    show ∃ n, (fixO (ops.modify r.at_.toNat (setImm (newN at_ S r))) at_ S l)[i]? = _ ∧ _
    by_cases hi : r.at_.toNat = i
    · obtain ⟨n, h1, _⟩ := fixO_at at_ S l (ops.modify r.at_.toNat (setImm (newN at_ S r))) i (setImm (newN at_ S r) x) (by rw [List.getElem?_modify, h]; simp [hi])
      exact ⟨n, h1, fun ha => by unfold anyAt at ha; simp [hi] at ha⟩
    · obtain ⟨n, h1, h2⟩ := fixO_at at_ S l (ops.modify r.at_.toNat (setImm (newN at_ S r))) i x (by rw [List.getElem?_modify, h]; simp [hi])
      refine ⟨n, h1, fun ha => h2 ?_⟩
      unfold anyAt at ha ⊢
      simp only [List.any_cons, Bool.or_eq_false_iff] at ha
      exact ha.2
theorem fixE_zero (ops : List OpD) (at_ : Int) (S : List SymD) : ∀ {l : List RelD}, fixE ops at_ S l = 0 → ∀ r ∈ l, hangsB ops r = true
  | r :: l, h, s, hs => by
    unfold fixE at h
    split at h
    · rename_i h0
      rcases List.mem_cons.1 hs with rfl | hs
      · unfold relE at h0
        split at h0
        · assumption
        · cases h0
      · exact fixE_zero ops at_ S h s hs
    · rename_i h0
      exact absurd h h0
def hgL (n : Nat) (l : List RelD) : List Bool := (List.range n).map (anyAt l)
theorem hgL_len (n : Nat) (l : List RelD) : (hgL n l).length = n := by simp [hgL]
theorem hgL_zero (n : Nat) (l : List RelD) : (hgL n (l.take 0)).map Value.bool = (madeCells (Value.bool false).cells (n * 1)).toList := by
  rw [Nat.mul_one]
  show _ = (madeCells #[Value.bool false] n).toList
  rw [toList_madeCells_one]
  refine List.ext_getElem (by simp [hgL]) fun i h1 h2 => ?_
  simp [hgL, anyAt]
theorem boolInfo : (Try.prog.info? 4).map (fun i => (i.zero, i.size, i.bytes)) = some (some (.bool false), 1, 1) := by kernel_rfl
theorem hgL_set {n : Nat} {l : List RelD} {k q : Nat} (hk : k < l.length) (hq : (l[k]).at_ = (q : Int)) : ((hgL n (l.take k)).map Value.bool).set q (.bool true) = (hgL n (l.take (k + 1))).map Value.bool := by
  refine List.ext_getElem (by simp [hgL]) fun i h1 h2 => ?_
  have e : (l[k]).at_.toNat = q := by rw [hq]; rfl
  rw [List.getElem_set]
  simp only [hgL, List.getElem_map, List.getElem_range, anyAt_take hk, e]
  by_cases hi : q = i
  · subst hi; simp
  · rw [if_neg hi]
    have : (q == i) = false := by simpa using hi
    rw [this, Bool.or_false]
theorem CodeD.In.step {w W : World} {c : CodeD} (h : c.In w w.heap.size) (hb : Below w.heap.size w W) : c.In W W.heap.size := by
  obtain ⟨h1, ⟨a1, a2⟩, ⟨b1, b2⟩⟩ := h
  exact ⟨h1, ⟨(a1.below hb).more hb.size, a2⟩, ⟨(b1.below hb).more hb.size, b2⟩⟩
theorem codes_one {w : World} {c : CodeD} (h : c.In w w.heap.size) : Codes (w.alloc (.cells #[.string c.name, c.ops.v, c.rels.v] 25)) (w.heap.size + 1) (some ⟨w.heap.size, 0, none⟩) 1 [c] := by
  have hx := Box3.new w (.string c.name) c.ops.v c.rels.v 25
  have hs := h.step ((Below.refl w.heap.size w).alloc (Nat.le_refl _) (.cells #[.string c.name, c.ops.v, c.rels.v] 25))
  rw [World.size_alloc] at hs
  refine ⟨⟨Nat.le_refl _, fun k x hk => ?_⟩, by omega, fun d hd => by rw [List.mem_singleton] at hd; subst hd; exact hs⟩
  match k, hk with
  | 0, hk =>
    obtain rfl := Option.some.inj hk
    refine ⟨w.heap.size, 0, rfl, by omega, fun j u hu => ?_⟩
    match j, hu with
    | 0, hu => obtain rfl := Option.some.inj hu; exact hx.c0
    | 1, hu => obtain rfl := Option.some.inj hu; exact hx.c1
    | 2, hu => obtain rfl := Option.some.inj hu; exact hx.c2
    | j + 3, hu => simp [CodeD.cells] at hu
set_option maxHeartbeats 4000000 in
theorem fixes_any {w : World} {nm : ByteArray} {OA RA SA : Option Addr} {oc rc sc : Nat} {ops : List OpD} {rels : List RelD} {S : List SymD} (at_ : Int) (hC : (⟨nm, ⟨OA, oc, ops⟩, ⟨RA, rc, rels⟩⟩ : CodeD).In w w.heap.size) (hS : Syms w w.heap.size SA sc S) :
    Calls Try.prog 3 #[.agg #[.string nm, .slice OA ops.length oc, .slice RA rels.length rc], .int .u64 at_, .slice SA S.length sc] w fun e w' => e = .returned (.bool true) ∧ Below w.heap.size w w' := by
  have hol : ops.length ≤ 3518437208784 := by have h1 := hC.2.1.1.1; have h2 := hC.2.1.2.1; simp only at h1 h2; omega
  have hrl : rels.length ≤ 140737488351232 := by have h1 := hC.2.2.1.1; have h2 := hC.2.2.2.1; simp only at h1 h2; omega
  have hsl : S.length ≤ 140737488351232 := by have h1 := hS.1.1; have h2 := hS.2.1; simp only at h1; omega
  obtain ⟨W1, hW1⟩ : ∃ W1, w.alloc (.cells #[.string nm, .slice OA ops.length oc, .slice RA rels.length rc] 25) = W1 := ⟨_, rfl⟩
  have x1 : Box3 W1 w.heap.size (.string nm) (.slice OA ops.length oc) (.slice RA rels.length rc) := hW1 ▸ Box3.new w _ _ _ _
  have b1 : Below w.heap.size w W1 := by subst hW1; exact (Below.refl _ w).alloc (Nat.le_refl _) _
  have s1 : W1.heap.size = w.heap.size + 1 := by subst hW1; simp
  have hC1 := hC.step b1
  have HCO := Lib.hid (codes_one hC1)
  have HC := Lib.hid hC
  have HS := Lib.hid hS
  obtain ⟨W2, hW2⟩ : ∃ W2, W1.alloc (.cells #[.string nm, .slice OA ops.length oc, .slice RA rels.length rc] 25) = W2 := ⟨_, rfl⟩
  have b2 : Below w.heap.size w W2 := by subst hW2; exact b1.alloc b1.size _
  have x2 : Box3 W2 w.heap.size (.string nm) (.slice OA ops.length oc) (.slice RA rels.length rc) := by subst hW2; exact x1.below ((Below.refl _ W1).alloc (Nat.le_refl _) _) (by omega)
  have HX1 := Lib.hid x1
  have HX2 := Lib.hid x2
  have HB2 := Lib.hid b2
  have HCO2 := Lib.hid (show Codes W2 (W1.heap.size + 1) (some ⟨W1.heap.size, 0, none⟩) 1 [⟨nm, ⟨OA, oc, ops⟩, ⟨RA, rc, rels⟩⟩] from hW2 ▸ HCO.out)
  clear hC hS hC1 HCO x1 x2 b1 b2
  obtain ⟨p0, p1, p2⟩ := And.intro HX1.out.c0 (And.intro HX1.out.c1 HX1.out.c2)
  go_enter Try.func3, Try.ntmps3
  go_wp2_with fail
  refine (shown_any _).mono ?_
  rintro e w1 ⟨rfl, rfl⟩
  go_wp2_with fail
  rw [← s1]
  refine (few_any HCO2.out (by omega)).mono ?_
  rintro e w2 ⟨rfl, rfl⟩
  have hsz2 : W2.heap.size = w.heap.size + 2 := by subst hW2; simp [s1]
  obtain ⟨q0, q1, q2⟩ := And.intro HX2.out.c0 (And.intro HX2.out.c1 HX2.out.c2)
  clear hW1 hW2 p0 p1 p2
  cases hf : fewB [⟨nm, ⟨OA, oc, ops⟩, ⟨RA, rc, rels⟩⟩] 0 with
  | false =>
    clear hf
    go_wp2
    go_ret
    exact ⟨rfl, HB2.out⟩
  | true =>
    have hf5 : ops.length ≤ 5000 := by
      have := (fewB_true HCO2.out hf).1
      simp only [sumOps] at this
      omega
    clear hf
    by_cases hr2 : 2000 < rels.length
    · have e2 : 2000 < (rels.length : Int) := by omega
      clear hr2
      go_wp2
      go_ret
      exact ⟨rfl, HB2.out⟩
    have e2 : decide (2000 < (rels.length : Int)) = false := decide_eq_false (by omega)
    by_cases hs2 : 100 < S.length
    · have e3 : 100 < (S.length : Int) := by omega
      clear hs2 hr2
      go_wp2
      go_ret
      exact ⟨rfl, HB2.out⟩
    have e3 : decide (100 < (S.length : Int)) = false := decide_eq_false (by omega)
    go_wp2_with fail
    refine (fix_any (B := w.heap.size) at_ (HC.out.2.1.1.below HB2.out) (HC.out.2.2.1.below HB2.out) (HS.out.1.below HB2.out) (by omega) hol hrl hsl HC.out.2.2.2.2.2 HS.out.2.2).mono ?_
    rintro e w3 ⟨v, rfl, hb3, hok, hbad⟩
    have HB3 := Lib.hid (HB2.out.trans (hb3.mono (by omega)))
    by_cases hE : fixE ops at_ S rels = 0
    · have hown := hok hE
      have hhang := fixE_zero ops at_ S hE
      rw [hE]
      have HH := Lib.hid hhang
      obtain ⟨VA, vc, rfl, hVA⟩ := own_form hown
      have HX3 := Lib.hid (HX2.out.below hb3 (by omega))
      have HOW := Lib.hid hown
      obtain ⟨p0, p1, p2⟩ := And.intro HX3.out.c0 (And.intro HX3.out.c1 HX3.out.c2)
      have hs3 := hb3.size
      obtain ⟨ib, hib, hbz0, hbz1, hbz2⟩ := info_parts boolInfo
      obtain ⟨w4, hrun, hmk, hg4⟩ := run_make_full (P := Try.prog) w3 w3.heap.size 34 4 ib (.bool false) 1 Try.underlying34 hib hbz0 hbz1 .i64 .i64 ops.length (by rw [hbz2]; omega) (by unfold maxLen; omega) (Nat.le_refl _)
      have hb4 : Below w3.heap.size w3 w4 := (Below.refl _ _).grown hg4 (Nat.le_refl _) (fun k hk => by cases hk)
      have HM := Lib.hid (show w4.ownsRow w3.heap.size 4 1 (.slice (some ⟨w3.heap.size, 0, none⟩) ops.length ops.length) ops.length ((hgL ops.length (rels.take 0)).map Value.bool) by rw [hgL_zero]; exact hmk)
      have HB4 := Lib.hid hb4
      clear hown hhang hok hbad hE hVA hb3 hmk hg4 hib hbz0 hbz1 hbz2 q0 q1 q2 hb4
      go_wp2
      go_loopw [12] (fun i wr => ∃ k : Nat, k ≤ rels.length ∧ i = .int .i64 k ∧ Hid (wr.ownsRow w3.heap.size 4 1 (.slice (some ⟨w3.heap.size, 0, none⟩) ops.length ops.length) ops.length ((hgL ops.length (rels.take k)).map Value.bool)) ∧ Hid (Below w3.heap.size w3 wr)) (fun i _ => rels.length - (intOf i).toNat)
      case atStart => exact ⟨0, Nat.zero_le _, rfl, HM, HB4⟩
      case round =>
        clear p0 p1 p2 hrun
        obtain ⟨k, hk, rfl, HMR, HBR⟩ := hrel
        have HXR := Lib.hid (HX3.out.below HBR.out (by omega))
        obtain ⟨p0, p1, p2⟩ := And.intro HXR.out.c0 (And.intro HXR.out.c1 HXR.out.c2)
        have HBW := Lib.hid (HB3.out.trans (HBR.out.mono HB3.out.size))
        by_cases hlt : k < rels.length
        · obtain ⟨b, off, rfl, hb, hc⟩ := (HC.out.2.2.1.below HBW.out).at_ hlt
          have c0 : wr.cell? ⟨b, off + k * 3, none⟩ = some (.int .i64 (rels[k]).at_) := hc 0 _ rfl
          obtain ⟨q, hq, hql⟩ := hangs_in (HH.out _ (List.getElem_mem hlt))
          rw [hq] at c0
          have hx : ((hgL ops.length (rels.take k)).map Value.bool)[q]? = some (.bool (anyAt (rels.take k) q)) := by
            rw [List.getElem?_map, hgL, List.getElem?_map, List.getElem?_range hql]; rfl
          have cc : wr.cell? ⟨w3.heap.size, q, none⟩ = some (.bool (anyAt (rels.take k) q)) := by rw [HMR.out.cellAt q (by omega)]; exact hx
          have fz := HMR.out.frozenAt q
          have st := (HMR.out.stored q (.bool true)).1
          rw [hgL_set hlt hq] at st
          have HST := Lib.hid st
          have HBS := Lib.hid (HBR.out.setCell (p := ⟨w3.heap.size, q, none⟩) (Nat.le_refl _) (.bool true))
          obtain ⟨u, hu⟩ : ∃ u, u = anyAt (rels.take k) q := ⟨_, rfl⟩
          rw [← hu] at cc
          have i1 : (0 : Int) ≤ (k : Int) := by omega
          have i2 : (k : Int) < (rels.length : Int) := by omega
          have j1 : (0 : Int) ≤ (q : Int) := by omega
          have j2 : (q : Int) < (ops.length : Int) := by omega
          have j3 : decide (ops.length ≤ q) = false := decide_eq_false (by omega)
          have j4 : decide ((q : Int) < 0) = false := decide_eq_false (by omega)
          clear hc hx st hq hu
          go_wp2
          exact ⟨⟨k + 1, hlt, by go_num, HST, HBS⟩, by simp [intOf]; omega⟩
        · obtain rfl : k = rels.length := by omega
          have HMF := Lib.hid (by have := HMR.out; rwa [List.take_length] at this : wr.ownsRow w3.heap.size 4 1 (.slice (some ⟨w3.heap.size, 0, none⟩) ops.length ops.length) ops.length ((hgL ops.length rels).map Value.bool))
          have HOF := Lib.hid (own_below HOW.out HBR.out)
          obtain ⟨w5, hw5⟩ : ∃ w5, w5 = wr := ⟨_, rfl⟩
          rw [← hw5] at HMF HOF HXR HBW p0 p1 p2 ⊢
          have s5 := HBW.out.size
          clear HMR HBR hw5
          go_wp2
          go_loopw [13] (fun i wr => ∃ k : Nat, k ≤ ops.length ∧ i = .int .i64 k ∧ Hid (Below w5.heap.size w5 wr)) (fun i _ => ops.length - (intOf i).toNat)
          case atStart => exact ⟨0, Nat.zero_le _, rfl, Below.refl _ _⟩
          case round =>
            clear p0 p1 p2
            obtain ⟨k, hk, rfl, HBR⟩ := hrel
            have HXK := Lib.hid (HXR.out.below HBR.out HXR.out.lt)
            obtain ⟨p0, p1, p2⟩ := And.intro HXK.out.c0 (And.intro HXK.out.c1 HXK.out.c2)
            have HBK := Lib.hid (HBW.out.trans (HBR.out.mono HBW.out.size))
            by_cases hlt : k < ops.length
            · have hOK := own_below HOF.out HBR.out
              have hMK := own_below HMF.out HBR.out
              obtain ⟨A', c', e', hA'⟩ := own_form HOF.out
              cases e'
              obtain ⟨g, rfl⟩ := hA' (by omega)
              obtain ⟨n, hx, hxn⟩ := fixO_at at_ S rels ops k ops[k] (List.getElem?_eq_getElem hlt)
              obtain ⟨x, hx0⟩ : ∃ x, x = ops[k] := ⟨_, rfl⟩
              obtain ⟨b, off, rfl, hb, hc⟩ := (HC.out.2.1.1.below HBK.out).at_ hlt
              have hc' : ∀ j u, (OpD.cells x)[j]? = some u → wr.cell? ⟨b, off + k * 5 + j, none⟩ = some u := by rw [hx0]; exact hc
              rw [← hx0] at hx hxn
              obtain ⟨kd, rd, ra, rb, im⟩ := x
              have c0 : wr.cell? ⟨b, off + k * 5, none⟩ = some (.int .i64 kd) := hc' 0 _ rfl
              have c1 : wr.cell? ⟨b, off + k * 5 + 1, none⟩ = some (.int .i64 rd) := hc' 1 _ rfl
              have c2 : wr.cell? ⟨b, off + k * 5 + 2, none⟩ = some (.int .i64 ra) := hc' 2 _ rfl
              have c3 : wr.cell? ⟨b, off + k * 5 + 3, none⟩ = some (.int .i64 rb) := hc' 3 _ rfl
              have c4 : wr.cell? ⟨b, off + k * 5 + 4, none⟩ = some (.int .i64 im) := hc' 4 _ rfl
              have o0 : wr.cell? ⟨g, k * 5, none⟩ = some (.int .i64 kd) := by rw [hOK.cellAt (k * 5) (by omega)]; exact flat_at OpD.len hx (j := 0) rfl
              have o1 : wr.cell? ⟨g, k * 5 + 1, none⟩ = some (.int .i64 rd) := by rw [hOK.cellAt (k * 5 + 1) (by omega)]; exact flat_at OpD.len hx (j := 1) rfl
              have o2 : wr.cell? ⟨g, k * 5 + 2, none⟩ = some (.int .i64 ra) := by rw [hOK.cellAt (k * 5 + 2) (by omega)]; exact flat_at OpD.len hx (j := 2) rfl
              have o3 : wr.cell? ⟨g, k * 5 + 3, none⟩ = some (.int .i64 rb) := by rw [hOK.cellAt (k * 5 + 3) (by omega)]; exact flat_at OpD.len hx (j := 3) rfl
              have o4 : wr.cell? ⟨g, k * 5 + 4, none⟩ = some (.int .i64 n) := by rw [hOK.cellAt (k * 5 + 4) (by omega)]; exact flat_at OpD.len hx (j := 4) rfl
              have m0 : wr.cell? ⟨w3.heap.size, k, none⟩ = some (.bool (anyAt rels k)) := by
                rw [hMK.cellAt k (by omega), List.getElem?_map, hgL, List.getElem?_map, List.getElem?_range hlt]; rfl
              have z0 := HXK.out.lt
              have z1 : w3.heap.size < wr.heap.size := (cell_block_lt m0).1
              have z2 : g < wr.heap.size := (cell_block_lt o0).1
              have z3 : b < wr.heap.size := (cell_block_lt c0).1
              have i1 : (0 : Int) ≤ (k : Int) := by omega
              have i2 : (k : Int) < (ops.length : Int) := by omega
              have HBA := Lib.hid (HBR.out.alloc HBR.out.size (.cells #[.int .i64 kd, .int .i64 rd, .int .i64 ra, .int .i64 rb, .int .i64 im] 38))
              clear hc hc' hx hx0 hOK hMK hA'
              cases ha : anyAt rels k with
              | true =>
                rw [ha] at m0
                clear ha hxn
                go_wp2_with fail
                go_quiet (fail)
                go_wp2
                exact ⟨⟨k + 1, hlt, by go_num, Lib.hid (below_drewN HBA.out _)⟩, by simp [intOf]; omega⟩
              | false =>
                rw [ha] at m0
                obtain rfl : n = im := hxn ha
                clear ha hxn
                go_wp2_with fail
                go_quiet (fail)
                go_wp2
                exact ⟨⟨k + 1, hlt, by go_num, Lib.hid (below_drewN HBA.out _)⟩, by simp [intOf]; omega⟩
            · obtain rfl : k = ops.length := by omega
              go_wp2
              go_ret
              exact ⟨rfl, HBK.out⟩
    · have hv := hbad hE
      have e4 : (fixE ops at_ S rels != 0) = true := by simpa using hE
      subst hv
      clear hE hok hbad hb3
      obtain ⟨E, hE⟩ : ∃ E, E = fixE ops at_ S rels := ⟨_, rfl⟩
      rw [← hE] at e4 ⊢
      clear hE
      go_wp2
      go_ret
      exact ⟨rfl, HB3.out⟩
end Go.Proofs.Ytajhehmkdlebbaa.Pl
