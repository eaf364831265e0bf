/- place.Fix: the walk. -/
import Derived.Test.YtajhehmkdlebbaaDoorPlFix2
namespace Go.Proofs.YtajhehmkdlebbaaDoor.Pl
open Go.ChangeShapes Go.WideShapes Go.ChangeAt Go.RowKit Go.Deep
set_option maxRecDepth 100000
/-- what Fix hands back -/
def FixPost (w : World) (ops : List OpD) (at_ : Int) (S : List SymD) (rels : List RelD) (e : Ending) (w' : World) : Prop :=
  ∃ v, e = .returned (.tuple #[v, .int .i64 (fixE ops at_ S rels)]) ∧ Below w.heap.size w w' ∧
    (fixE ops at_ S rels = 0 → w'.ownsRow w.heap.size 23 5 v ops.length ((fixO ops at_ S rels).flatMap OpD.cells)) ∧ (fixE ops at_ S rels ≠ 0 → v = .slice none 0 0)
theorem hangs_in {ops : List OpD} {r : RelD} (h : hangsB ops r = true) : ∃ q : Nat, r.at_ = (q : Int) ∧ q < ops.length := by
  unfold hangsB at h
  split at h
  · rename_i hc
    obtain ⟨q, hq⟩ := Int.eq_ofNat_of_zero_le hc.1
    exact ⟨q, hq, by omega⟩
  · cases h
theorem own_base {w : World} {base base' : Nat} {e : TypeId} {size n : Nat} {v : Value} {xs : List Value} (h : w.ownsRow base e size v n xs) (hb : base' ≤ base) : w.ownsRow base' e size v n xs := by
  obtain ⟨h1, h2 | ⟨g, cap, cur, rfl, h3, h4⟩⟩ := h
  · exact ⟨h1, .inl h2⟩
  · exact ⟨h1, .inr ⟨g, cap, cur, rfl, Nat.le_trans hb h3, h4⟩⟩
/-- a struct of three cells in a block -/
structure Box3 (w : World) (b : Nat) (x y z : Value) : Prop where
  c0 : w.cell? ⟨b, 0, none⟩ = some x
  c1 : w.cell? ⟨b, 1, none⟩ = some y
  c2 : w.cell? ⟨b, 2, none⟩ = some z
  lt : b < w.heap.size
theorem Box3.new (w : World) (x y z : Value) (t : TypeId) : Box3 (w.alloc (.cells #[x, y, z] t)) w.heap.size x y z := by
  have h := fun i => cell_of_row _ _ i _ _ _ (heap_alloc_new w (.cells #[x, y, z] t))
  exact ⟨h 0, h 1, h 2, by simp⟩
theorem Box3.below {w w' : World} {b B : Nat} {x y z : Value} (h : Box3 w b x y z) (hb : Below B w w') (hB : b < B) : Box3 w' b x y z :=
  ⟨(hb.cell (p := ⟨b, 0, none⟩) hB).trans h.c0, (hb.cell (p := ⟨b, 1, none⟩) hB).trans h.c1, (hb.cell (p := ⟨b, 2, none⟩) hB).trans h.c2, Nat.lt_of_lt_of_le h.lt hb.size⟩
set_option maxHeartbeats 4000000 in
theorem fix_any {w : World} {B : Nat} {nm : ByteArray} {A RA SA : Option Addr} {ca rc sc : Nat} {ops : List OpD} {rels : List RelD} {S : List SymD} (at_ : Int) (hO : (⟨A, ca, ops⟩ : Sl OpD).In w B 5 OpD.cells) (hR : (⟨RA, rc, rels⟩ : Sl RelD).In w B 3 RelD.cells) (hS : (⟨SA, sc, S⟩ : Sl SymD).In w B 3 SymD.cells)
    (hB : B ≤ w.heap.size) (hol : ops.length ≤ 3518437208784) (hrl : rels.length ≤ 140737488351232) (hsl : S.length ≤ 140737488351232) (hrok : ∀ r ∈ rels, r.ok) (hsok : ∀ s ∈ S, s.ok) :
    Calls Tryd.prog 54 #[.agg #[.string nm, .slice A ops.length ca, .slice RA rels.length rc], .int .u64 at_, .slice SA S.length sc] w (FixPost w ops at_ S rels) := by
  obtain ⟨W1, hW1⟩ : ∃ W1, w.alloc (.cells #[.string nm, .slice A ops.length ca, .slice RA rels.length rc] 91) = W1 := ⟨_, rfl⟩
  have x1 : Box3 W1 w.heap.size (.string nm) (.slice A ops.length ca) (.slice RA rels.length rc) := hW1 ▸ Box3.new w _ _ _ _
  have b1 : Below w.heap.size w W1 := by subst hW1; exact (Below.refl _ w).alloc (Nat.le_refl _) _
  have s1 : W1.heap.size = w.heap.size + 1 := by subst hW1; simp
  have HS := Lib.hid hS
  have HO := Lib.hid hO
  have HR := Lib.hid hR
  have HRK := Lib.hid hrok
  have HSK := Lib.hid hsok
  have HX1 := Lib.hid x1
  have HB1 := Lib.hid b1
  clear hS hO hR hrok hsok x1 b1
  go_enter Tryd.func54, Tryd.ntmps54
  go_wp2_with fail
  refine (table_any (HS.out.below (HB1.out.mono hB)) (by omega) HSK.out hsl).mono ?_
  rintro e w2 ⟨rfl, hT, hb2⟩
  have HT := Lib.hid hT
  have HX2 := Lib.hid (HX1.out.below hb2 (by omega))
  have HB2 := Lib.hid (HB1.out.trans (hb2.mono (by omega)))
  have s2 := hb2.size
  clear hT hb2
  obtain ⟨p0, p1, p2⟩ := And.intro HX2.out.c0 (And.intro HX2.out.c1 HX2.out.c2)
  go_wp2_with fail
  refine (cloneO_any (HO.out.below (HB2.out.mono hB)) hol).mono ?_
  rintro e w3 ⟨v, rfl, hown, hb3⟩
  obtain ⟨VA, vc, rfl, hVA⟩ := own_form hown
  have HVA := Lib.hid hVA
  have HOW := Lib.hid (show w3.ownsRow w2.heap.size 23 5 (.slice VA ops.length vc) ops.length ((fixO ops at_ S (rels.take 0)).flatMap OpD.cells) from hown)
  have HX3 := Lib.hid (HX2.out.below hb3 (by omega))
  have HB3 := Lib.hid hb3
  clear hown hVA p0 p1 p2 hb3
  obtain ⟨p0, p1, p2⟩ := And.intro HX3.out.c0 (And.intro HX3.out.c1 HX3.out.c2)
  go_wp2
  go_loopw [24] (fun i wr => ∃ k : Nat, k ≤ rels.length ∧ i = .int .i64 k ∧ Hid (∀ j (hj : j < rels.length), j < k → relE ops at_ S rels[j] = 0) ∧ Hid (wr.ownsRow w2.heap.size 23 5 (.slice VA ops.length vc) ops.length ((fixO ops at_ S (rels.take k)).flatMap OpD.cells)) ∧ Hid (Below w2.heap.size w2 wr)) (fun i _ => rels.length - (intOf i).toNat)
  case atStart => exact ⟨0, Nat.zero_le _, rfl, fun j _ hj => absurd hj (Nat.not_lt_zero _), HOW, HB3⟩
  case round =>
    clear p0 p1 p2
    obtain ⟨k, hk, rfl, HNO, HOWN, HBR⟩ := hrel
    have HXR := Lib.hid (HX2.out.below HBR.out (by omega))
    obtain ⟨p0, p1, p2⟩ := And.intro HXR.out.c0 (And.intro HXR.out.c1 HXR.out.c2)
    have HBW := Lib.hid (HB2.out.trans (HBR.out.mono HB2.out.size))
    have srw := HBR.out.size
    have z0 : w.heap.size < wr.heap.size := HXR.out.lt
    by_cases hlt : k < rels.length
    · obtain ⟨b, off, rfl, hb, hc⟩ := (HR.out.below (HBW.out.mono hB)).at_ hlt
      have c0 : wr.cell? ⟨b, off + k * 3, none⟩ = some (.int .i64 (rels[k]).at_) := hc 0 _ rfl
      have c1 : wr.cell? ⟨b, off + k * 3 + 1, none⟩ = some (.int .i64 (rels[k]).kind) := hc 1 _ rfl
      have c2 : wr.cell? ⟨b, off + k * 3 + 2, none⟩ = some (.string (rels[k]).name) := hc 2 _ rfl
      have hnm := (HRK.out _ (List.getElem_mem hlt)).2.2
      have i1 : (0 : Int) ≤ (k : Int) := by omega
      have i2 : (k : Int) < (rels.length : Int) := by omega
      clear hc
      have ka := Lib.hid (HBW.out.alloc HBW.out.size (.cells #[.int .i64 (rels[k]).at_, .int .i64 (rels[k]).kind, .string (rels[k]).name] 134))
      have kb := Lib.hid (HBR.out.alloc HBR.out.size (.cells #[.int .i64 (rels[k]).at_, .int .i64 (rels[k]).kind, .string (rels[k]).name] 134))
      have xa := Lib.hid (Box3.new wr (.int .i64 (rels[k]).at_) (.int .i64 (rels[k]).kind) (.string (rels[k]).name) 134)
      have ko := Lib.hid (HOWN.out.alloc (.cells #[.int .i64 (rels[k]).at_, .int .i64 (rels[k]).kind, .string (rels[k]).name] 134))
      go_wp2_with fail
      refine (hangs_any (r := rels[k]) (HO.out.below (ka.out.mono hB)) (by simp; omega) (by omega)).mono ?_
      rintro e w4 ⟨rfl, hb4⟩
      have s4 : wr.heap.size < w4.heap.size := by have := hb4.size; simp at this; omega
      have HX4 := Lib.hid (xa.out.below hb4 (by simp))
      have HB4 := Lib.hid (kb.out.trans (hb4.mono kb.out.size))
      have HBW4 := Lib.hid (HB2.out.trans (HB4.out.mono HB2.out.size))
      have HO4 := Lib.hid (own_below ko.out hb4)
      have HT4 := Lib.hid (HT.out.below HB4.out)
      clear hb4 c0 c1 c2 p0 p1 p2
      obtain ⟨c0, c1, c2⟩ := And.intro HX4.out.c0 (And.intro HX4.out.c1 HX4.out.c2)
      cases hh : hangsB ops rels[k] with
      | false =>
        have hE : fixE ops at_ S rels = 1 := by
          have h1 : relE ops at_ S rels[k] = 1 := by unfold relE; rw [if_neg (by rw [hh]; decide)]
          rw [fixE_bad ops at_ S hlt (fun j hj hjk => HNO.out j hj hjk) (by rw [h1]; decide), h1]
        have HE := Lib.hid hE
        clear hE hh
        go_wp2
        go_ret2
        exact ⟨.slice none 0 0, by rw [HE.out]; rfl, HBW4.out, fun h => absurd (HE.out.symm.trans h) (by decide), fun _ => rfl⟩
      | true =>
        have hl := tab_look hnm ((rels[k]).kind == 1) HT4.out
        rw [show W1.heap.size = w.heap.size + 1 from s1] at hl
        cases hf : (firstS S (rels[k]).name ((rels[k]).kind == 1)).isSome with
        | false =>
          rw [hf] at hl
          have hE : fixE ops at_ S rels = 8 := by
            have h1 : relE ops at_ S rels[k] = 8 := by unfold relE; rw [if_pos hh, if_neg (by rw [hf]; decide)]
            rw [fixE_bad ops at_ S hlt (fun j hj hjk => HNO.out j hj hjk) (by rw [h1]; decide), h1]
          have HE := Lib.hid hE
          clear hE hh hf
          go_wp2
          go_ret2
          exact ⟨.slice none 0 0, by rw [HE.out]; rfl, HBW4.out, fun h => absurd (HE.out.symm.trans h) (by decide), fun _ => rfl⟩
        | true =>
          rw [hf] at hl
          have HH := Lib.hid hh
          have HF := Lib.hid hf
          clear hh hf
          go_wp2_with fail
          refine (set_any _ _ _ _).mono ?_
          rintro e w5 ⟨rfl, rfl⟩
          rw [show setN (rels[k]).kind (atI (firstS S (rels[k]).name ((rels[k]).kind == 1))) (IntKind.u64.wrap (at_ + IntKind.u64.wrap (4 * IntKind.u64.wrap (rels[k]).at_))) = newN at_ S rels[k] from rfl]
          obtain ⟨n, hn⟩ : ∃ n, n = newN at_ S rels[k] := ⟨_, rfl⟩
          rw [← hn]
          cases hsb : setB (rels[k]).kind n with
          | false =>
            have hE : fixE ops at_ S rels = 7 := by
              have h1 : relE ops at_ S rels[k] = 7 := by unfold relE; rw [if_pos HH.out, if_pos HF.out, ← hn, hsb]; rfl
              rw [fixE_bad ops at_ S hlt (fun j hj hjk => HNO.out j hj hjk) (by rw [h1]; decide), h1]
            have HE := Lib.hid hE
            clear hE hsb hn hl
            go_wp2
            go_ret2
            exact ⟨.slice none 0 0, by rw [HE.out]; rfl, HBW4.out, fun h => absurd (HE.out.symm.trans h) (by decide), fun _ => rfl⟩
          | true =>
            have h1 : relE ops at_ S rels[k] = 0 := by unfold relE; rw [if_pos HH.out, if_pos HF.out, ← hn, hsb]; rfl
            obtain ⟨q, hq, hql⟩ := hangs_in HH.out
            rw [hq] at c0
            obtain ⟨g, rfl⟩ := HVA.out (by omega)
            have hfl : q < (fixO ops at_ S (rels.take k)).length := by rw [fixO_len]; exact hql
            have hx := flat_at OpD.len (List.getElem?_eq_getElem hfl) (j := 4) rfl
            have cc : w4.cell? ⟨g, q * 5 + 4, none⟩ = some (.int .i64 ((fixO ops at_ S (rels.take k))[q]).imm) := by
              rw [HO4.out.cellAt (q * 5 + 4) (by omega)]; exact hx
            have fz := HO4.out.frozenAt (q * 5 + 4)
            have st := (HO4.out.stored (q * 5 + 4) (.int .i64 n)).1
            rw [flat_imm n hfl] at st
            have hft := fixO_take ops at_ S hlt
            rw [← hn, hq, Int.toNat_natCast] at hft
            rw [← hft] at st
            have HST := Lib.hid st
            have HBS := Lib.hid (HB4.out.setCell (p := ⟨g, q * 5 + 4, none⟩) (HO4.out.lt g rfl).1 (.int .i64 n))
            have HN1 := Lib.hid h1
            obtain ⟨u, hu⟩ : ∃ u, u = ((fixO ops at_ S (rels.take k))[q]).imm := ⟨_, rfl⟩
            rw [← hu] at cc
            have j1 : (0 : Int) ≤ (q : Int) := by omega
            have j2 : (q : Int) < (ops.length : Int) := by omega
            clear hx hft st h1 hsb hn hl hq hu
            go_wp2
            exact ⟨⟨k + 1, hlt, by go_num, fun j hj hjk => by
              by_cases e : j = k
              · subst e; exact HN1.out
              · exact HNO.out j hj (by omega), HST, HBS⟩, by simp [intOf]; omega⟩
    · obtain rfl : k = rels.length := by omega
      have hE : fixE ops at_ S rels = 0 := fixE_good ops at_ S fun j hj => HNO.out j hj hj
      have HE := Lib.hid hE
      have HOF := Lib.hid (by have := HOWN.out; rwa [List.take_length] at this : wr.ownsRow w2.heap.size 23 5 (.slice VA ops.length vc) ops.length ((fixO ops at_ S rels).flatMap OpD.cells))
      clear hE
      go_wp2
      go_ret2
      refine ⟨.slice VA ops.length vc, by rw [HE.out]; rfl, HBW.out, fun _ => ?_, fun h => absurd HE.out h⟩
      exact own_base HOF.out (by omega)
end Go.Proofs.YtajhehmkdlebbaaDoor.Pl
