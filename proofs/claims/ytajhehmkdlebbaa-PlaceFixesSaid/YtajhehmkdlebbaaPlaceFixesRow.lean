/- PlaceFixes: what doesn't hang on a place stays as it is; all that does has its kind and registers still. No condition. -/
import Derived.Test.YtajhehmkdlebbaaLib
import Derived.Lib.LaidTab
import Derived.Test.YtajhehmkdlebbaaPlFixes
namespace Go.Proofs.Ytajhehmkdlebbaa.placeFixes
open Go.ChangeShapes Go.WideShapes Go.ChangeAt Go.RowKit Go.Deep
theorem own : ownKnob Try.prog.godebug = none := by kernel_rfl
theorem laidOut : laidOutB Try.prog = true := by kernel_rfl
set_option maxRecDepth 100000 in
/-- for every argument, in every world -/
theorem contract (H : Type) (enc : TypeId × Value → H) (W : World) (base : Nat) (args : Array Value) (ds gs : List (DataW H)) (before : List MemPlace)
    (hval : ∀ (j : Nat) t v, Try.f3.params[j]? = some t → args[j]? = some v → Value.okWide Try.prog W .any base t v)
    (hW : DataW.Whole enc Try.prog Try.f3.params.toList Rows.placeFixesSpec.vars false W args.toList ds gs before)
    (hz : (DataW.weightsEach Try.prog (Try.f3.params.toList ++ []) (ds ++ gs)).all (· ≤ reachBytes) = true) :
    Calls Try.prog 3 args W fun e W' => ∃ v, e = .returned v ∧ Rows.placeFixesSpec.post enc Try.prog Try.f3 false true false false W args v W' := by
  have hW0 := hW
  obtain ⟨p, q, hA0, hV, rfl, _, _⟩ := hW
  have hA : DataW.TrodAll enc Try.prog W 0 (fun _ => true) true Try.f3.params.toList args.toList ds p := hA0
  rw [Try.params3] at hA hval hz
  obtain ⟨v0, vs0, d0, ds0, p0, q0, hargs, rfl, rfl, h0, r0⟩ := trodAll_cons hA
  obtain ⟨v1, vs1, d1, ds1, p1, q1, rfl, rfl, rfl, h1, r1⟩ := trodAll_cons r0
  obtain ⟨v2, vs2, d2, ds2, p2, q2, rfl, rfl, rfl, h2, r2⟩ := trodAll_cons r1
  obtain ⟨rfl, rfl, rfl⟩ := trodAll_nil r2
  obtain rfl : args = #[v0, v1, v2] := by cases args; simp_all
  obtain ⟨rfl, rfl⟩ := trodVars_none hV
  obtain ⟨x0, rfl, g0⟩ := arg_struct Try.underlying25 Pl.opens_code (hval 0 25 v0 rfl rfl) h0 (weights_of hz 0 rfl rfl)
  obtain ⟨x1, rfl, g1⟩ := arg_int Try.underlying26 (hval 1 26 v1 rfl rfl) h1
  obtain ⟨⟨A2, c2, x2⟩, rfl, g2⟩ := arg_slice Try.underlying27 Pl.opens_syms (hval 2 27 v2 rfl rfl) h2 (weights_of hz 2 rfl rfl)
  simp only [Sl.v]
  obtain ⟨nm, ⟨OA, oc, ops⟩, ⟨RA, rc, rels⟩⟩ := x0
  refine (Pl.fixes_any (w := W) x1 g0 ⟨g2.1, g2.2.1, g2.2.2.2⟩).mono fun e W' ⟨he, hb⟩ => ?_
  subst he
  refine ⟨_, rfl, post_true (tb := 4) laidOut (by kernel_rfl) rfl rfl Try.underlying4 (fun ds' h => ?_) hW0 hb⟩
  rw [Try.params3] at h
  match ds', h with
  | [e0, e1, e2], _ => rfl
noncomputable def startWorld (os : Os) : World := World.holding Try.prog os ⟨#[], #[], []⟩
theorem laid_met (os : Os) : laidMet Try.prog Rows.placeFixesRow.laid ((startWorld os).forCall (fun _ _ => 0) ⟨#[], #[.agg #[.string ByteArray.empty, .slice none 0 0, .slice none 0 0], .int .u64 0, .slice none 0 0], []⟩).memory :=
  laidMet_of_run' 8 (by kernel_rfl) (by kernel_rfl)
theorem reads (os : Os) {H : Type} (enc : TypeId × Value → H) : ∃ places, DataW.whole enc Try.prog ((startWorld os).forCall (fun _ _ => 0) ⟨#[], #[.agg #[.string ByteArray.empty, .slice none 0 0, .slice none 0 0], .int .u64 0, .slice none 0 0], []⟩).memory Try.f3.params.toList Rows.placeFixesSpec.vars false (#[.agg #[.string ByteArray.empty, .slice none 0 0, .slice none 0 0], .int .u64 0, .slice none 0 0] : Array Value).toList 8 = some ([.agg [.lit (.string []), .nil, .nil], .lit (.int .u64 0), .nil], [], places) :=
  ⟨[], by kernel_rfl⟩
set_option maxRecDepth 100000 in
theorem lifted (os : Os) (started : os.Started) (H : Type) (enc : TypeId × Value → H) (F : Stop.Interp) :
    ReturnsInHanded {} Try.checked os 3 .any ((OpenSpec.ofChange Rows.placeFixesSpec).preRow enc Try.prog Try.f3 Rows.placeFixesRow.domain false Rows.placeFixesRow.laid) (((OpenSpec.ofChange Rows.placeFixesSpec).at F).post enc Try.prog Try.f3 false true false false) := by
  obtain ⟨places, hx⟩ := reads os enc
  refine returnsInHanded_of_row (C := Try.checked) (s := OpenSpec.ofChange Rows.placeFixesSpec) own started (by kernel_rfl) Try.func3
    (witness_row_at (enc := enc) (C := Try.checked) false (startWorld os) #[.agg #[.string ByteArray.empty, .slice none 0 0, .slice none 0 0], .int .u64 0, .slice none 0 0] rfl (by kernel_rfl) (by kernel_rfl) (by kernel_rfl)
      (OpenSpec.preRow_of_cond 8 hx (by kernel_rfl) (fun k hk => by cases hk) (by kernel_rfl) (laid_met os))) ?_
  intro W base args ds gs before hval hW _ _ hz _ _ _
  exact contract H enc W base args ds gs before hval hW hz
theorem said : Rows.PlaceFixesSaid :=
  OpenClaim.holds_of_cond 3 Try.f3 rfl rfl rfl rfl rfl rfl rfl ⟨rfl, rfl, rfl, rfl, rfl⟩ rfl rfl rfl rfl rfl (by kernel_rfl) Try.func3 (by kernel_rfl)
    (of_decide_eq_true (by kernel_rfl)) (by unfold Func.isWrapper; first | (rw [if_pos (by decide +kernel)]; kernel_rfl) | (rw [if_neg (by decide +kernel)]; exact ⟨rfl, rfl⟩))
    (fun os started H enc _ F => by rw [OpenClaim.pre_eq_preRow]; exact lifted os started H enc F)
#print axioms said
end Go.Proofs.Ytajhehmkdlebbaa.placeFixes
