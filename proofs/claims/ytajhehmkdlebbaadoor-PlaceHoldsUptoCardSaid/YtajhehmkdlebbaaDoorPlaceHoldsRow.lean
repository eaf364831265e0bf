/- PlaceHolds: in an image each global has its number at its place; what calls main goes there. Where what it reads is of bulk at most 1048576. -/
import Derived.Test.YtajhehmkdlebbaaDoorLib
import Derived.Lib.LaidTab
import Derived.Test.YtajhehmkdlebbaaDoorQPlHolds
import Derived.Test.YtajhehmkdlebbaaDoorTab
import Derived.Test.YtajhehmkdlebbaaDoorCards
import Derived.Test.YtajhehmkdlebbaaDoorTie
namespace Go.Proofs.YtajhehmkdlebbaaDoor.placeHolds
open Go.ChangeShapes Go.WideShapes Go.ChangeAt Go.RowKit Go.Deep
theorem own : ownKnob Tryd.prog.godebug = none := by kernel_rfl
theorem laidOut : laidOutB Tryd.prog = true := by kernel_rfl
set_option maxRecDepth 100000 in
/-- for every argument, in every world -/
theorem contract (H : Type) (enc : TypeId × Value → H) (W : World) (base : Nat) (args : Array Value) (ds gs : List (DataW H)) (before : List MemPlace)
    (hval : ∀ (j : Nat) t v, Tryd.f14.params[j]? = some t → args[j]? = some v → Value.okWide Tryd.prog W .any base t v)
    (hW : DataW.Whole enc Tryd.prog Tryd.f14.params.toList Rows.placeHoldsSpec.vars false W args.toList ds gs before)
    (hz : (DataW.weightsEach Tryd.prog (Tryd.f14.params.toList ++ []) (ds ++ gs)).all (· ≤ reachBytes) = true) (hk : Rows.uptoSmall H (ds ++ gs) = true) (hL : laidMetH Tryd.prog Rows.placeHoldsUptoRow.laid W) :
    Calls Tryd.prog 14 args W fun e W' => ∃ v, e = .returned v ∧ Rows.placeHoldsSpec.post enc Tryd.prog Tryd.f14 false true false false W args v W' := by
  have hW0 := hW
  obtain ⟨p, q, hA0, hV, rfl, _, _⟩ := hW
  have hA : DataW.TrodAll enc Tryd.prog W 0 (fun _ => true) true Tryd.f14.params.toList args.toList ds p := hA0
  rw [Tryd.params14] at hA hval hz
  obtain ⟨v0, vs0, d0, ds0, p0, q0, hargs, rfl, rfl, h0, r0⟩ := trodAll_cons hA
  obtain ⟨v1, vs1, d1, ds1, p1, q1, rfl, rfl, rfl, h1, r1⟩ := trodAll_cons r0
  obtain ⟨v2, vs2, d2, ds2, p2, q2, rfl, rfl, rfl, h2, r2⟩ := trodAll_cons r1
  obtain ⟨rfl, rfl, rfl⟩ := trodAll_nil r2
  obtain rfl : args = #[v0, v1, v2] := by cases args; simp_all
  obtain ⟨rfl, rfl⟩ := trodVars_none hV
  obtain ⟨⟨A0, c0, x0⟩, rfl, g0, b0⟩ := Pl.arg_sliceM Tryd.underlying44 Pl.opens_codesM (hval 0 44 v0 rfl rfl) h0 (weights_of hz 0 rfl rfl)
  obtain ⟨⟨A1, c1, x1⟩, rfl, g1⟩ := arg_slice Tryd.underlying45 Pl.opens_globs (hval 1 45 v1 rfl rfl) h1 (weights_of hz 1 rfl rfl)
  obtain ⟨x2, rfl, g2⟩ := arg_int Tryd.underlying3 (hval 2 3 v2 rfl rfl) h2
  simp only [Sl.v]
  have hsm : Pl.sumOps x0 ≤ 1048576 := by
    have h9 : Rows.uptoBulkAll _ ≤ 1048576 := of_decide_eq_true hk
    have h8 : Pl.sumOps x0 ≤ Rows.uptoBulk d0 := b0
    simp only [List.cons_append, List.nil_append, Rows.uptoBulkAll] at h9
    omega
  have hC : Pl.Codes W W.heap.size A0 c0 x0 := ⟨g0.1, g0.2.1, g0.2.2.2⟩
  have hD : Pl.Globs W W.heap.size A1 c1 x1 := ⟨g1.1, g1.2.1, g1.2.2.2⟩
  refine (Pl.placeholds_any (w := W) (tab_of hL) hC hD hsm (Pl.allS_ok hC hD) (i64_bd g2)).mono fun e W' ⟨he, hb⟩ => ?_
  subst he
  refine ⟨_, rfl, post_true (tb := 4) laidOut (by kernel_rfl) rfl rfl Tryd.underlying4 (fun ds' h => ?_) hW0 hb⟩
  rw [Tryd.params14] at h
  match ds', h with
  | [e0, e1, e2], _ => rfl
/-- a world for the witness: the settled one, the table holding what its initialiser lays -/
noncomputable def laidWorld (os : Os) : World :=
  { World.holding Tryd.prog os ⟨#[], #[], []⟩ with heap := (World.holding Tryd.prog os ⟨#[], #[], []⟩).heap.modify 0 fun
      | .cells _ t frozen => .cells #[.int .u8 0, .int .u32 0, .int .u32 0, .int .u32 0, .int .u8 82, .int .u32 51, .int .u32 0, .int .u32 0, .int .u8 82, .int .u32 51, .int .u32 0, .int .u32 32, .int .u8 82, .int .u32 51, .int .u32 1, .int .u32 0, .int .u8 82, .int .u32 51, .int .u32 3, .int .u32 0, .int .u8 82, .int .u32 51, .int .u32 4, .int .u32 0, .int .u8 82, .int .u32 51, .int .u32 5, .int .u32 0, .int .u8 82, .int .u32 51, .int .u32 6, .int .u32 0, .int .u8 82, .int .u32 51, .int .u32 7, .int .u32 0, .int .u8 82, .int .u32 51, .int .u32 0, .int .u32 1, .int .u8 82, .int .u32 51, .int .u32 5, .int .u32 1, .int .u8 82, .int .u32 51, .int .u32 7, .int .u32 1, .int .u8 73, .int .u32 19, .int .u32 0, .int .u32 0, .int .u8 73, .int .u32 19, .int .u32 3, .int .u32 0, .int .u8 73, .int .u32 19, .int .u32 4, .int .u32 0, .int .u8 73, .int .u32 19, .int .u32 6, .int .u32 0, .int .u8 73, .int .u32 19, .int .u32 7, .int .u32 0, .int .u8 72, .int .u32 19, .int .u32 1, .int .u32 0, .int .u8 72, .int .u32 19, .int .u32 5, .int .u32 0, .int .u8 73, .int .u32 3, .int .u32 3, .int .u32 0, .int .u8 73, .int .u32 3, .int .u32 4, .int .u32 0, .int .u8 83, .int .u32 35, .int .u32 3, .int .u32 0, .int .u8 83, .int .u32 35, .int .u32 0, .int .u32 0, .int .u8 66, .int .u32 99, .int .u32 0, .int .u32 0, .int .u8 66, .int .u32 99, .int .u32 1, .int .u32 0, .int .u8 66, .int .u32 99, .int .u32 6, .int .u32 0, .int .u8 66, .int .u32 99, .int .u32 7, .int .u32 0, .int .u8 85, .int .u32 55, .int .u32 0, .int .u32 0, .int .u8 85, .int .u32 23, .int .u32 0, .int .u32 0, .int .u8 74, .int .u32 111, .int .u32 0, .int .u32 0, .int .u8 73, .int .u32 103, .int .u32 0, .int .u32 0, .int .u8 69, .int .u32 115, .int .u32 0, .int .u32 0] t frozen
      | o => o }
theorem laid_met (os : Os) : laidMet Tryd.prog Rows.placeHoldsUptoRow.laid ((laidWorld os).forCall (fun _ _ => 0) ⟨#[], #[.slice none 0 0, .slice none 0 0, .int .i64 0], []⟩).memory :=
  laidMet_of_run' 8 (by kernel_rfl) (by kernel_rfl)
theorem reads (os : Os) {H : Type} (enc : TypeId × Value → H) : ∃ places, DataW.whole enc Tryd.prog ((laidWorld os).forCall (fun _ _ => 0) ⟨#[], #[.slice none 0 0, .slice none 0 0, .int .i64 0], []⟩).memory Tryd.f14.params.toList Rows.placeHoldsSpec.vars false (#[.slice none 0 0, .slice none 0 0, .int .i64 0] : Array Value).toList 8 = some ([.nil, .nil, .lit (.int .i64 0)], [], places) :=
  ⟨[], by kernel_rfl⟩
set_option maxRecDepth 100000 in
theorem lifted (os : Os) (started : os.Started) (H : Type) (enc : TypeId × Value → H) (F : Stop.Interp) :
    ReturnsInHanded {} Tryd.checked os 14 .any ((Rows.OpenSpec.upto Rows.placeHoldsSpec).preRow enc Tryd.prog Tryd.f14 Rows.placeHoldsUptoRow.domain false Rows.placeHoldsUptoRow.laid) (((Rows.OpenSpec.upto Rows.placeHoldsSpec).at F).post enc Tryd.prog Tryd.f14 false true false false) := by
  obtain ⟨places, hx⟩ := reads os enc
  refine returnsInHanded_of_row (C := Tryd.checked) (s := Rows.OpenSpec.upto Rows.placeHoldsSpec) own started (by kernel_rfl) Tryd.func14
    (witness_row_at (enc := enc) (C := Tryd.checked) false (laidWorld os) #[.slice none 0 0, .slice none 0 0, .int .i64 0] rfl (by kernel_rfl) (by kernel_rfl) (by kernel_rfl)
      (OpenSpec.preRow_of_cond 8 hx (by kernel_rfl) (fun k hk => by cases hk; kernel_rfl) (by kernel_rfl) (laid_met os))) ?_
  intro W base args ds gs before hval hW _ hcond hz hL _ _
  exact contract H enc W base args ds gs before hval hW hz (hcond _ rfl) hL
theorem said : Rows.PlaceHoldsUptoSaid :=
  OpenClaim.holds_of_cond 14 Tryd.f14 rfl rfl rfl rfl rfl rfl rfl ⟨rfl, rfl, rfl, rfl, rfl⟩ rfl rfl rfl rfl rfl (by kernel_rfl) Tryd.func14 (by kernel_rfl)
    (of_decide_eq_true (by kernel_rfl)) (by unfold Func.isWrapper; first | (rw [if_pos (by decide +kernel)]; kernel_rfl) | (rw [if_neg (by decide +kernel)]; exact ⟨rfl, rfl⟩))
    (fun os started H enc _ F => by rw [OpenClaim.pre_eq_preRow]; exact lifted os started H enc F)
theorem plain (f : FuncId) (fn : Func) (hf : Tryd.pinned.checked.prog.funcNamed "marline/marlinelaw18.PlaceHolds" = some f) (hfn : Tryd.pinned.checked.prog.funcs[f]? = some fn) :
    false = Tryd.pinned.checked.prog.looks [] ∧ ∀ (j : Nat) t, fn.params[j]? = some t → Tryd.pinned.checked.prog.wantsStandIn t = false := by
  obtain rfl : f = 14 := Option.some.inj ((show Tryd.prog.funcNamed "marline/marlinelaw18.PlaceHolds" = some 14 by kernel_rfl).symm.trans hf) |>.symm
  obtain rfl : fn = Tryd.f14 := (Option.some.inj (Tryd.func14.symm.trans hfn)).symm
  refine ⟨by kernel_rfl, fun j t ht => ?_⟩
  rw [Tryd.params14] at ht
  have hall : (Tryd.f14.params.toList.all fun t => !Tryd.prog.wantsStandIn t) = true := by kernel_rfl
  rw [Tryd.params14] at hall
  have := List.all_eq_true.1 hall t (Array.mem_toList_iff.2 (Array.mem_of_getElem? ht))
  have hw : Tryd.prog.wantsStandIn t = false := by simpa using this
  exact hw
theorem card : Rows.PlaceHoldsUptoCardSaid :=
  Claim7.holds_tied_plain_at .later [] _ _ _ _ said (fun _ h => by cases h) (by kernel_rfl) (fun _ h => by cases h) placeHoldsUpto_row_tie rfl ⟨rfl, rfl⟩ (by kernel_rfl) rfl plain (by kernel_rfl)
#print axioms card
end Go.Proofs.YtajhehmkdlebbaaDoor.placeHolds
