/- RvDoes: what an instruction reckons, and whether a branch goes, is as the document says. No condition. -/
import Derived.Test.YtajhehmkdlebbaaDoorLib
import Derived.Lib.LaidTab
import Derived.Test.YtajhehmkdlebbaaDoorQRvDoesL
import Derived.Test.YtajhehmkdlebbaaDoorTab
import Derived.Test.YtajhehmkdlebbaaDoorCards
import Derived.Test.YtajhehmkdlebbaaDoorTie
namespace Go.Proofs.YtajhehmkdlebbaaDoor.rvDoes
open Go.ChangeShapes Go.WideShapes Go.ChangeAt Go.RowKit Go.Deep
theorem own : ownKnob Tryd.prog.godebug = none := by kernel_rfl
theorem laidOut : laidOutB Tryd.prog = true := by kernel_rfl
set_option maxRecDepth 100000 in
/-- for every argument, in every world -/
theorem contract (H : Type) (enc : TypeId × Value → H) (W : World) (base : Nat) (args : Array Value) (ds gs : List (DataW H)) (before : List MemPlace)
    (hval : ∀ (j : Nat) t v, Tryd.f3.params[j]? = some t → args[j]? = some v → Value.okWide Tryd.prog W .any base t v)
    (hW : DataW.Whole enc Tryd.prog Tryd.f3.params.toList Rows.rvDoesSpec.vars false W args.toList ds gs before)
    (hz : (DataW.weightsEach Tryd.prog (Tryd.f3.params.toList ++ []) (ds ++ gs)).all (· ≤ reachBytes) = true) (hL : laidMetH Tryd.prog Rows.rvDoesRow.laid W) :
    Calls Tryd.prog 3 args W fun e W' => ∃ v, e = .returned v ∧ Rows.rvDoesSpec.post enc Tryd.prog Tryd.f3 false true false false W args v W' := by
  have hW0 := hW
  obtain ⟨p, q, hA0, hV, rfl, _, _⟩ := hW
  have hA : DataW.TrodAll enc Tryd.prog W 0 (fun _ => true) true Tryd.f3.params.toList args.toList ds p := hA0
  rw [Tryd.params3] at hA hval hz
  obtain ⟨v0, vs0, d0, ds0, p0, q0, hargs, rfl, rfl, h0, r0⟩ := trodAll_cons hA
  obtain ⟨rfl, rfl, rfl⟩ := trodAll_nil r0
  obtain rfl : args = #[v0] := by cases args; simp_all
  obtain ⟨rfl, rfl⟩ := trodVars_none hV
  obtain ⟨x0, rfl, g0⟩ := arg_struct Tryd.underlying26 opens_doesIn (hval 0 26 v0 rfl rfl) h0 (weights_of hz 0 rfl rfl)
  obtain ⟨k, rd, ra, rb, imm, a, b, pc⟩ := x0
  refine (doesL_any k rd ra rb imm a b pc g0.1 g0.2 (tab_of hL)).mono fun e W' ⟨he, hb⟩ => ?_
  subst he
  refine ⟨_, rfl, post_true (tb := 4) laidOut (by kernel_rfl) rfl rfl Tryd.underlying4 (fun ds' h => ?_) hW0 hb⟩
  rw [Tryd.params3] at h
  match ds', h with
  | [e0], _ => rfl
/-- a world for the witness: the settled one, the table holding what its initialiser lays -/
noncomputable def laidWorld (os : Os) : World :=
  { World.holding Tryd.prog os ⟨#[], #[], []⟩ with heap := (World.holding Tryd.prog os ⟨#[], #[], []⟩).heap.modify 0 fun
      | .cells _ t frozen => .cells #[.int .u8 0, .int .u32 0, .int .u32 0, .int .u32 0, .int .u8 82, .int .u32 51, .int .u32 0, .int .u32 0, .int .u8 82, .int .u32 51, .int .u32 0, .int .u32 32, .int .u8 82, .int .u32 51, .int .u32 1, .int .u32 0, .int .u8 82, .int .u32 51, .int .u32 3, .int .u32 0, .int .u8 82, .int .u32 51, .int .u32 4, .int .u32 0, .int .u8 82, .int .u32 51, .int .u32 5, .int .u32 0, .int .u8 82, .int .u32 51, .int .u32 6, .int .u32 0, .int .u8 82, .int .u32 51, .int .u32 7, .int .u32 0, .int .u8 82, .int .u32 51, .int .u32 0, .int .u32 1, .int .u8 82, .int .u32 51, .int .u32 5, .int .u32 1, .int .u8 82, .int .u32 51, .int .u32 7, .int .u32 1, .int .u8 73, .int .u32 19, .int .u32 0, .int .u32 0, .int .u8 73, .int .u32 19, .int .u32 3, .int .u32 0, .int .u8 73, .int .u32 19, .int .u32 4, .int .u32 0, .int .u8 73, .int .u32 19, .int .u32 6, .int .u32 0, .int .u8 73, .int .u32 19, .int .u32 7, .int .u32 0, .int .u8 72, .int .u32 19, .int .u32 1, .int .u32 0, .int .u8 72, .int .u32 19, .int .u32 5, .int .u32 0, .int .u8 73, .int .u32 3, .int .u32 3, .int .u32 0, .int .u8 73, .int .u32 3, .int .u32 4, .int .u32 0, .int .u8 83, .int .u32 35, .int .u32 3, .int .u32 0, .int .u8 83, .int .u32 35, .int .u32 0, .int .u32 0, .int .u8 66, .int .u32 99, .int .u32 0, .int .u32 0, .int .u8 66, .int .u32 99, .int .u32 1, .int .u32 0, .int .u8 66, .int .u32 99, .int .u32 6, .int .u32 0, .int .u8 66, .int .u32 99, .int .u32 7, .int .u32 0, .int .u8 85, .int .u32 55, .int .u32 0, .int .u32 0, .int .u8 85, .int .u32 23, .int .u32 0, .int .u32 0, .int .u8 74, .int .u32 111, .int .u32 0, .int .u32 0, .int .u8 73, .int .u32 103, .int .u32 0, .int .u32 0, .int .u8 69, .int .u32 115, .int .u32 0, .int .u32 0] t frozen
      | o => o }
theorem laid_met (os : Os) : laidMet Tryd.prog Rows.rvDoesRow.laid ((laidWorld os).forCall (fun _ _ => 0) ⟨#[], #[.agg #[.int .i64 0, .int .i64 0, .int .i64 0, .int .i64 0, .int .i64 0, .int .u64 0, .int .u64 0, .int .u64 0]], []⟩).memory :=
  laidMet_of_run' 8 (by kernel_rfl) (by kernel_rfl)
theorem reads (os : Os) {H : Type} (enc : TypeId × Value → H) : ∃ places, DataW.whole enc Tryd.prog ((laidWorld os).forCall (fun _ _ => 0) ⟨#[], #[.agg #[.int .i64 0, .int .i64 0, .int .i64 0, .int .i64 0, .int .i64 0, .int .u64 0, .int .u64 0, .int .u64 0]], []⟩).memory Tryd.f3.params.toList Rows.rvDoesSpec.vars false (#[.agg #[.int .i64 0, .int .i64 0, .int .i64 0, .int .i64 0, .int .i64 0, .int .u64 0, .int .u64 0, .int .u64 0]] : Array Value).toList 8 = some ([.agg [.agg [.lit (.int .i64 0), .lit (.int .i64 0), .lit (.int .i64 0), .lit (.int .i64 0), .lit (.int .i64 0)], .lit (.int .u64 0), .lit (.int .u64 0), .lit (.int .u64 0)]], [], places) :=
  ⟨[], by kernel_rfl⟩
set_option maxRecDepth 100000 in
theorem lifted (os : Os) (started : os.Started) (H : Type) (enc : TypeId × Value → H) (F : Stop.Interp) :
    ReturnsInHanded {} Tryd.checked os 3 .any ((OpenSpec.ofChange Rows.rvDoesSpec).preRow enc Tryd.prog Tryd.f3 Rows.rvDoesRow.domain false Rows.rvDoesRow.laid) (((OpenSpec.ofChange Rows.rvDoesSpec).at F).post enc Tryd.prog Tryd.f3 false true false false) := by
  obtain ⟨places, hx⟩ := reads os enc
  refine returnsInHanded_of_row (C := Tryd.checked) (s := OpenSpec.ofChange Rows.rvDoesSpec) own started (by kernel_rfl) Tryd.func3
    (witness_row_at (enc := enc) (C := Tryd.checked) false (laidWorld os) #[.agg #[.int .i64 0, .int .i64 0, .int .i64 0, .int .i64 0, .int .i64 0, .int .u64 0, .int .u64 0, .int .u64 0]] rfl (by kernel_rfl) (by kernel_rfl) (by kernel_rfl)
      (OpenSpec.preRow_of_cond 8 hx (by kernel_rfl) (fun k hk => by cases hk) (by kernel_rfl) (laid_met os))) ?_
  intro W base args ds gs before hval hW _ _ hz hL _ _
  exact contract H enc W base args ds gs before hval hW hz hL
theorem said : Rows.RvDoesSaid :=
  OpenClaim.holds_of_cond 3 Tryd.f3 rfl rfl rfl rfl rfl rfl rfl ⟨rfl, rfl, rfl, rfl, rfl⟩ rfl rfl rfl rfl rfl (by kernel_rfl) Tryd.func3 (by kernel_rfl)
    (of_decide_eq_true (by kernel_rfl)) (by unfold Func.isWrapper; first | (rw [if_pos (by decide +kernel)]; kernel_rfl) | (rw [if_neg (by decide +kernel)]; exact ⟨rfl, rfl⟩))
    (fun os started H enc _ F => by rw [OpenClaim.pre_eq_preRow]; exact lifted os started H enc F)
theorem plain (f : FuncId) (fn : Func) (hf : Tryd.pinned.checked.prog.funcNamed "marline/marlinelaw03.RvDoes" = some f) (hfn : Tryd.pinned.checked.prog.funcs[f]? = some fn) :
    false = Tryd.pinned.checked.prog.looks [] ∧ ∀ (j : Nat) t, fn.params[j]? = some t → Tryd.pinned.checked.prog.wantsStandIn t = false := by
  obtain rfl : f = 3 := Option.some.inj ((show Tryd.prog.funcNamed "marline/marlinelaw03.RvDoes" = some 3 by kernel_rfl).symm.trans hf) |>.symm
  obtain rfl : fn = Tryd.f3 := (Option.some.inj (Tryd.func3.symm.trans hfn)).symm
  refine ⟨by kernel_rfl, fun j t ht => ?_⟩
  rw [Tryd.params3] at ht
  have hall : (Tryd.f3.params.toList.all fun t => !Tryd.prog.wantsStandIn t) = true := by kernel_rfl
  rw [Tryd.params3] at hall
  have := List.all_eq_true.1 hall t (Array.mem_toList_iff.2 (Array.mem_of_getElem? ht))
  have hw : Tryd.prog.wantsStandIn t = false := by simpa using this
  exact hw
theorem card : Rows.RvDoesCardSaid :=
  Claim7.holds_tied_plain_at .later [] _ _ _ _ said (fun _ h => by cases h) (by kernel_rfl) (fun _ h => by cases h) rvDoes_row_tie rfl ⟨rfl, rfl⟩ (by kernel_rfl) rfl plain (by kernel_rfl)
#print axioms card
end Go.Proofs.YtajhehmkdlebbaaDoor.rvDoes
