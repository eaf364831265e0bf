/- A region that draws its order and calls nothing: inside a fence, in whatever round, as outside it. -/
import Derived.OrdersHeld
import Derived.CallsIn
import Derived.OrdersIn
import Derived.OwnWalkIn
import Derived.WalkKit
import Derived.StillTailTactics
import Derived.BigQuiet
import Derived.TacticsIn
namespace Go.Proofs.YtajhehmkdlebbaaDoor
open Go
def calmOp : Op → Bool
  | .move _ | .assign _ | .pick _ _ _ | .alloc _ | .box _ _ | .build _ _ | .buildSlice _ _ _ | .load _ _ | .store _ _ _ | .binOp _ _ _ _ _ | .unOp _ _ _ | .convert _ _ _ | .slice _ _ _ _ _ | .fieldAddr _ _ _ | .field _ _ _ | .indexAddr _ _ _ | .index _ _ _ | .lookup _ _ _ _ => true
  | _ => false
def Quick (r : Result Next) : Prop := (∃ v w', r = .ok (.value v) w') ∨ (∃ w', r = .ok .skip w') ∨ ∃ x w', r = .halt x w'
theorem quick_v {P : Program} {w : World} (s : Sem Value) : Quick ((do pure (.value (← s)) : Sem Next).run P w) := by
  simp only [Sem.run_bind]
  cases h : s.run P w with
  | ok v w' => exact .inl ⟨v, w', by simp [Result.andThen, Sem.run_pure]⟩
  | halt x w' => exact .inr (.inr ⟨x, w', by simp [Result.andThen]⟩)
theorem quick_u {P : Program} {w : World} (s : Sem Unit) : Quick ((do s; pure .skip : Sem Next).run P w) := by
  simp only [Sem.run_bind]
  cases h : s.run P w with
  | ok v w' => exact .inr (.inl ⟨w', by simp [Result.andThen, Sem.run_pure]⟩)
  | halt x w' => exact .inr (.inr ⟨x, w', by simp [Result.andThen]⟩)
theorem calm_quick {P : Program} {ρ : Operand → Value} {o : Oper} {w : World} (h : calmOp o.op = true) : Quick ((execOp ρ o).run P w) := by
  unfold execOp
  cases ho : o.op <;> rw [ho] at h <;> first | (simp [calmOp] at h; done) | exact quick_v _ | exact quick_u _ | skip
  all_goals first | exact .inl ⟨_, _, Sem.run_pure ..⟩ | skip
  rename_i c a b
  have := quick_v (P := P) (w := w) (do pure (if ← asBool (ρ c) then ρ a else ρ b))
  simpa using this
section
variable {F : Fence} {n : Nat} {P : Program} {ops : Array Oper} {Q : Exit → Act → World → Prop} {md : Region.Mode}
/-- as Q asks, and memory has not run out -/
def InTop (Q : Exit → Act → World → Prop) (e : Exit) (a : Act) (w : World) : Prop := e ≠ .outgrown ∧ Q e a w
theorem calm_about {o : Oper} {w : World} {ρ : Operand → Value} (h : calmOp o.op = true) : o.about P w ρ = none := by
  unfold Oper.about
  cases ho : o.op <;> first | rfl | (rw [ho] at h; simp [calmOp] at h; done)
theorem calm_sem {o : Oper} {ρ : Operand → Value} (h : calmOp o.op = true) : o.semAt F.round ρ = execOp ρ o :=
  Oper.semAt_plain F ρ o (fun c hc => by rw [hc] at h; simp [calmOp] at h)
theorem calm_wpIn {o : Oper} {a : Act} {w : World} {K K' : Act → World → Prop} (h : calmOp o.op = true) (hK : ∀ a w, K a w → K' a w) (hw : o.wp P a w K (InTop Q)) : o.wpIn F n P a w K' Q := by
  refine ⟨fun f hf => by rw [calm_about h] at hf; exact absurd hf (by simp), ?_⟩
  rw [calm_sem h]
  unfold Oper.wp at hw
  rcases calm_quick (P := P) (ρ := a.eval) (w := w) h with ⟨v, w', hr⟩ | ⟨w', hr⟩ | ⟨x, w', hr⟩
  · rw [hr] at hw ⊢; exact hK _ _ hw
  · rw [hr] at hw ⊢; exact hK _ _ hw
  · rw [hr] at hw ⊢
    cases x <;> simp only [Oper.upon, Oper.uponIn] at hw ⊢ <;> first | exact hw.2 | exact hw
theorem calm_wpOpIn {i : Nat} {a : Act} {w : World} {K K' : Act → World → Prop} (hc : ∀ (j : Nat) (o : Oper), ops[j]? = some o → calmOp o.op = true) (hK : ∀ a w, K a w → K' a w) (hw : wpOp P ops (InTop Q) i K a w) : wpOpIn F n P ops Q i K' a w := by
  unfold wpOp at hw
  unfold wpOpIn
  split
  · rename_i ho; simp only [ho] at hw; exact hK _ _ hw
  · rename_i o ho
    simp only [ho] at hw
    split
    · rename_i hwn
      simp only [hwn, if_true] at hw
      rcases hw with hw | ⟨_, _, _, h1, _⟩
      · exact calm_wpIn (hc i o ho) hK hw
      · exact absurd rfl h1
    · rename_i hwn
      simp only [hwn] at hw
      exact ⟨fun f hf => by rw [calm_about (hc i o ho)] at hf; exact absurd hf (by simp), hK _ _ hw⟩
theorem calm_wpAnyIn (hc : ∀ (j : Nat) (o : Oper), ops[j]? = some o → calmOp o.op = true) : ∀ (fuel : Nat) (listed : Array Bool) (a : Act) (w : World), wpAny P md ops (InTop Q) fuel listed a w → wpAnyIn F n P md ops Q fuel listed a w
  | 0, _, _, _, h => ⟨h.1, h.2.2⟩
  | fuel + 1, _, _, _, h => ⟨fun h0 => (h.1 h0).2, fun i hi => calm_wpOpIn hc (fun a' w' => calm_wpAnyIn hc fuel _ a' w') (h.2 i hi)⟩
def calmAll (ops : Array Oper) : Bool := ops.toList.all fun o => calmOp o.op
theorem calmAll_spec (h : calmAll ops = true) : ∀ (j : Nat) (o : Oper), ops[j]? = some o → calmOp o.op = true := fun j o ho =>
  List.all_eq_true.1 h o (List.mem_of_getElem? (i := j) (by simpa using ho))
/-- a region that draws its order and calls nothing, in whatever round: by the held moves -/
theorem wpIn_region_calm {id : Nat} {S : World → Prop} {a : Act} {w : World} (hm : P.follows .mixedOrders = true) (hc : calmAll ops = true)
    (h : wpAnyH P .any ops (InTop Q) S ops.size (Array.replicate ops.size false) a { w with drawn := w.drawn + 1 }) : (Code.region id ops true).wpIn F n P Q a w :=
  wpIn_region_any hm (calm_wpAnyIn (calmAll_spec hc) _ _ _ _ (wpAny_of_held _ _ _ _ h))
theorem still_of_quiet {C : World → Prop} {w : World} (hw : C w) {Q : Act → Prop} : ∀ {l : List Oper} {a : Act}, (∀ o ∈ l, calmOp o.op = true) → wpQuiet P ops C Q l a → wpStill P ops w Q l a
  | [], _, _, h => h
  | o :: l, a, hc, h => by
    simp only [wpQuiet] at h
    simp only [wpStill]
    split
    · rename_i hwn
      simp only [hwn, if_true] at h
      obtain ⟨v, h1, h2⟩ := h
      have h3 := h1 w hw
      unfold Oper.quietAt at h3
      unfold Oper.still
      rcases calm_quick (P := P) (ρ := a.eval) (w := w) (hc o (by simp)) with ⟨u, w', hr⟩ | ⟨w', hr⟩ | ⟨x, w', hr⟩
      · rw [hr] at h3 ⊢; obtain ⟨e1, e2⟩ := h3; subst e1 e2; exact ⟨rfl, still_of_quiet hw (fun o ho => hc o (by simp [ho])) h2⟩
      · rw [hr] at h3 ⊢; obtain ⟨e1, e2⟩ := h3; subst e1 e2; exact ⟨rfl, still_of_quiet hw (fun o ho => hc o (by simp [ho])) h2⟩
      · rw [hr] at h3; exact h3.elim
    · rename_i hwn
      simp only [hwn] at h
      exact still_of_quiet hw (fun o ho => hc o (by simp [ho])) h
theorem calmAll_take {l : List Oper} (h : calmAll l.toArray = true) (m : Nat) : ∀ o ∈ l.take m, calmOp o.op = true := fun o ho =>
  List.all_eq_true.1 h o (by simpa using List.mem_of_mem_take ho)
theorem wpAnyIn_of_seq : ∀ (l : List Oper) (k : Nat) (listed : Array Bool) (a : Act) (w : World), (∀ j : Nat, l[j]? = ops[k + j]?) →
    Region.seqB md ops l.length k listed = true → wpListIn F n P ops Q l a w → wpAnyIn F n P md ops Q l.length listed a w
  | [], _, _, _, _, _, hB, h => ⟨by simpa [Region.seqB] using hB, h⟩
  | o :: l, k, listed, a, w, hl, hB, h => by
    have h0 : ops[k]? = some o := by simpa using (hl 0).symm
    simp only [List.length_cons, Region.seqB, Bool.and_eq_true, decide_eq_true_eq] at hB
    refine ⟨fun h1 => (by rw [hB.1] at h1; cases h1), fun i hi => ?_⟩
    rw [hB.1] at hi
    have hik : i = k := by simpa using hi
    subst hik
    have hw : wpOpIn F n P ops Q i (wpListIn F n P ops Q l) a w := by unfold wpOpIn; simp only [h0]; exact h
    exact wpOpIn_mono (fun a' w' h' => wpAnyIn_of_seq l (i + 1) _ a' w' (fun j => by have := hl (j + 1); simpa [Nat.add_assoc, Nat.add_comm 1 j] using this) hB.2 h') hw
theorem calm_stOp {i : Nat} {K : Act → Prop} {K' : Act → World → Prop} {a : Act} {w : World} (hc : ∀ o : Oper, ops[i]? = some o → calmOp o.op = true) (hK : ∀ a, K a → K' a w) (h : stOp P ops w i K a) : wpOpIn F n P ops Q i K' a w := by
  unfold stOp at h
  unfold wpOpIn
  split
  · rename_i ho; simp only [ho] at h; exact hK _ h
  · rename_i o ho
    simp only [ho] at h
    split
    · rename_i hwn
      simp only [hwn, if_true] at h
      refine ⟨fun f hf => by rw [calm_about (hc o ho)] at hf; exact absurd hf (by simp), ?_⟩
      rw [calm_sem (hc o ho)]
      unfold Oper.still at h
      rcases calm_quick (P := P) (ρ := a.eval) (w := w) (hc o ho) with ⟨v, w', hr⟩ | ⟨w', hr⟩ | ⟨x, w', hr⟩
      · rw [hr] at h ⊢; obtain ⟨rfl, h⟩ := h; exact hK _ h
      · rw [hr] at h ⊢; obtain ⟨rfl, h⟩ := h; exact hK _ h
      · rw [hr] at h; exact h.elim
    · rename_i hwn
      simp only [hwn] at h
      exact ⟨fun f hf => by rw [calm_about (hc o ho)] at hf; exact absurd hf (by simp), hK _ h⟩
theorem calm_head {m g : Nat} {w : World} {L : Array Bool → Act → Prop} (hc : ∀ (i : Nat) (o : Oper), i < m → ops[i]? = some o → calmOp o.op = true) (hL : ∀ listed a, L listed a → wpAnyIn F n P md ops Q g listed a w) :
    ∀ (f : Nat) (listed : Array Bool) (a : Act), wpAnyL P md ops w m L f listed a → wpAnyIn F n P md ops Q (f + g) listed a w
  | 0, listed, a, h => by rw [Nat.zero_add]; exact hL _ _ h
  | f + 1, listed, a, h => by
    rw [show f + 1 + g = (f + g) + 1 by omega]
    exact ⟨fun h0 => absurd h0 h.1, fun i hi => calm_stOp (hc i · (h.2 i hi).1) (fun a' h' => calm_head hc hL f _ a' h') (h.2 i hi).2⟩
/-- .. its first m operations only read, the others come up one behind the other -/
theorem wpIn_region_tail {id : Nat} {a : Act} {w : World} {l : List Oper} (m : Nat) (hm : P.follows .mixedOrders = true) (hcm : calmAll (l.take m).toArray = true) (hB : Region.lexTailB .any l.toArray m = true)
    (h : wpQuiet P l.toArray (fun w' => ∃ k, w' = w.drewN k) (fun a' => wpListIn F n P l.toArray Q (l.drop m) a' w.drew) (l.take m) a) : (Code.region id l.toArray true).wpIn F n P Q a w := by
  have hcl : ∀ o ∈ l.take m, calmOp o.op = true := fun o ho => List.all_eq_true.1 hcm o (by simpa using ho)
  replace h := still_of_quiet (C := fun w' => ∃ k, w' = w.drewN k) (w := { w with drawn := w.drawn + 1 }) ⟨1, rfl⟩ hcl h
  simp only [Region.lexTailB, Bool.and_eq_true, decide_eq_true_eq] at hB
  obtain ⟨⟨⟨⟨hsel, hn⟩, hs⟩, hc⟩, hlex⟩ := hB
  have hn' : m < l.length := by simpa using hn
  have htl : (l.take m).length = m := by simp; omega
  have hdl : (l.drop m).length = l.toArray.size - m := by simp
  have inv0 : HeadInv .any l.toArray m (Array.replicate l.toArray.size false) :=
    ⟨by simp, fun j oj _ hl => (by rw [getD_replicate_false] at hl; cases hl), fun t _ ht => getD_in (by simpa using ht) (getD_replicate_false _ _)⟩
  have H := wpAnyL_lex (md := .any) (g := l.toArray.size - m) hsel hs hc hn (l.take m) 0 _ a (fun j hj => by
    have hj' : j < m := by rw [htl] at hj; exact hj
    simp [hj']) (by simpa using htl) inv0 (by rw [htl]; exact hlex) h
  refine wpIn_region_any hm ?_
  have := calm_head (F := F) (n := n) (Q := Q) (g := l.toArray.size - m) (fun i o hi ho => hcl o (by
    have ho' : l[i]? = some o := by simpa using ho
    exact List.mem_of_getElem? (i := i) (by rw [List.getElem?_take]; simp [hi, ho']))) (fun listed a' hL => by
    have := wpAnyIn_of_seq (F := F) (n := n) (md := .any) (Q := Q) (l.drop m) m listed a' { w with drawn := w.drawn + 1 } (fun j => by simp [List.getElem?_drop]) (by rw [hdl]; exact hL.1) hL.2
    rwa [hdl] at this) _ _ _ H
  rw [htl, show m + (l.toArray.size - m) = l.toArray.size by omega] at this
  exact this
/-- .. all of them only read -/
theorem wpIn_region_reads {id : Nat} {a : Act} {w : World} {l : List Oper} (hm : P.follows .mixedOrders = true) (hcm : calmAll l.toArray = true) (hB : Region.lexB .any l.toArray = true)
    (h : wpQuiet P l.toArray (fun w' => ∃ k, w' = w.drewN k) (fun a' => Q .normal a' w.drew) l a) : (Code.region id l.toArray true).wpIn F n P Q a w := by
  replace h := still_of_quiet (C := fun w' => ∃ k, w' = w.drewN k) (w := { w with drawn := w.drawn + 1 }) ⟨1, rfl⟩ (by simpa using calmAll_take hcm l.length) h
  simp only [Region.lexB, Bool.and_eq_true] at hB
  refine wpIn_region_any hm (calm_wpAnyIn (calmAll_spec hcm) _ _ _ _ (wpAny_of_still (Q := fun a' => InTop Q .normal a' { w with drawn := w.drawn + 1 }) (fun _ h => h) _ _ _ ?_))
  have h' : wpStill P l.toArray { w with drawn := w.drawn + 1 } (fun a' => InTop Q .normal a' { w with drawn := w.drawn + 1 }) l a := by
    have : (fun a' => InTop Q .normal a' { w with drawn := w.drawn + 1 }) = (fun a' => Q .normal a' w.drew) := by
      funext a'; exact propext ⟨fun h => h.2, fun h => ⟨by simp, h⟩⟩
    rw [this]; exact h
  have := wpAnyS_lex (md := .any) hB.1 l 0 (Array.replicate l.toArray.size false) a (by simp) (by simpa using hB.2) h'
  simpa using this
end
end Go.Proofs.YtajhehmkdlebbaaDoor
