/- The machine with an image: plain. -/
import Derived.Test.YtajhehmkdlebbaaDoorElRMay
import Derived.Test.YtajhehmkdlebbaaDoorQElMc
namespace Go.Proofs.YtajhehmkdlebbaaDoor
open Go.ChangeShapes Go.WideShapes Go.ChangeAt Go.RowKit Go.Deep Go.Maps Go.WideMaps
/-- memory with the first k segments -/
noncomputable def ldM (l : List Sg) : Nat → List Pg
  | 0 => []
  | k + 1 => match l[k]? with
    | some s => fillX (mapX (ldM l k) s.at_ (pagesI s.size) s.perm) s.at_ s.data
    | none => []
noncomputable def ldE (l : List Sg) (k : Nat) : Int := match l[k]? with
  | some s => mapE (ldM l k) s.at_ (pagesI s.size) s.perm
  | none => 0
/-- why segments can't be laid out: the first one's why -/
noncomputable def ldErr (l : List Sg) : Nat → Int
  | 0 => 0
  | k + 1 => if ldErr l k = 0 then ldE l k else ldErr l k
noncomputable def imE (e : Int) (l : List Sg) : Int := if imayB e l = true then ldErr l l.length else 1
noncomputable def imMc (e : Int) (l : List Sg) (inp : ByteArray) : Mc := if imE e l = 0 then ⟨List.replicate 32 0, e, none, 0, ldM l l.length, inp, ByteArray.empty, 0, 0, 0⟩ else Mc.zero
theorem ldM_succ {l : List Sg} {k : Nat} (hk : k < l.length) : ldM l (k + 1) = fillX (mapX (ldM l k) (l[k]).at_ (pagesI (l[k]).size) (l[k]).perm) (l[k]).at_ (l[k]).data := by
  show (match l[k]? with | some s => _ | none => _) = _
  rw [List.getElem?_eq_getElem hk]
theorem ldE_at {l : List Sg} {k : Nat} (hk : k < l.length) : ldE l k = mapE (ldM l k) (l[k]).at_ (pagesI (l[k]).size) (l[k]).perm := by
  unfold ldE
  rw [List.getElem?_eq_getElem hk]
theorem ldErr_bad {l : List Sg} {k : Nat} (h0 : ldErr l k = 0) (h : ldE l k ≠ 0) : ∀ {n : Nat}, k < n → ldErr l n = ldE l k
  | n + 1, hn => by
    show (if ldErr l n = 0 then ldE l n else ldErr l n) = _
    by_cases e : k = n
    · subst e; rw [if_pos h0]
    · have := ldErr_bad h0 h (show k < n by omega)
      rw [if_neg (by rw [this]; exact h), this]
theorem ldErr_good {l : List Sg} {k : Nat} (h0 : ldErr l k = 0) (h : ldE l k = 0) : ldErr l (k + 1) = 0 := by
  show (if ldErr l k = 0 then ldE l k else ldErr l k) = 0
  rw [if_pos h0, h]
theorem right_nil : RightP ([] : List Pg) := ⟨by simp, fun k hk => absurd hk (Nat.not_lt_zero _)⟩
theorem ldM_right (l : List Sg) : ∀ k, RightP (ldM l k)
  | 0 => right_nil
  | k + 1 => by
    show RightP (match l[k]? with | some s => _ | none => _)
    cases l[k]? with
    | none => exact right_nil
    | some s => exact fillX_rightP (mapX_rightP (ldM_right l k))
theorem ldM_ok {l : List Sg} (h : ∀ s ∈ l, s.ok) : ∀ k, ∀ p ∈ ldM l k, p.ok
  | 0 => fun p hp => by cases hp
  | k + 1 => by
    show ∀ p : Pg, p ∈ (match l[k]? with | some s => fillX (mapX (ldM l k) s.at_ (pagesI s.size) s.perm) s.at_ s.data | none => []) → p.ok
    cases hs : l[k]? with
    | none => exact fun p hp => by cases hp
    | some s => exact fillX_okP (mapX_okP (ldM_ok h k) (h s (List.mem_of_getElem? hs)).1.1)
theorem imMc_len (e : Int) (l : List Sg) (inp : ByteArray) : (imMc e l inp).x.length = 32 := by unfold imMc; split <;> rfl
theorem imMc_ok {e : Int} {l : List Sg} {inp : ByteArray} (he : 0 ≤ e ∧ e ≤ 18446744073709551615) (hi : inp.size ≤ 140737488351232) (h : ∀ s ∈ l, s.ok) : (imMc e l inp).Ok := by
  have z : U64 0 := ⟨by decide, by decide⟩
  have hz : ∀ v ∈ List.replicate 32 (0 : Int), U64 v := fun v hv => by rw [List.eq_of_mem_replicate hv]; exact z
  unfold imMc
  split
  · refine ⟨rfl, hz, he, hi, by show (-9223372036854775808 : Int) ≤ 0 ∧ (0 : Int) ≤ 9223372036854775807; decide, z, z, ldM_ok h _, ?_⟩
    have := (ldM_right l l.length).1
    show (ldM l l.length).length ≤ _
    omega
  · exact ⟨rfl, hz, z, (by show (0 : Nat) ≤ _; omega), (by show (-9223372036854775808 : Int) ≤ 0 ∧ (0 : Int) ≤ 9223372036854775807; decide), z, z, (fun p hp => by simp [Mc.zero] at hp), (by show (0 : Nat) ≤ _; omega)⟩
/-- what Load hands back -/
def LoadPost (w : World) (e : Int) (l : List Sg) (inp : ByteArray) (r : Ending) (w' : World) : Prop :=
  ∃ A c, r = .returned (.tuple #[.agg ((imMc e l inp).home A c).cells.toArray, .int .i64 (imE e l)]) ∧ Below w.heap.size w w' ∧ Mem w' w'.heap.size A c (imMc e l inp).mem ∧ (A = none → c = 0)
theorem LoadPost.bad {w w' : World} {e : Int} {l : List Sg} {inp : ByteArray} {E : Int} (hE : imE e l = E) (h0 : E ≠ 0) (hb : Below w.heap.size w w') {r : Ending} (hr : r = .returned (.tuple #[.agg Mc.zero.cells.toArray, .int .i64 E])) : LoadPost w e l inp r w' := by
  have hm : imMc e l inp = Mc.zero := by unfold imMc; rw [if_neg (by rw [hE]; exact h0)]
  refine ⟨none, 0, ?_, hb, ?_, fun _ => rfl⟩
  · rw [hr, hm, hE]; rfl
  · rw [hm]
    exact ⟨by show (0 : Nat) ≤ 0; omega, fun k x hk => by simp [Mc.zero] at hk⟩
theorem LoadPost.good {w w' : World} {e : Int} {l : List Sg} {inp : ByteArray} (hE : imE e l = 0) (hb : Below w.heap.size w w') {A : Option Addr} {c : Nat} (hM : Mem w' w'.heap.size A c (ldM l l.length)) (hn : A = none → c = 0) {r : Ending}
    (hr : r = .returned (.tuple #[.agg (⟨List.replicate 32 0, e, A, c, ldM l l.length, inp, ByteArray.empty, 0, 0, 0⟩ : Mc).cells.toArray, .int .i64 0])) : LoadPost w e l inp r w' := by
  have hm : imMc e l inp = ⟨List.replicate 32 0, e, none, 0, ldM l l.length, inp, ByteArray.empty, 0, 0, 0⟩ := by unfold imMc; rw [if_pos hE]
  refine ⟨A, c, ?_, hb, ?_, hn⟩
  · rw [hr, hm, hE]; rfl
  · rw [hm]; exact hM
end Go.Proofs.YtajhehmkdlebbaaDoor
