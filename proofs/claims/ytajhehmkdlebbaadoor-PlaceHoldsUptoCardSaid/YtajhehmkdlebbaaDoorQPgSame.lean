/- page.Same and the reference's: are two memories the same? -/
import Derived.Test.YtajhehmkdlebbaaDoorQPgStore
import Derived.Laws.StructEq
namespace Go.Proofs.YtajhehmkdlebbaaDoor
open Go.ChangeShapes Go.WideShapes Go.ChangeAt Go.RowKit Go.Deep Go.Maps Go.WideMaps
set_option maxRecDepth 100000
noncomputable instance (x y : Pg) : Decidable (x = y) := Classical.propDecidable _
noncomputable instance (x y : List Pg) : Decidable (x = y) := Classical.propDecidable _
noncomputable def eqPg (x y : Pg) : Bool := decide (x = y)
noncomputable def sameB (a b : List Pg) : Bool := decide (a = b)
theorem data_toList {a b : ByteArray} : a.toList = b.toList ↔ a = b := by
  rw [ByteArray.toList_eq, ByteArray.toList_eq]
  constructor
  · intro h; cases a; cases b; simpa using h
  · rintro rfl; rfl
theorem neqPg (x y : Pg) (w : World) : (binOp .neq 41 (.agg #[.int .u64 x.at_, .int .i64 x.perm, .string x.data]) (.agg #[.int .u64 y.at_, .int .i64 y.perm, .string y.data])).run Tryd.prog w = .ok (.bool (!eqPg x y)) w := by
  have u1 := Tryd.underlying24
  have u2 := Tryd.underlying3
  have u3 := Tryd.underlying9
  have a1 := Tryd.isAgg24
  have a2 := Tryd.isAgg3
  have a3 := Tryd.isAgg9
  have z1 := Tryd.sizeOf24
  have z2 := Tryd.sizeOf3
  have z3 := Tryd.sizeOf9
  have hS : Tryd.prog.underlying 41 = some (.struct (Tryd.prog.fieldsOf 41)) := by kernel_rfl
  have hp : Tryd.prog.stoodInHeld 41 = false := by kernel_rfl
  rw [run_neq_struct, show (10000 : Nat) = 9999 + 1 from rfl, run_equalIn_agg w 9999 41 _ _ hS hp]
  simp only [Program.fieldsOf, Tryd.underlying41]
  go_simp
  have he : eqPg x y = (decide (x.at_ = y.at_) && decide (x.perm = y.perm) && decide (x.data.toList = y.data.toList)) := by
    unfold eqPg
    cases x with
    | mk a p d => cases y with
      | mk a' p' d' =>
        simp only [Pg.mk.injEq, data_toList]
        by_cases h1 : a = a' <;> by_cases h2 : p = p' <;> by_cases h3 : d = d' <;> simp [h1, h2, h3]
  rw [he]
  by_cases h1 : x.at_ = y.at_ <;> by_cases h2 : x.perm = y.perm <;> by_cases h3 : x.data.toList = y.data.toList <;> simp [h1, h2, h3]
/-- two memories part at a page -/
theorem same_part {a b : List Pg} {k : Nat} (ha : k < a.length) (hb : k < b.length) (h : a[k] ≠ b[k]) : sameB a b = false :=
  decide_eq_false fun e => h (by subst e; rfl)
theorem same_all {a b : List Pg} (hl : a.length = b.length) (h : ∀ k : Nat, ∀ ha : k < a.length, ∀ hb : k < b.length, a[k] = b[k]) : sameB a b = true :=
  decide_eq_true (List.ext_getElem hl h)
theorem same_len {a b : List Pg} (hl : a.length ≠ b.length) : sameB a b = false := decide_eq_false fun e => hl (by rw [e])
set_option maxHeartbeats 1000000 in
theorem rsame_any {A A' : Option Addr} {cap cap' : Nat} {L L' : List Pg} {w : World} {B B' : Nat} (hL : Mem w B A cap L) (hL' : Mem w B' A' cap' L') (hB : B ≤ w.heap.size) (hB' : B' ≤ w.heap.size) (hlen : L.length ≤ 140737488351232) :
    Calls Tryd.prog 40 #[.slice A L.length cap, .slice A' L'.length cap'] w fun e w' => e = .returned (.bool (sameB L L')) ∧ Below w.heap.size w w' := by
  by_cases hl : L.length = L'.length
  · have HL := Lib.hid hl
    have hl2 : (L'.length : Int) = L.length := by omega
    go_enter Tryd.func40, Tryd.ntmps40
    rw [← hl]
    clear hl hl2
    go_wp2
    go_loopw [5] (fun i wr => ∃ k : Nat, k ≤ L.length ∧ i = .int .i64 k ∧ Below w.heap.size w wr ∧ Hid (∀ j : Nat, ∀ ha : j < L.length, ∀ hb : j < L'.length, j < k → L[j] = L'[j])) (fun i _ => L.length - (intOf i).toNat)
    case atStart => exact ⟨0, Nat.zero_le _, rfl, Below.refl _ _, fun j _ _ hj => absurd hj (Nat.not_lt_zero _)⟩
    case round =>
      obtain ⟨k, hk, rfl, hbw, hno⟩ := hrel
      by_cases hlt : k < L.length
      · have hlt' : k < L'.length := by have := HL.out; omega
        obtain ⟨b, off, rfl, hb, c0, c1, c2⟩ := Mem.pg (Sl.In.below hL (hbw.mono hB)) hlt
        obtain ⟨b', off', rfl, hb', d0, d1, d2⟩ := Mem.pg (Sl.In.below hL' (hbw.mono hB')) hlt'
        have hne := neqPg L[k] L'[k]
        have i1 : (0 : Int) ≤ (k : Int) := by omega
        have i2 : (k : Int) < (L.length : Int) := by omega
        cases heq : eqPg L[k] L'[k]
        · rw [heq] at hne
          have HR := Lib.hid (same_part hlt hlt' (of_decide_eq_false heq))
          clear heq
          go_wp2
          go_quiet (fail)
          go_wp2
          go_ret
          rw [HR.out]
          exact ⟨rfl, below_drewN hbw _⟩
        · rw [heq] at hne
          have he : L[k] = L'[k] := of_decide_eq_true heq
          have HE := Lib.hid he
          clear he
          clear heq
          go_wp2
          go_quiet (fail)
          go_wp2
          exact ⟨⟨k + 1, hlt, by go_num, below_drewN hbw _, fun j ha hb hj => by
            by_cases e : j = k
            · subst e; exact HE.out
            · exact hno.out j ha hb (by omega)⟩, by simp [intOf]; omega⟩
      · obtain rfl : k = L.length := by omega
        have HR := Lib.hid (same_all HL.out (fun j ha hb => hno.out j ha hb ha))
        go_wp2
        go_ret
        rw [HR.out]
        exact ⟨rfl, hbw⟩
  · have HR := Lib.hid (same_len hl)
    have hne : ((L.length : Int) != (L'.length : Int)) = true := by simp; omega
    go_enter Tryd.func40, Tryd.ntmps40
    go_wp2
    go_ret
    rw [HR.out]
    exact ⟨rfl, Below.refl _ _⟩
end Go.Proofs.YtajhehmkdlebbaaDoor
