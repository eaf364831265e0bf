/- elf.Same and the reference's: are two images the same? -/
import Derived.Test.YtclghfekmmcfjaaElMay
import Derived.Test.YtclghfekmmcfjaaPgSame
import Derived.Lib.Builder
namespace Go.Proofs.Ytclghfekmmcfjaa
open Go.ChangeShapes Go.WideShapes Go.ChangeAt Go.RowKit Go.Deep
set_option maxRecDepth 100000
noncomputable instance (x y : Sg) : Decidable (x = y) := Classical.propDecidable _
noncomputable instance (x y : List Sg) : Decidable (x = y) := Classical.propDecidable _
noncomputable def eqSg (x y : Sg) : Bool := decide (x = y)
noncomputable def sameG (a b : List Sg) : Bool := decide (a = b)
noncomputable def sameI (e : Int) (a : List Sg) (e' : Int) (b : List Sg) : Bool := decide (e = e' ∧ a = b)
theorem eqSg_parts (x y : Sg) : eqSg x y = (decide (x.at_ = y.at_) && decide (x.perm = y.perm) && decide (x.data.toList = y.data.toList) && decide (x.size = y.size)) := by
  unfold eqSg
  cases x with
  | mk a p d s => cases y with
    | mk a' p' d' s' =>
      simp only [Sg.mk.injEq, data_toList]
      by_cases h1 : a = a' <;> by_cases h2 : p = p' <;> by_cases h3 : d = d' <;> by_cases h4 : s = s' <;> simp [h1, h2, h3, h4]
theorem neqSg (x y : Sg) (w : World) : (binOp .neq 29 (.agg #[.int .u64 x.at_, .int .i64 x.perm, .string x.data, .int .u64 x.size]) (.agg #[.int .u64 y.at_, .int .i64 y.perm, .string y.data, .int .u64 y.size])).run Try.prog w = .ok (.bool (!eqSg x y)) w := by
  have u1 := Try.underlying22
  have u2 := Try.underlying3
  have u3 := Try.underlying9
  have a1 := Try.isAgg22
  have a2 := Try.isAgg3
  have a3 := Try.isAgg9
  have z1 := Try.sizeOf22
  have z2 := Try.sizeOf3
  have z3 := Try.sizeOf9
  have hS : Try.prog.underlying 29 = some (.struct (Try.prog.fieldsOf 29)) := by kernel_rfl
  have hp : Try.prog.stoodInHeld 29 = false := by kernel_rfl
  rw [run_neq_struct, show (10000 : Nat) = 9999 + 1 from rfl, run_equalIn_agg w 9999 29 _ _ hS hp]
  simp only [Program.fieldsOf, Try.underlying29]
  go_simp
  rw [eqSg_parts]
  by_cases h1 : x.at_ = y.at_ <;> by_cases h2 : x.perm = y.perm <;> by_cases h3 : x.data.toList = y.data.toList <;> by_cases h4 : x.size = y.size <;> simp [h1, h2, h3, h4]
theorem eqlSg (x y : Sg) (w : World) : (binOp .eql 29 (.agg #[.int .u64 x.at_, .int .i64 x.perm, .string x.data, .int .u64 x.size]) (.agg #[.int .u64 y.at_, .int .i64 y.perm, .string y.data, .int .u64 y.size])).run Try.prog w = .ok (.bool (eqSg x y)) w := by
  have u1 := Try.underlying22
  have u2 := Try.underlying3
  have u3 := Try.underlying9
  have a1 := Try.isAgg22
  have a2 := Try.isAgg3
  have a3 := Try.isAgg9
  have z1 := Try.sizeOf22
  have z2 := Try.sizeOf3
  have z3 := Try.sizeOf9
  have hS : Try.prog.underlying 29 = some (.struct (Try.prog.fieldsOf 29)) := by kernel_rfl
  have hp : Try.prog.stoodInHeld 29 = false := by kernel_rfl
  rw [run_eql_struct, show (10000 : Nat) = 9999 + 1 from rfl, run_equalIn_agg w 9999 29 _ _ hS hp]
  simp only [Program.fieldsOf, Try.underlying29]
  go_simp
  rw [eqSg_parts]
  by_cases h1 : x.at_ = y.at_ <;> by_cases h2 : x.perm = y.perm <;> by_cases h3 : x.data.toList = y.data.toList <;> by_cases h4 : x.size = y.size <;> simp [h1, h2, h3, h4]
theorem gsame_part {a b : List Sg} {k : Nat} (ha : k < a.length) (hb : k < b.length) (h : a[k] ≠ b[k]) : sameG a b = false :=
  decide_eq_false fun e => h (by subst e; rfl)
theorem gsame_all {a b : List Sg} (hl : a.length = b.length) (h : ∀ k : Nat, ∀ ha : k < a.length, ∀ hb : k < b.length, a[k] = b[k]) : sameG a b = true :=
  decide_eq_true (List.ext_getElem hl h)
theorem gsame_len {a b : List Sg} (hl : a.length ≠ b.length) : sameG a b = false := decide_eq_false fun e => hl (by rw [e])
theorem sameI_of {e e' : Int} (h : e = e') (a b : List Sg) : sameI e a e' b = sameG a b := by
  unfold sameI sameG
  by_cases hab : a = b <;> simp [h, hab]
theorem sameI_no {e e' : Int} (h : e ≠ e') (a b : List Sg) : sameI e a e' b = false := decide_eq_false fun hc => h hc.1
section
variable {A A' : Option Addr} {cap cap' : Nat} {L L' : List Sg} {w : World} {B B' : Nat}
theorem eqf_any (x y : Sg) (w : World) :
    Calls Try.prog 48 #[.agg #[.int .u64 x.at_, .int .i64 x.perm, .string x.data, .int .u64 x.size], .agg #[.int .u64 y.at_, .int .i64 y.perm, .string y.data, .int .u64 y.size]] w fun e w' => e = .returned (.bool (eqSg x y)) ∧ Below w.heap.size w w' := by
  have hb : Hid (Below w.heap.size w ((w.alloc (.cells #[.int .u64 x.at_, .int .i64 x.perm, .string x.data, .int .u64 x.size] 29)).alloc (.cells #[.int .u64 y.at_, .int .i64 y.perm, .string y.data, .int .u64 y.size] 29))) := ((Below.refl _ _).alloc (Nat.le_refl _) _).alloc (by simp) _
  have he := eqlSg x y
  go_enter Try.func48, Try.ntmps48
  go_wp2
  go_ret
  exact ⟨rfl, hb.out⟩
set_option maxHeartbeats 1000000 in
theorem eqfn_any (hL : Sgs w B A cap L) (hL' : Sgs w B' A' cap' L') (hB : B ≤ w.heap.size) (hB' : B' ≤ w.heap.size) (hlen : L.length ≤ 140737488351232) :
    Calls Try.prog 47 #[.slice A L.length cap, .slice A' L'.length cap', .func (.func 48) #[] #[]] w fun e w' => e = .returned (.bool (sameG L L')) ∧ Below w.heap.size w w' := by
  by_cases hl : L.length = L'.length
  · have HL := Lib.hid hl
    have hl2 : (L'.length : Int) = L.length := by omega
    go_enter Try.func47, Try.ntmps47
    rw [← hl]
    clear hl hl2
    go_wp2
    go_loopw [17] (fun i wr => ∃ k : Nat, k ≤ L.length ∧ i = .int .i64 k ∧ Below w.heap.size w wr ∧ Hid (∀ j : Nat, ∀ ha : j < L.length, ∀ hb : j < L'.length, j < k → L[j] = L'[j])) (fun i _ => L.length - (intOf i).toNat)
    case atStart => exact ⟨0, Nat.zero_le _, rfl, Below.refl _ _, fun j _ _ hj => absurd hj (Nat.not_lt_zero _)⟩
    case round =>
      obtain ⟨k, hk, rfl, hbw, hno⟩ := hrel
      by_cases hlt : k < L.length
      · have hlt' : k < L'.length := by have := HL.out; omega
        obtain ⟨b, off, rfl, hb, c0, c1, c2, c3⟩ := Sgs.sg (Sl.In.below hL (hbw.mono hB)) hlt
        have i1 : (0 : Int) ≤ (k : Int) := by omega
        have i2 : (k : Int) < (L.length : Int) := by omega
        obtain ⟨s, hs⟩ : ∃ s, L[k] = s := ⟨_, rfl⟩
        obtain ⟨t, ht⟩ : ∃ t, L'[k] = t := ⟨_, rfl⟩
        obtain ⟨W1, hW1⟩ : ∃ W1, wr.alloc (.cells #[.int .u64 s.at_, .int .i64 s.perm, .string s.data, .int .u64 s.size] 29) = W1 := ⟨_, rfl⟩
        have hz1 : W1.heap.size = wr.heap.size + 1 := by subst hW1; simp
        have hb1 : Below w.heap.size w W1 := by subst hW1; exact hbw.alloc hbw.size _
        have a0 : W1.heap[wr.heap.size]? = some (.cells #[.int .u64 s.at_, .int .i64 s.perm, .string s.data, .int .u64 s.size] 29) := by subst hW1; exact heap_alloc_new _ _
        obtain ⟨b', off', rfl, hb', d0, d1, d2, d3⟩ := Sgs.sg (Sl.In.below hL' (hb1.mono hB')) hlt'
        rw [hs] at c0 c1 c2 c3
        rw [ht, ← hW1] at d0 d1 d2 d3
        obtain ⟨W2, hW2⟩ : ∃ W2, W1.alloc (.cells #[.int .u64 t.at_, .int .i64 t.perm, .string t.data, .int .u64 t.size] 29) = W2 := ⟨_, rfl⟩
        have hb2 : Hid (Below w.heap.size w W2) := by subst hW2; exact hb1.alloc hb1.size _
        have a1 : W2.heap[wr.heap.size]? = some (.cells #[.int .u64 s.at_, .int .i64 s.perm, .string s.data, .int .u64 s.size] 29) := by subst hW2; exact (Lib.alloc_old _ _ _ (by omega)).trans a0
        have a2 : W2.heap[W1.heap.size]? = some (.cells #[.int .u64 t.at_, .int .i64 t.perm, .string t.data, .int .u64 t.size] 29) := by subst hW2; exact heap_alloc_new _ _
        rw [hz1] at a2
        have x0 : W2.cell? ⟨wr.heap.size, 0, none⟩ = some (.int .u64 s.at_) := by rw [Lib.cell_of_heap a1]; rfl
        have x1 : W2.cell? ⟨wr.heap.size, 1, none⟩ = some (.int .i64 s.perm) := by rw [Lib.cell_of_heap a1]; rfl
        have x2 : W2.cell? ⟨wr.heap.size, 2, none⟩ = some (.string s.data) := by rw [Lib.cell_of_heap a1]; rfl
        have x3 : W2.cell? ⟨wr.heap.size, 3, none⟩ = some (.int .u64 s.size) := by rw [Lib.cell_of_heap a1]; rfl
        have y0 : W2.cell? ⟨wr.heap.size + 1, 0, none⟩ = some (.int .u64 t.at_) := by rw [Lib.cell_of_heap a2]; rfl
        have y1 : W2.cell? ⟨wr.heap.size + 1, 1, none⟩ = some (.int .i64 t.perm) := by rw [Lib.cell_of_heap a2]; rfl
        have y2 : W2.cell? ⟨wr.heap.size + 1, 2, none⟩ = some (.string t.data) := by rw [Lib.cell_of_heap a2]; rfl
        have y3 : W2.cell? ⟨wr.heap.size + 1, 3, none⟩ = some (.int .u64 t.size) := by rw [Lib.cell_of_heap a2]; rfl
        have HW1 := Lib.hid hW1
        have HW2 := Lib.hid hW2
        have HZ1 := Lib.hid hz1
        have hsame : Hid (eqSg s t = false → sameG L L' = false) := fun h => gsame_part hlt hlt' (by rw [hs, ht]; exact of_decide_eq_false h)
        have hgood : Hid (eqSg s t = true → L[k] = L'[k]) := fun h => by rw [hs, ht]; exact of_decide_eq_true h
        clear hs ht hW1 hW2 a0 a1 a2 hb1 hz1
        go_wp2_with fail
        rw [HW1.out, HW2.out]
        refine (eqf_any s t W2).mono ?_
        rintro e w3 ⟨rfl, hb3⟩
        have hbw3 := hb2.out.trans (hb3.mono hb2.out.size)
        cases heq : eqSg s t with
        | false =>
          have HR := Lib.hid (hsame.out heq)
          clear heq
          go_wp2
          go_ret
          rw [HR.out]
          exact ⟨rfl, hbw3⟩
        | true =>
          have HE := Lib.hid (hgood.out heq)
          clear heq
          go_wp2
          exact ⟨⟨k + 1, hlt, by go_num, hbw3, fun j ha hb hj => by
            by_cases e : j = k
            · subst e; exact HE.out
            · exact hno.out j ha hb (by omega)⟩, by simp [intOf]; omega⟩
      · obtain rfl : k = L.length := by omega
        have HR := Lib.hid (gsame_all HL.out (fun j ha hb => hno.out j ha hb ha))
        go_wp2
        go_ret
        rw [HR.out]
        exact ⟨rfl, hbw⟩
  · have HR := Lib.hid (gsame_len hl)
    have hne : ((L.length : Int) != (L'.length : Int)) = true := by simp; omega
    go_enter Try.func47, Try.ntmps47
    go_wp2
    go_ret
    rw [HR.out]
    exact ⟨rfl, Below.refl _ _⟩
set_option maxHeartbeats 1000000 in
theorem isame_any {e e' : Int} (hL : Sgs w B A cap L) (hL' : Sgs w B' A' cap' L') (hB : B ≤ w.heap.size) (hB' : B' ≤ w.heap.size) (hlen : L.length ≤ 140737488351232) :
    Calls Try.prog 20 #[.agg #[.int .u64 e, .slice A L.length cap], .agg #[.int .u64 e', .slice A' L'.length cap']] w fun r w' => r = .returned (.bool (sameI e L e' L')) ∧ Below w.heap.size w w' := by
  obtain ⟨W1, hW1⟩ : ∃ W1, w.alloc (.cells #[.int .u64 e, .slice A L.length cap] 25) = W1 := ⟨_, rfl⟩
  have x1 : Box2 W1 w.heap.size e (.slice A L.length cap) := by
    subst hW1
    refine ⟨?_, ?_⟩ <;> simp [go_sem]
  have k1 : Below w.heap.size w W1 := by subst hW1; exact (Below.refl _ _).alloc (Nat.le_refl _) _
  have z1 : W1.heap.size = w.heap.size + 1 := by subst hW1; simp
  obtain ⟨W2, hW2⟩ : ∃ W2, W1.alloc (.cells #[.int .u64 e', .slice A' L'.length cap'] 25) = W2 := ⟨_, rfl⟩
  have x2 : Box2 W2 (w.heap.size + 1) e' (.slice A' L'.length cap') := by
    subst hW2
    rw [← z1]
    refine ⟨?_, ?_⟩ <;> simp [go_sem]
  have k2 : Below W1.heap.size W1 W2 := by subst hW2; exact (Below.refl _ _).alloc (Nat.le_refl _) _
  have z2 : W2.heap.size = w.heap.size + 2 := by subst hW2; simp [z1]
  have x1' := x1.below k2 (by omega)
  have kb := k1.trans (k2.mono k1.size)
  have HW1 := Lib.hid hW1
  have HW2 := Lib.hid hW2
  have HX1 := Lib.hid x1'
  have HX2 := Lib.hid x2
  have HZ := Lib.hid z2
  have HK := Lib.hid kb
  have HL := Lib.hid (Sl.In.below hL (kb.mono hB))
  have HL' := Lib.hid (Sl.In.below hL' (kb.mono hB'))
  clear hW1 hW2 x1 x1' x2 k1 k2 z1 hL hL' kb
  have c3 : B ≤ W2.heap.size := by omega
  have c4 : B' ≤ W2.heap.size := by omega
  have HC := Lib.hid (eqfn_any HL.out HL'.out c3 c4 hlen)
  clear z2
  by_cases he : e = e'
  · have hne : (e == e') = true := by simpa using he
    have HR := Lib.hid (sameI_of he L L')
    obtain ⟨a0, a1⟩ := HX1.out
    obtain ⟨b0, b1⟩ := HX2.out
    clear he
    go_enter Try.func20, Try.ntmps20
    go_wp2_with fail
    rw [HW1.out, HW2.out]
    refine HC.out.mono ?_
    rintro r w1 ⟨rfl, hb1⟩
    go_wp2
    go_ret
    rw [HR.out]
    exact ⟨rfl, HK.out.trans (hb1.mono HK.out.size)⟩
  · have hne : (e == e') = false := by simpa using he
    have HR := Lib.hid (sameI_no he L L')
    obtain ⟨a0, a1⟩ := HX1.out
    obtain ⟨b0, b1⟩ := HX2.out
    clear he
    go_enter Try.func20, Try.ntmps20
    go_wp2
    go_ret
    rw [HW1.out, HW2.out, HR.out]
    exact ⟨rfl, HK.out⟩
set_option maxHeartbeats 2000000 in
theorem irsame_any {e e' : Int} (hL : Sgs w B A cap L) (hL' : Sgs w B' A' cap' L') (hB : B ≤ w.heap.size) (hB' : B' ≤ w.heap.size) (hlen : L.length ≤ 140737488351232) :
    Calls Try.prog 22 #[.agg #[.int .u64 e, .slice A L.length cap], .agg #[.int .u64 e', .slice A' L'.length cap']] w fun r w' => r = .returned (.bool (sameI e L e' L')) ∧ Below w.heap.size w w' := by
  obtain ⟨W1, hW1⟩ : ∃ W1, w.alloc (.cells #[.int .u64 e, .slice A L.length cap] 25) = W1 := ⟨_, rfl⟩
  have x1 : Box2 W1 w.heap.size e (.slice A L.length cap) := by
    subst hW1
    refine ⟨?_, ?_⟩ <;> simp [go_sem]
  have k1 : Below w.heap.size w W1 := by subst hW1; exact (Below.refl _ _).alloc (Nat.le_refl _) _
  have z1 : W1.heap.size = w.heap.size + 1 := by subst hW1; simp
  obtain ⟨W2, hW2⟩ : ∃ W2, W1.alloc (.cells #[.int .u64 e', .slice A' L'.length cap'] 25) = W2 := ⟨_, rfl⟩
  have x2 : Box2 W2 (w.heap.size + 1) e' (.slice A' L'.length cap') := by
    subst hW2
    rw [← z1]
    refine ⟨?_, ?_⟩ <;> simp [go_sem]
  have k2 : Below W1.heap.size W1 W2 := by subst hW2; exact (Below.refl _ _).alloc (Nat.le_refl _) _
  have z2 : W2.heap.size = w.heap.size + 2 := by subst hW2; simp [z1]
  have x1' := x1.below k2 (by omega)
  have kb := k1.trans (k2.mono k1.size)
  have HW1 := Lib.hid hW1
  have HW2 := Lib.hid hW2
  have HX1 := Lib.hid x1'
  have HX2 := Lib.hid x2
  have HZ := Lib.hid z2
  have HK := Lib.hid kb
  have HL := Lib.hid (Sl.In.below hL (kb.mono hB))
  have HL' := Lib.hid (Sl.In.below hL' (kb.mono hB'))
  clear hW1 hW2 x1 x1' x2 k1 k2 z1 hL hL' kb
  have hsz : w.heap.size + 1 < W2.heap.size := by omega
  have hsz0 : w.heap.size < W2.heap.size := by omega
  clear z2
  obtain ⟨a0, a1⟩ := HX1.out
  obtain ⟨b0, b1⟩ := HX2.out
  by_cases he : e = e'
  · have hne : (e != e') = false := by simpa using he
    by_cases hl : L.length = L'.length
    · have HR := Lib.hid (sameI_of he L L')
      have HLL := Lib.hid hl
      have hl2 : ((L.length : Int) != (L'.length : Int)) = false := by simp; omega
      clear he hl
      go_enter Try.func22, Try.ntmps22
      go_wp2
      rw [HW1.out, HW2.out]
      go_loopw [5] (fun i wr => ∃ k : Nat, k ≤ L.length ∧ i = .int .i64 k ∧ Below W2.heap.size W2 wr ∧ Hid (∀ j : Nat, ∀ ha : j < L.length, ∀ hb : j < L'.length, j < k → L[j] = L'[j])) (fun i _ => L.length - (intOf i).toNat)
      case atStart => exact ⟨0, Nat.zero_le _, rfl, Below.refl _ _, fun j _ _ hj => absurd hj (Nat.not_lt_zero _)⟩
      case round =>
        clear a0 a1 b0 b1
        obtain ⟨k, hk, rfl, hbw, hno⟩ := hrel
        obtain ⟨a0, a1⟩ := HX1.out.below hbw hsz0
        obtain ⟨b0, b1⟩ := HX2.out.below hbw hsz
        by_cases hlt : k < L.length
        · have hlt' : k < L'.length := by have := HLL.out; omega
          obtain ⟨b, off, rfl, hb, c0, c1, c2, c3⟩ := Sgs.sg (Sl.In.below HL.out (hbw.mono (by omega))) hlt
          obtain ⟨b', off', rfl, hb', d0, d1, d2, d3⟩ := Sgs.sg (Sl.In.below HL'.out (hbw.mono (by omega))) hlt'
          have hne2 := neqSg L[k] L'[k]
          have i1 : (0 : Int) ≤ (k : Int) := by omega
          have i2 : (k : Int) < (L.length : Int) := by omega
          have i3 : (k : Int) < (L'.length : Int) := by omega
          cases heq : eqSg L[k] L'[k]
          · rw [heq] at hne2
            have HP := Lib.hid (gsame_part hlt hlt' (of_decide_eq_false heq))
            clear heq
            go_wp2
            go_quiet (fail)
            go_wp2
            go_ret
            rw [HR.out, HP.out]
            exact ⟨rfl, HK.out.trans ((below_drewN hbw _).mono HK.out.size)⟩
          · rw [heq] at hne2
            have HE := Lib.hid (show L[k] = L'[k] from of_decide_eq_true heq)
            clear heq
            go_wp2
            go_quiet (fail)
            go_wp2
            exact ⟨⟨k + 1, hlt, by go_num, below_drewN hbw _, fun j ha hb hj => by
              by_cases e : j = k
              · subst e; exact HE.out
              · exact hno.out j ha hb (by omega)⟩, by simp [intOf]; omega⟩
        · obtain rfl : k = L.length := by omega
          have HP := Lib.hid (gsame_all HLL.out (fun j ha hb => hno.out j ha hb ha))
          go_wp2
          go_ret
          rw [HR.out, HP.out]
          exact ⟨rfl, HK.out.trans (hbw.mono HK.out.size)⟩
    · have HR := Lib.hid ((sameI_of he L L').trans (gsame_len hl))
      have hl2 : ((L.length : Int) != (L'.length : Int)) = true := by simp; omega
      clear he hl
      go_enter Try.func22, Try.ntmps22
      go_wp2
      go_ret
      rw [HW1.out, HW2.out, HR.out]
      exact ⟨rfl, HK.out⟩
  · have hne : (e != e') = true := by simpa using he
    have HR := Lib.hid (sameI_no he L L')
    clear he
    go_enter Try.func22, Try.ntmps22
    go_wp2
    go_ret
    rw [HW1.out, HW2.out, HR.out]
    exact ⟨rfl, HK.out⟩
end
end Go.Proofs.Ytclghfekmmcfjaa
