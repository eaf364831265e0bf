/- The plain law of words: a word tells its kind, its registers and its number. No program in sight. -/
import Derived.Test.YtajhehmkdlebbaaDoorTake
namespace Go.Proofs.YtajhehmkdlebbaaDoor
set_option maxRecDepth 100000
section
variable {op f3 f7 : Nat} {rd a b imm : Int}
theorem wR : wordF 82 op f3 f7 rd a b imm = op + rd * 128 + f3 * 4096 + a * 32768 + b * 1048576 + f7 * 33554432 := rfl
theorem wI : wordF 73 op f3 f7 rd a b imm = op + rd * 128 + f3 * 4096 + a * 32768 + imm % 4096 * 1048576 := rfl
theorem wH : wordF 72 op f3 f7 rd a b imm = op + rd * 128 + f3 * 4096 + a * 32768 + imm % 4096 * 1048576 := rfl
theorem wS : wordF 83 op f3 f7 rd a b imm = op + imm % 32 * 128 + f3 * 4096 + a * 32768 + b * 1048576 + imm / 32 % 128 * 33554432 := rfl
theorem wB : wordF 66 op f3 f7 rd a b imm = op + imm / 2048 % 2 * 128 + imm / 2 % 16 * 256 + f3 * 4096 + a * 32768 + b * 1048576 + imm / 32 % 64 * 33554432 + imm / 4096 % 2 * 2147483648 := rfl
theorem wU : wordF 85 op f3 f7 rd a b imm = op + rd * 128 + imm / 4096 % 1048576 * 4096 := rfl
theorem wJ : wordF 74 op f3 f7 rd a b imm = op + rd * 128 + imm / 4096 % 256 * 4096 + imm / 2048 % 2 * 1048576 + imm / 2 % 1024 * 2097152 + imm / 1048576 % 2 * 2147483648 := rfl
theorem wE : wordF 69 op f3 f7 rd a b imm = op := rfl
end
/-- what a form's word tells -/
structure Tells (f op f3 f7 : Nat) (rd a b imm v : Int) : Prop where
  ge : 0 ≤ v
  lt : v < 4294967296
  op7 : v % 128 = op
  f3_ : f = 82 ∨ f = 73 ∨ f = 72 ∨ f = 83 ∨ f = 66 → v / 4096 % 8 = f3
  f7_ : f = 82 → v / 33554432 = f7
  rd_ : pRd f v = rd
  a_ : pA f v = a
  b_ : pB f v = b
  imm_ : pI f v = imm
section
variable {op f3 f7 : Nat} {rd a b imm : Int}
theorem tells_R (h1 : 0 ≤ rd ∧ rd ≤ 31) (h2 : 0 ≤ a ∧ a ≤ 31) (h3 : 0 ≤ b ∧ b ≤ 31) (hop : op < 128) (hf3 : f3 < 8) (hf7 : f7 < 128) (hi : formImm 82 rd a b imm) : Tells 82 op f3 f7 rd a b imm (wordF 82 op f3 f7 rd a b imm) := by
  have e : imm = 0 := by unfold formImm at hi; omega
  clear hi
  constructor <;> rw [wR]
  · omega
  · omega
  · omega
  · intro _; omega
  · intro _; omega
  · show (_ : Int) / 128 % 32 = _; omega
  · show (_ : Int) / 32768 % 32 = _; omega
  · show (_ : Int) / 1048576 % 32 = _; omega
  · exact e.symm
theorem tells_I (h1 : 0 ≤ rd ∧ rd ≤ 31) (h2 : 0 ≤ a ∧ a ≤ 31) (hop : op < 128) (hf3 : f3 < 8) (hi : formImm 73 rd a b imm) : Tells 73 op f3 f7 rd a b imm (wordF 73 op f3 f7 rd a b imm) := by
  have e : b = 0 ∧ -2048 ≤ imm ∧ imm ≤ 2047 := by unfold formImm at hi; omega
  clear hi
  obtain ⟨eb, ei1, ei2⟩ := e
  have hq : 0 ≤ imm % 4096 ∧ imm % 4096 < 4096 ∧ imm % 4096 - imm % 4096 / 2048 * 4096 = imm := by omega
  constructor <;> rw [wI] <;> generalize imm % 4096 = q at *
  · omega
  · omega
  · omega
  · intro _; omega
  · intro h; exact absurd h (by decide)
  · show (_ : Int) / 128 % 32 = _; omega
  · show (_ : Int) / 32768 % 32 = _; omega
  · exact eb.symm
  · show (_ : Int) / 1048576 - _ / 2147483648 * 4096 = _; omega
theorem tells_H (h1 : 0 ≤ rd ∧ rd ≤ 31) (h2 : 0 ≤ a ∧ a ≤ 31) (hop : op < 128) (hf3 : f3 < 8) (hi : formImm 72 rd a b imm) : Tells 72 op f3 f7 rd a b imm (wordF 72 op f3 f7 rd a b imm) := by
  have e : b = 0 ∧ 0 ≤ imm ∧ imm ≤ 63 := by unfold formImm at hi; omega
  clear hi
  obtain ⟨eb, ei1, ei2⟩ := e
  have hq : imm % 4096 = imm := by omega
  constructor <;> rw [wH, hq]
  · omega
  · omega
  · omega
  · intro _; omega
  · intro h; exact absurd h (by decide)
  · show (_ : Int) / 128 % 32 = _; omega
  · show (_ : Int) / 32768 % 32 = _; omega
  · exact eb.symm
  · show (_ : Int) / 1048576 = _; omega
theorem tells_S (h2 : 0 ≤ a ∧ a ≤ 31) (h3 : 0 ≤ b ∧ b ≤ 31) (hop : op < 128) (hf3 : f3 < 8) (hi : formImm 83 rd a b imm) : Tells 83 op f3 f7 rd a b imm (wordF 83 op f3 f7 rd a b imm) := by
  have e : rd = 0 ∧ -2048 ≤ imm ∧ imm ≤ 2047 := by unfold formImm at hi; omega
  clear hi
  obtain ⟨eb, ei1, ei2⟩ := e
  have hq : 0 ≤ imm % 32 ∧ imm % 32 < 32 ∧ 0 ≤ imm / 32 % 128 ∧ imm / 32 % 128 < 128 ∧ imm / 32 % 128 * 32 + imm % 32 - imm / 32 % 128 / 64 * 4096 = imm := by omega
  constructor <;> rw [wS] <;> generalize imm % 32 = q at * <;> generalize imm / 32 % 128 = r at *
  · omega
  · omega
  · omega
  · intro _; omega
  · intro h; exact absurd h (by decide)
  · exact eb.symm
  · show (_ : Int) / 32768 % 32 = _; omega
  · have k1 : ((op : Int) + q * 128 + f3 * 4096 + a * 32768 + b * 1048576 + r * 33554432) / 1048576 = b + r * 32 := by omega
    show (_ : Int) / 1048576 % 32 = _; rw [k1]; omega
  · show (_ : Int) / 33554432 * 32 + _ / 128 % 32 - _ / 2147483648 * 4096 = _; omega
theorem tells_B (h2 : 0 ≤ a ∧ a ≤ 31) (h3 : 0 ≤ b ∧ b ≤ 31) (hop : op < 128) (hf3 : f3 < 8) (hi : formImm 66 rd a b imm) : Tells 66 op f3 f7 rd a b imm (wordF 66 op f3 f7 rd a b imm) := by
  have e : rd = 0 ∧ -4096 ≤ imm ∧ imm ≤ 4094 ∧ imm % 2 = 0 := by unfold formImm at hi; omega
  clear hi
  obtain ⟨eb, ei1, ei2, ei3⟩ := e
  have hq : 0 ≤ imm / 2048 % 2 ∧ imm / 2048 % 2 < 2 ∧ 0 ≤ imm / 2 % 16 ∧ imm / 2 % 16 < 16 ∧ 0 ≤ imm / 32 % 64 ∧ imm / 32 % 64 < 64 ∧ 0 ≤ imm / 4096 % 2 ∧ imm / 4096 % 2 < 2 ∧
      imm / 2048 % 2 * 2048 + imm / 32 % 64 * 32 + imm / 2 % 16 * 2 - imm / 4096 % 2 * 4096 = imm := by omega
  have hw := @wB op f3 f7 rd a b imm
  generalize imm / 2048 % 2 = q at *
  generalize imm / 2 % 16 = r at *
  generalize imm / 32 % 64 = s at *
  generalize imm / 4096 % 2 = t at *
  obtain ⟨g1, g2, g3, g4, g5, g6, g7, g8, g9⟩ := hq
  generalize wordF 66 op f3 f7 rd a b imm = v at *
  have k0 : v / 128 = q + r * 2 + f3 * 32 + a * 256 + b * 8192 + s * 262144 + t * 16777216 := by omega
  have k1 : v / 256 = r + f3 * 16 + a * 128 + b * 4096 + s * 131072 + t * 8388608 := by omega
  have k2 : v / 4096 = f3 + a * 8 + b * 256 + s * 8192 + t * 524288 := by omega
  have k3 : v / 32768 = a + b * 32 + s * 1024 + t * 65536 := by omega
  have k4 : v / 1048576 = b + s * 32 + t * 2048 := by omega
  have k5 : v / 33554432 = s + t * 64 := by omega
  have k6 : v / 2147483648 = t := by omega
  constructor
  · omega
  · omega
  · omega
  · intro _; rw [k2]; omega
  · intro h; exact absurd h (by decide)
  · exact eb.symm
  · show v / 32768 % 32 = _; rw [k3]; omega
  · show v / 1048576 % 32 = _; rw [k4]; omega
  · show v / 128 % 2 * 2048 + v / 33554432 % 64 * 32 + v / 256 % 16 * 2 - v / 2147483648 * 4096 = _
    have e0 : v / 128 % 2 = q := by rw [k0]; clear k0 k1 k2 k3 k4 k5 k6 hw; omega
    have e1 : v / 33554432 % 64 = s := by rw [k5]; clear k0 k1 k2 k3 k4 k5 k6 hw; omega
    have e2 : v / 256 % 16 = r := by rw [k1]; clear k0 k1 k2 k3 k4 k5 k6 hw; omega
    rw [e0, e1, e2, k6, g9]
theorem tells_U (h1 : 0 ≤ rd ∧ rd ≤ 31) (hop : op < 128) (hi : formImm 85 rd a b imm) : Tells 85 op f3 f7 rd a b imm (wordF 85 op f3 f7 rd a b imm) := by
  have e : a = 0 ∧ b = 0 ∧ -2147483648 ≤ imm ∧ imm ≤ 2147479552 ∧ imm % 4096 = 0 := by unfold formImm at hi; omega
  clear hi
  obtain ⟨ea, eb, ei1, ei2, ei3⟩ := e
  have hq : 0 ≤ imm / 4096 % 1048576 ∧ imm / 4096 % 1048576 < 1048576 ∧ imm / 4096 % 1048576 * 4096 - imm / 4096 % 1048576 / 524288 * 4294967296 = imm := by omega
  constructor <;> rw [wU] <;> generalize imm / 4096 % 1048576 = q at *
  · omega
  · omega
  · omega
  · intro h; exact absurd h (by decide)
  · intro h; exact absurd h (by decide)
  · show (_ : Int) / 128 % 32 = _; omega
  · exact ea.symm
  · exact eb.symm
  · show (_ : Int) / 4096 * 4096 - _ / 2147483648 * 4294967296 = _; omega
theorem tells_J (h1 : 0 ≤ rd ∧ rd ≤ 31) (hop : op < 128) (hi : formImm 74 rd a b imm) : Tells 74 op f3 f7 rd a b imm (wordF 74 op f3 f7 rd a b imm) := by
  have e : a = 0 ∧ b = 0 ∧ -1048576 ≤ imm ∧ imm ≤ 1048574 ∧ imm % 2 = 0 := by unfold formImm at hi; omega
  clear hi
  obtain ⟨ea, eb, ei1, ei2, ei3⟩ := e
  have hq : 0 ≤ imm / 4096 % 256 ∧ imm / 4096 % 256 < 256 ∧ 0 ≤ imm / 2048 % 2 ∧ imm / 2048 % 2 < 2 ∧ 0 ≤ imm / 2 % 1024 ∧ imm / 2 % 1024 < 1024 ∧ 0 ≤ imm / 1048576 % 2 ∧ imm / 1048576 % 2 < 2 ∧
      imm / 4096 % 256 * 4096 + imm / 2048 % 2 * 2048 + imm / 2 % 1024 * 2 - imm / 1048576 % 2 * 1048576 = imm := by omega
  have hw := @wJ op f3 f7 rd a b imm
  generalize imm / 4096 % 256 = q at *
  generalize imm / 2048 % 2 = r at *
  generalize imm / 2 % 1024 = s at *
  generalize imm / 1048576 % 2 = t at *
  obtain ⟨g1, g2, g3, g4, g5, g6, g7, g8, g9⟩ := hq
  generalize wordF 74 op f3 f7 rd a b imm = v at *
  have k0 : v / 128 = rd + q * 32 + r * 8192 + s * 16384 + t * 16777216 := by omega
  have k1 : v / 4096 = q + r * 256 + s * 512 + t * 524288 := by omega
  have k2 : v / 1048576 = r + s * 2 + t * 2048 := by omega
  have k3 : v / 2097152 = s + t * 1024 := by omega
  have k4 : v / 2147483648 = t := by omega
  constructor
  · omega
  · omega
  · omega
  · intro h; exact absurd h (by decide)
  · intro h; exact absurd h (by decide)
  · show v / 128 % 32 = _; rw [k0]; omega
  · exact ea.symm
  · exact eb.symm
  · show v / 4096 % 256 * 4096 + v / 1048576 % 2 * 2048 + v / 2097152 % 1024 * 2 - v / 2147483648 * 1048576 = _
    have e0 : v / 4096 % 256 = q := by rw [k1]; clear k0 k1 k2 k3 k4 hw; omega
    have e1 : v / 1048576 % 2 = r := by rw [k2]; clear k0 k1 k2 k3 k4 hw; omega
    have e2 : v / 2097152 % 1024 = s := by rw [k3]; clear k0 k1 k2 k3 k4 hw; omega
    rw [e0, e1, e2, k4, g9]
theorem tells_E (hop : op < 128) (hi : formImm 69 rd a b imm) : Tells 69 op f3 f7 rd a b imm (wordF 69 op f3 f7 rd a b imm) := by
  have e : rd = 0 ∧ a = 0 ∧ b = 0 ∧ imm = 0 := by unfold formImm at hi; omega
  clear hi
  obtain ⟨ed, ea, eb, ei⟩ := e
  constructor <;> rw [wE]
  · omega
  · omega
  · omega
  · intro h; exact absurd h (by decide)
  · intro h; exact absurd h (by decide)
  · exact ed.symm
  · exact ea.symm
  · exact eb.symm
  · exact ei.symm
end
/-- .. of an instruction that may be -/
theorem tells {k : Nat} {rd a b imm : Int} (h : MayP k rd a b imm) : Tells (formI k) (opL.getD k 0) (f3L.getD k 0) (f7L.getD k 0) rd a b imm (wordF (formI k) (opL.getD k 0) (f3L.getD k 0) (f7L.getD k 0) rd a b imm) := by
  obtain ⟨h1, h2, h3, h4, h5, h6, h7, h8, hi⟩ := h
  obtain ⟨b1, b2, b3⟩ := tab_bd k (by omega)
  rcases formI_cases k with hf | hf | hf | hf | hf | hf | hf | hf <;> rw [hf] at hi ⊢
  · exact tells_R ⟨h3, h4⟩ ⟨h5, h6⟩ ⟨h7, h8⟩ b1 b2 b3 hi
  · exact tells_I ⟨h3, h4⟩ ⟨h5, h6⟩ b1 b2 hi
  · exact tells_H ⟨h3, h4⟩ ⟨h5, h6⟩ b1 b2 hi
  · exact tells_S ⟨h5, h6⟩ ⟨h7, h8⟩ b1 b2 hi
  · exact tells_B ⟨h5, h6⟩ ⟨h7, h8⟩ b1 b2 hi
  · exact tells_U ⟨h3, h4⟩ b1 hi
  · exact tells_J ⟨h3, h4⟩ b1 hi
  · exact tells_E b1 hi
/-- kinds are told apart by their fixed bits -/
theorem kinds_apart : ∀ k, k < 32 → 1 ≤ k → ∀ j, j < 32 → 1 ≤ j → opL.getD k 0 = opL.getD j 0 → formL.getD k 0 = formL.getD j 0 ∧
    ((formL.getD k 0 = 82 ∨ formL.getD k 0 = 73 ∨ formL.getD k 0 = 72 ∨ formL.getD k 0 = 83 ∨ formL.getD k 0 = 66 → f3L.getD k 0 = f3L.getD j 0) → (formL.getD k 0 = 82 → f7L.getD k 0 = f7L.getD j 0) → k = j) ∨ f3L.getD k 0 ≠ f3L.getD j 0 ∧ (formL.getD k 0 = 73 ∨ formL.getD k 0 = 72) ∧ (formL.getD j 0 = 73 ∨ formL.getD j 0 = 72) := by
  have h : (List.range 32).all (fun k => (List.range 32).all fun j => decide (1 ≤ k → 1 ≤ j → opL.getD k 0 = opL.getD j 0 → formL.getD k 0 = formL.getD j 0 ∧
    ((formL.getD k 0 = 82 ∨ formL.getD k 0 = 73 ∨ formL.getD k 0 = 72 ∨ formL.getD k 0 = 83 ∨ formL.getD k 0 = 66 → f3L.getD k 0 = f3L.getD j 0) → (formL.getD k 0 = 82 → f7L.getD k 0 = f7L.getD j 0) → k = j) ∨ f3L.getD k 0 ≠ f3L.getD j 0 ∧ (formL.getD k 0 = 73 ∨ formL.getD k 0 = 72) ∧ (formL.getD j 0 = 73 ∨ formL.getD j 0 = 72))) = true := by decide +kernel
  intro k hk h1 j hj h2
  exact of_decide_eq_true (List.all_eq_true.1 (List.all_eq_true.1 h k (List.mem_range.2 hk)) j (List.mem_range.2 hj)) h1 h2
theorem ops_low : ∀ k, k < 32 → 1 ≤ k → opL.getD k 0 % 4 = 3 := by
  have h : (List.range 32).all (fun k => decide (1 ≤ k → opL.getD k 0 % 4 = 3)) = true := by decide +kernel
  intro k hk
  exact of_decide_eq_true (List.all_eq_true.1 h k (List.mem_range.2 hk))
theorem wordI_nat (k : Nat) (rd a b imm : Int) : wordI k rd a b imm = wordF (formI k) (opL.getD k 0) (f3L.getD k 0) (f7L.getD k 0) rd a b imm := rfl
/-- one word, one kind -/
theorem kind_one {k j : Nat} {rd a b imm rd' a' b' imm' : Int} (h : MayP k rd a b imm) (h' : MayP j rd' a' b' imm') (e : wordI k rd a b imm = wordI j rd' a' b' imm') : k = j := by
  have t := tells h
  have t' := tells h'
  have hk1 : 1 ≤ k ∧ k < 32 := ⟨by have := h.1; omega, by have := h.2.1; omega⟩
  have hj1 : 1 ≤ j ∧ j < 32 := ⟨by have := h'.1; omega, by have := h'.2.1; omega⟩
  rw [wordI_nat, wordI_nat] at e
  have eo : opL.getD k 0 = opL.getD j 0 := by
    have h1 := t.op7
    have h2 := t'.op7
    rw [e, h2] at h1
    exact_mod_cast h1.symm
  have fk := tab_form k hk1.2 hk1.1
  have fj := tab_form j hj1.2 hj1.1
  have key := kinds_apart k hk1.2 hk1.1 j hj1.2 hj1.1 eo
  rw [fk, fj] at key
  rcases key with ⟨ef, hu⟩ | ⟨ne, c1, c2⟩
  · refine hu (fun hc => ?_) (fun hc => ?_)
    · have h1 := t.f3_ hc
      have h2 := t'.f3_ (by rw [← ef]; exact hc)
      rw [e, h2] at h1
      exact_mod_cast h1.symm
    · have h1 := t.f7_ hc
      have h2 := t'.f7_ (by rw [← ef]; exact hc)
      rw [e, h2] at h1
      exact_mod_cast h1.symm
  · refine absurd ?_ ne
    have h1 := t.f3_ (by rcases c1 with h | h <;> rw [h] <;> decide)
    have h2 := t'.f3_ (by rcases c2 with h | h <;> rw [h] <;> decide)
    rw [e, h2] at h1
    exact_mod_cast h1.symm
/-- an instruction that may be is read from its word -/
theorem hit_self {k : Nat} {rd a b imm : Int} (h : MayP k rd a b imm) : hit k (wordI k rd a b imm) = true ∧ pRd (formI k) (wordI k rd a b imm) = rd ∧ pA (formI k) (wordI k rd a b imm) = a ∧ pB (formI k) (wordI k rd a b imm) = b ∧ pI (formI k) (wordI k rd a b imm) = imm := by
  have t := tells h
  rw [wordI_nat]
  refine ⟨?_, t.rd_, t.a_, t.b_, t.imm_⟩
  unfold hit
  rw [t.rd_, t.a_, t.b_, t.imm_, mayB_true h, wordI_nat]
  simp
theorem take_word {k : Nat} {rd a b imm : Int} (h : MayP k rd a b imm) : takeK (wordI k rd a b imm) = some k := by
  have hk1 : 1 ≤ k ∧ k < 32 := ⟨by have := h.1; omega, by have := h.2.1; omega⟩
  refine takeK_some hk1.1 hk1.2 (fun j h1 h2 => ?_) (hit_self h).1
  cases hj : hit j (wordI k rd a b imm)
  · rfl
  · unfold hit at hj
    rw [Bool.and_eq_true, decide_eq_true_eq] at hj
    have := kind_one h (mayB_out hj.1) hj.2.symm
    omega
theorem word_bd {k : Nat} {rd a b imm : Int} (h : MayP k rd a b imm) : 0 ≤ wordI k rd a b imm ∧ wordI k rd a b imm < 4294967296 := ⟨(tells h).ge, (tells h).lt⟩
theorem word_low {k : Nat} {rd a b imm : Int} (h : MayP k rd a b imm) : wordI k rd a b imm % 4 = 3 := by
  have h1 := (tells h).op7
  rw [← wordI_nat] at h1
  have h2 := ops_low k (by have := h.2.1; omega) (by have := h.1; omega)
  omega
theorem takeK_out {v : Int} {k : Nat} (h : takeK v = some k) : 1 ≤ k ∧ k < 32 ∧ MayP k (pRd (formI k) v) (pA (formI k) v) (pB (formI k) v) (pI (formI k) v) ∧ wordI k (pRd (formI k) v) (pA (formI k) v) (pB (formI k) v) (pI (formI k) v) = v := by
  unfold takeK at h
  rw [List.find?_range'_eq_some] at h
  obtain ⟨hh, hm, _⟩ := h
  rw [List.mem_range'_1] at hm
  unfold hit at hh
  rw [Bool.and_eq_true, decide_eq_true_eq] at hh
  exact ⟨by omega, by omega, mayB_out hh.1, hh.2⟩
end Go.Proofs.YtajhehmkdlebbaaDoor
