/- The reference's May: the same instructions may be. -/
import Derived.Test.YtajhehmkdlebbaaDoorRef
namespace Go.Proofs.YtajhehmkdlebbaaDoor
open Go.ChangeShapes Go.WideShapes Go.ChangeAt Go.RowKit
set_option maxRecDepth 100000
theorem regB_t {n : Int} (h : regB n = true) : 0 ≤ n ∧ n ≤ 31 := of_decide_eq_true h
theorem regB_f {n : Int} (h : regB n = false) : ¬ (0 ≤ n ∧ n ≤ 31) := of_decide_eq_false h
theorem tmod_t {n o : Int} (_ : 0 < o) (h : (n.tmod o == 0) = true) : n % o = 0 := by
  rw [beq_iff_eq, ← Int.dvd_iff_tmod_eq_zero, Int.dvd_iff_emod_eq_zero] at h
  exact h
theorem tmod_f {n o : Int} (_ : 0 < o) (h : (n.tmod o == 0) = false) : ¬ n % o = 0 := by
  rw [beq_eq_false_iff_ne, ne_eq, ← Int.dvd_iff_tmod_eq_zero, Int.dvd_iff_emod_eq_zero] at h
  exact h
set_option maxHeartbeats 2000000 in
theorem rmay_R {k : Int} {rd a b imm : Int} {w : World} (hk : 1 ≤ k ∧ k ≤ 31) (hf : formI k = 82) :
    Calls Tryd.prog 91 #[.agg #[.int .i64 k, .int .i64 rd, .int .i64 a, .int .i64 b, .int .i64 imm]] w fun e w' => e = .returned (.bool (mayB k rd a b imm)) ∧ Below w.heap.size w w' := by
  have HF := Lib.hid hf
  clear hf
  cases hrd : regB rd
  · have prd := regB_f hrd
    have hv : mayB k rd a b imm = false := mayB_false (by have hf := HF.out; unfold MayP formImm; rw [hf]; omega)
    have HV := Lib.hid hv
    clear hv
    go_enter Tryd.func91, Tryd.ntmps91
    go_wp2_with (first
      | (go_at_call 66; refine (form_any _ _ hk).mono ?_; rintro e w' ⟨rfl, rfl⟩; rw [HF.out])
      | (go_at_call 102; refine (reg_any _ _).mono ?_; rintro e w' ⟨rfl, rfl⟩))
    go_ret
    exact ⟨ret_bool (by first | exact HV.out.symm | (rw [HV.out]; exact decide_eq_false (by omega))), (Below.refl _ _).alloc (Nat.le_refl _) _⟩
  · have prd := regB_t hrd
    cases ha : regB a
    · have pa := regB_f ha
      have hv : mayB k rd a b imm = false := mayB_false (by have hf := HF.out; unfold MayP formImm; rw [hf]; omega)
      have HV := Lib.hid hv
      clear hv
      go_enter Tryd.func91, Tryd.ntmps91
      go_wp2_with (first
        | (go_at_call 66; refine (form_any _ _ hk).mono ?_; rintro e w' ⟨rfl, rfl⟩; rw [HF.out])
        | (go_at_call 102; refine (reg_any _ _).mono ?_; rintro e w' ⟨rfl, rfl⟩))
      go_ret
      exact ⟨ret_bool (by first | exact HV.out.symm | (rw [HV.out]; exact decide_eq_false (by omega))), (Below.refl _ _).alloc (Nat.le_refl _) _⟩
    · have pa := regB_t ha
      cases hb : regB b
      · have pb := regB_f hb
        have hv : mayB k rd a b imm = false := mayB_false (by have hf := HF.out; unfold MayP formImm; rw [hf]; omega)
        have HV := Lib.hid hv
        clear hv
        go_enter Tryd.func91, Tryd.ntmps91
        go_wp2_with (first
          | (go_at_call 66; refine (form_any _ _ hk).mono ?_; rintro e w' ⟨rfl, rfl⟩; rw [HF.out])
          | (go_at_call 102; refine (reg_any _ _).mono ?_; rintro e w' ⟨rfl, rfl⟩))
        go_ret
        exact ⟨ret_bool (by first | exact HV.out.symm | (rw [HV.out]; exact decide_eq_false (by omega))), (Below.refl _ _).alloc (Nat.le_refl _) _⟩
      · have pb := regB_t hb
        cases himm : (imm == 0)
        · have pimm := beq_eq_false_iff_ne.1 himm
          have hv : mayB k rd a b imm = false := mayB_false (by have hf := HF.out; unfold MayP formImm; rw [hf]; omega)
          clear pimm
          have HV := Lib.hid hv
          clear hv
          go_enter Tryd.func91, Tryd.ntmps91
          go_wp2_with (first
            | (go_at_call 66; refine (form_any _ _ hk).mono ?_; rintro e w' ⟨rfl, rfl⟩; rw [HF.out])
            | (go_at_call 102; refine (reg_any _ _).mono ?_; rintro e w' ⟨rfl, rfl⟩))
          go_ret
          exact ⟨ret_bool (by first | exact HV.out.symm | (rw [HV.out]; exact decide_eq_false (by omega))), (Below.refl _ _).alloc (Nat.le_refl _) _⟩
        · have pimm := beq_iff_eq.1 himm
          have Pimm := Lib.hid pimm
          clear pimm
          have hv : mayB k rd a b imm = true := mayB_true (by have hf := HF.out; have qimm := Pimm.out; unfold MayP formImm; rw [hf]; omega)
          have HV := Lib.hid hv
          clear hv
          go_enter Tryd.func91, Tryd.ntmps91
          go_wp2_with (first
            | (go_at_call 66; refine (form_any _ _ hk).mono ?_; rintro e w' ⟨rfl, rfl⟩; rw [HF.out])
            | (go_at_call 102; refine (reg_any _ _).mono ?_; rintro e w' ⟨rfl, rfl⟩))
          go_ret
          exact ⟨ret_bool (by first | exact HV.out.symm | (rw [HV.out]; exact decide_eq_false (by omega))), (Below.refl _ _).alloc (Nat.le_refl _) _⟩
set_option maxHeartbeats 2000000 in
theorem rmay_I {k : Int} {rd a b imm : Int} {w : World} (hk : 1 ≤ k ∧ k ≤ 31) (hf : formI k = 73) :
    Calls Tryd.prog 91 #[.agg #[.int .i64 k, .int .i64 rd, .int .i64 a, .int .i64 b, .int .i64 imm]] w fun e w' => e = .returned (.bool (mayB k rd a b imm)) ∧ Below w.heap.size w w' := by
  have HF := Lib.hid hf
  clear hf
  cases hrd : regB rd
  · have prd := regB_f hrd
    have hv : mayB k rd a b imm = false := mayB_false (by have hf := HF.out; unfold MayP formImm; rw [hf]; omega)
    have HV := Lib.hid hv
    clear hv
    go_enter Tryd.func91, Tryd.ntmps91
    go_wp2_with (first
      | (go_at_call 66; refine (form_any _ _ hk).mono ?_; rintro e w' ⟨rfl, rfl⟩; rw [HF.out])
      | (go_at_call 102; refine (reg_any _ _).mono ?_; rintro e w' ⟨rfl, rfl⟩))
    go_ret
    exact ⟨ret_bool (by first | exact HV.out.symm | (rw [HV.out]; exact decide_eq_false (by omega))), (Below.refl _ _).alloc (Nat.le_refl _) _⟩
  · have prd := regB_t hrd
    cases ha : regB a
    · have pa := regB_f ha
      have hv : mayB k rd a b imm = false := mayB_false (by have hf := HF.out; unfold MayP formImm; rw [hf]; omega)
      have HV := Lib.hid hv
      clear hv
      go_enter Tryd.func91, Tryd.ntmps91
      go_wp2_with (first
        | (go_at_call 66; refine (form_any _ _ hk).mono ?_; rintro e w' ⟨rfl, rfl⟩; rw [HF.out])
        | (go_at_call 102; refine (reg_any _ _).mono ?_; rintro e w' ⟨rfl, rfl⟩))
      go_ret
      exact ⟨ret_bool (by first | exact HV.out.symm | (rw [HV.out]; exact decide_eq_false (by omega))), (Below.refl _ _).alloc (Nat.le_refl _) _⟩
    · have pa := regB_t ha
      cases hb : (b == 0)
      · have pb := beq_eq_false_iff_ne.1 hb
        have hv : mayB k rd a b imm = false := mayB_false (by have hf := HF.out; unfold MayP formImm; rw [hf]; omega)
        clear pb
        have HV := Lib.hid hv
        clear hv
        go_enter Tryd.func91, Tryd.ntmps91
        go_wp2_with (first
          | (go_at_call 66; refine (form_any _ _ hk).mono ?_; rintro e w' ⟨rfl, rfl⟩; rw [HF.out])
          | (go_at_call 102; refine (reg_any _ _).mono ?_; rintro e w' ⟨rfl, rfl⟩))
        go_ret
        exact ⟨ret_bool (by first | exact HV.out.symm | (rw [HV.out]; exact decide_eq_false (by omega))), (Below.refl _ _).alloc (Nat.le_refl _) _⟩
      · have pb := beq_iff_eq.1 hb
        have Pb := Lib.hid pb
        clear pb
        by_cases hg : (-2048 : Int) ≤ imm
        case neg =>
          have hv : mayB k rd a b imm = false := mayB_false (by have hf := HF.out; unfold MayP formImm; rw [hf]; omega)
          have HV := Lib.hid hv
          clear hv
          go_enter Tryd.func91, Tryd.ntmps91
          go_wp2_with (first
            | (go_at_call 66; refine (form_any _ _ hk).mono ?_; rintro e w' ⟨rfl, rfl⟩; rw [HF.out])
            | (go_at_call 102; refine (reg_any _ _).mono ?_; rintro e w' ⟨rfl, rfl⟩))
          go_ret
          exact ⟨ret_bool (by first | exact HV.out.symm | (rw [HV.out]; exact decide_eq_false (by omega))), (Below.refl _ _).alloc (Nat.le_refl _) _⟩
        by_cases hl : imm ≤ 2047
        case neg =>
          have hv : mayB k rd a b imm = false := mayB_false (by have hf := HF.out; unfold MayP formImm; rw [hf]; omega)
          have HV := Lib.hid hv
          clear hv
          go_enter Tryd.func91, Tryd.ntmps91
          go_wp2_with (first
            | (go_at_call 66; refine (form_any _ _ hk).mono ?_; rintro e w' ⟨rfl, rfl⟩; rw [HF.out])
            | (go_at_call 102; refine (reg_any _ _).mono ?_; rintro e w' ⟨rfl, rfl⟩))
          go_ret
          exact ⟨ret_bool (by first | exact HV.out.symm | (rw [HV.out]; exact decide_eq_false (by omega))), (Below.refl _ _).alloc (Nat.le_refl _) _⟩
        have hv : mayB k rd a b imm = true := mayB_true (by have hf := HF.out; have qb := Pb.out; unfold MayP formImm; rw [hf]; omega)
        have HV := Lib.hid hv
        clear hv
        go_enter Tryd.func91, Tryd.ntmps91
        go_wp2_with (first
          | (go_at_call 66; refine (form_any _ _ hk).mono ?_; rintro e w' ⟨rfl, rfl⟩; rw [HF.out])
          | (go_at_call 102; refine (reg_any _ _).mono ?_; rintro e w' ⟨rfl, rfl⟩))
        go_ret
        exact ⟨ret_bool (by first | exact HV.out.symm | (rw [HV.out]; exact decide_eq_false (by omega))), (Below.refl _ _).alloc (Nat.le_refl _) _⟩
set_option maxHeartbeats 2000000 in
theorem rmay_H {k : Int} {rd a b imm : Int} {w : World} (hk : 1 ≤ k ∧ k ≤ 31) (hf : formI k = 72) :
    Calls Tryd.prog 91 #[.agg #[.int .i64 k, .int .i64 rd, .int .i64 a, .int .i64 b, .int .i64 imm]] w fun e w' => e = .returned (.bool (mayB k rd a b imm)) ∧ Below w.heap.size w w' := by
  have HF := Lib.hid hf
  clear hf
  cases hrd : regB rd
  · have prd := regB_f hrd
    have hv : mayB k rd a b imm = false := mayB_false (by have hf := HF.out; unfold MayP formImm; rw [hf]; omega)
    have HV := Lib.hid hv
    clear hv
    go_enter Tryd.func91, Tryd.ntmps91
    go_wp2_with (first
      | (go_at_call 66; refine (form_any _ _ hk).mono ?_; rintro e w' ⟨rfl, rfl⟩; rw [HF.out])
      | (go_at_call 102; refine (reg_any _ _).mono ?_; rintro e w' ⟨rfl, rfl⟩))
    go_ret
    exact ⟨ret_bool (by first | exact HV.out.symm | (rw [HV.out]; exact decide_eq_false (by omega))), (Below.refl _ _).alloc (Nat.le_refl _) _⟩
  · have prd := regB_t hrd
    cases ha : regB a
    · have pa := regB_f ha
      have hv : mayB k rd a b imm = false := mayB_false (by have hf := HF.out; unfold MayP formImm; rw [hf]; omega)
      have HV := Lib.hid hv
      clear hv
      go_enter Tryd.func91, Tryd.ntmps91
      go_wp2_with (first
        | (go_at_call 66; refine (form_any _ _ hk).mono ?_; rintro e w' ⟨rfl, rfl⟩; rw [HF.out])
        | (go_at_call 102; refine (reg_any _ _).mono ?_; rintro e w' ⟨rfl, rfl⟩))
      go_ret
      exact ⟨ret_bool (by first | exact HV.out.symm | (rw [HV.out]; exact decide_eq_false (by omega))), (Below.refl _ _).alloc (Nat.le_refl _) _⟩
    · have pa := regB_t ha
      cases hb : (b == 0)
      · have pb := beq_eq_false_iff_ne.1 hb
        have hv : mayB k rd a b imm = false := mayB_false (by have hf := HF.out; unfold MayP formImm; rw [hf]; omega)
        clear pb
        have HV := Lib.hid hv
        clear hv
        go_enter Tryd.func91, Tryd.ntmps91
        go_wp2_with (first
          | (go_at_call 66; refine (form_any _ _ hk).mono ?_; rintro e w' ⟨rfl, rfl⟩; rw [HF.out])
          | (go_at_call 102; refine (reg_any _ _).mono ?_; rintro e w' ⟨rfl, rfl⟩))
        go_ret
        exact ⟨ret_bool (by first | exact HV.out.symm | (rw [HV.out]; exact decide_eq_false (by omega))), (Below.refl _ _).alloc (Nat.le_refl _) _⟩
      · have pb := beq_iff_eq.1 hb
        have Pb := Lib.hid pb
        clear pb
        by_cases hg : (0 : Int) ≤ imm
        case neg =>
          have hv : mayB k rd a b imm = false := mayB_false (by have hf := HF.out; unfold MayP formImm; rw [hf]; omega)
          have HV := Lib.hid hv
          clear hv
          go_enter Tryd.func91, Tryd.ntmps91
          go_wp2_with (first
            | (go_at_call 66; refine (form_any _ _ hk).mono ?_; rintro e w' ⟨rfl, rfl⟩; rw [HF.out])
            | (go_at_call 102; refine (reg_any _ _).mono ?_; rintro e w' ⟨rfl, rfl⟩))
          go_ret
          exact ⟨ret_bool (by first | exact HV.out.symm | (rw [HV.out]; exact decide_eq_false (by omega))), (Below.refl _ _).alloc (Nat.le_refl _) _⟩
        by_cases hl : imm ≤ 63
        case neg =>
          have hv : mayB k rd a b imm = false := mayB_false (by have hf := HF.out; unfold MayP formImm; rw [hf]; omega)
          have HV := Lib.hid hv
          clear hv
          go_enter Tryd.func91, Tryd.ntmps91
          go_wp2_with (first
            | (go_at_call 66; refine (form_any _ _ hk).mono ?_; rintro e w' ⟨rfl, rfl⟩; rw [HF.out])
            | (go_at_call 102; refine (reg_any _ _).mono ?_; rintro e w' ⟨rfl, rfl⟩))
          go_ret
          exact ⟨ret_bool (by first | exact HV.out.symm | (rw [HV.out]; exact decide_eq_false (by omega))), (Below.refl _ _).alloc (Nat.le_refl _) _⟩
        have hv : mayB k rd a b imm = true := mayB_true (by have hf := HF.out; have qb := Pb.out; unfold MayP formImm; rw [hf]; omega)
        have HV := Lib.hid hv
        clear hv
        go_enter Tryd.func91, Tryd.ntmps91
        go_wp2_with (first
          | (go_at_call 66; refine (form_any _ _ hk).mono ?_; rintro e w' ⟨rfl, rfl⟩; rw [HF.out])
          | (go_at_call 102; refine (reg_any _ _).mono ?_; rintro e w' ⟨rfl, rfl⟩))
        go_ret
        exact ⟨ret_bool (by first | exact HV.out.symm | (rw [HV.out]; exact decide_eq_false (by omega))), (Below.refl _ _).alloc (Nat.le_refl _) _⟩
set_option maxHeartbeats 2000000 in
theorem rmay_S {k : Int} {rd a b imm : Int} {w : World} (hk : 1 ≤ k ∧ k ≤ 31) (hf : formI k = 83) :
    Calls Tryd.prog 91 #[.agg #[.int .i64 k, .int .i64 rd, .int .i64 a, .int .i64 b, .int .i64 imm]] w fun e w' => e = .returned (.bool (mayB k rd a b imm)) ∧ Below w.heap.size w w' := by
  have HF := Lib.hid hf
  clear hf
  cases ha : regB a
  · have pa := regB_f ha
    have hv : mayB k rd a b imm = false := mayB_false (by have hf := HF.out; unfold MayP formImm; rw [hf]; omega)
    have HV := Lib.hid hv
    clear hv
    go_enter Tryd.func91, Tryd.ntmps91
    go_wp2_with (first
      | (go_at_call 66; refine (form_any _ _ hk).mono ?_; rintro e w' ⟨rfl, rfl⟩; rw [HF.out])
      | (go_at_call 102; refine (reg_any _ _).mono ?_; rintro e w' ⟨rfl, rfl⟩))
    go_ret
    exact ⟨ret_bool (by first | exact HV.out.symm | (rw [HV.out]; exact decide_eq_false (by omega))), (Below.refl _ _).alloc (Nat.le_refl _) _⟩
  · have pa := regB_t ha
    cases hb : regB b
    · have pb := regB_f hb
      have hv : mayB k rd a b imm = false := mayB_false (by have hf := HF.out; unfold MayP formImm; rw [hf]; omega)
      have HV := Lib.hid hv
      clear hv
      go_enter Tryd.func91, Tryd.ntmps91
      go_wp2_with (first
        | (go_at_call 66; refine (form_any _ _ hk).mono ?_; rintro e w' ⟨rfl, rfl⟩; rw [HF.out])
        | (go_at_call 102; refine (reg_any _ _).mono ?_; rintro e w' ⟨rfl, rfl⟩))
      go_ret
      exact ⟨ret_bool (by first | exact HV.out.symm | (rw [HV.out]; exact decide_eq_false (by omega))), (Below.refl _ _).alloc (Nat.le_refl _) _⟩
    · have pb := regB_t hb
      cases hrd : (rd == 0)
      · have prd := beq_eq_false_iff_ne.1 hrd
        have hv : mayB k rd a b imm = false := mayB_false (by have hf := HF.out; unfold MayP formImm; rw [hf]; omega)
        clear prd
        have HV := Lib.hid hv
        clear hv
        go_enter Tryd.func91, Tryd.ntmps91
        go_wp2_with (first
          | (go_at_call 66; refine (form_any _ _ hk).mono ?_; rintro e w' ⟨rfl, rfl⟩; rw [HF.out])
          | (go_at_call 102; refine (reg_any _ _).mono ?_; rintro e w' ⟨rfl, rfl⟩))
        go_ret
        exact ⟨ret_bool (by first | exact HV.out.symm | (rw [HV.out]; exact decide_eq_false (by omega))), (Below.refl _ _).alloc (Nat.le_refl _) _⟩
      · have prd := beq_iff_eq.1 hrd
        have Prd := Lib.hid prd
        clear prd
        by_cases hg : (-2048 : Int) ≤ imm
        case neg =>
          have hv : mayB k rd a b imm = false := mayB_false (by have hf := HF.out; unfold MayP formImm; rw [hf]; omega)
          have HV := Lib.hid hv
          clear hv
          go_enter Tryd.func91, Tryd.ntmps91
          go_wp2_with (first
            | (go_at_call 66; refine (form_any _ _ hk).mono ?_; rintro e w' ⟨rfl, rfl⟩; rw [HF.out])
            | (go_at_call 102; refine (reg_any _ _).mono ?_; rintro e w' ⟨rfl, rfl⟩))
          go_ret
          exact ⟨ret_bool (by first | exact HV.out.symm | (rw [HV.out]; exact decide_eq_false (by omega))), (Below.refl _ _).alloc (Nat.le_refl _) _⟩
        by_cases hl : imm ≤ 2047
        case neg =>
          have hv : mayB k rd a b imm = false := mayB_false (by have hf := HF.out; unfold MayP formImm; rw [hf]; omega)
          have HV := Lib.hid hv
          clear hv
          go_enter Tryd.func91, Tryd.ntmps91
          go_wp2_with (first
            | (go_at_call 66; refine (form_any _ _ hk).mono ?_; rintro e w' ⟨rfl, rfl⟩; rw [HF.out])
            | (go_at_call 102; refine (reg_any _ _).mono ?_; rintro e w' ⟨rfl, rfl⟩))
          go_ret
          exact ⟨ret_bool (by first | exact HV.out.symm | (rw [HV.out]; exact decide_eq_false (by omega))), (Below.refl _ _).alloc (Nat.le_refl _) _⟩
        have hv : mayB k rd a b imm = true := mayB_true (by have hf := HF.out; have qrd := Prd.out; unfold MayP formImm; rw [hf]; omega)
        have HV := Lib.hid hv
        clear hv
        go_enter Tryd.func91, Tryd.ntmps91
        go_wp2_with (first
          | (go_at_call 66; refine (form_any _ _ hk).mono ?_; rintro e w' ⟨rfl, rfl⟩; rw [HF.out])
          | (go_at_call 102; refine (reg_any _ _).mono ?_; rintro e w' ⟨rfl, rfl⟩))
        go_ret
        exact ⟨ret_bool (by first | exact HV.out.symm | (rw [HV.out]; exact decide_eq_false (by omega))), (Below.refl _ _).alloc (Nat.le_refl _) _⟩
set_option maxHeartbeats 2000000 in
theorem rmay_B {k : Int} {rd a b imm : Int} {w : World} (hk : 1 ≤ k ∧ k ≤ 31) (hf : formI k = 66) :
    Calls Tryd.prog 91 #[.agg #[.int .i64 k, .int .i64 rd, .int .i64 a, .int .i64 b, .int .i64 imm]] w fun e w' => e = .returned (.bool (mayB k rd a b imm)) ∧ Below w.heap.size w w' := by
  have HF := Lib.hid hf
  clear hf
  cases ha : regB a
  · have pa := regB_f ha
    have hv : mayB k rd a b imm = false := mayB_false (by have hf := HF.out; unfold MayP formImm; rw [hf]; omega)
    have HV := Lib.hid hv
    clear hv
    go_enter Tryd.func91, Tryd.ntmps91
    go_wp2_with (first
      | (go_at_call 66; refine (form_any _ _ hk).mono ?_; rintro e w' ⟨rfl, rfl⟩; rw [HF.out])
      | (go_at_call 102; refine (reg_any _ _).mono ?_; rintro e w' ⟨rfl, rfl⟩))
    go_ret
    exact ⟨ret_bool (by first | exact HV.out.symm | (rw [HV.out]; exact decide_eq_false (by omega))), (Below.refl _ _).alloc (Nat.le_refl _) _⟩
  · have pa := regB_t ha
    cases hb : regB b
    · have pb := regB_f hb
      have hv : mayB k rd a b imm = false := mayB_false (by have hf := HF.out; unfold MayP formImm; rw [hf]; omega)
      have HV := Lib.hid hv
      clear hv
      go_enter Tryd.func91, Tryd.ntmps91
      go_wp2_with (first
        | (go_at_call 66; refine (form_any _ _ hk).mono ?_; rintro e w' ⟨rfl, rfl⟩; rw [HF.out])
        | (go_at_call 102; refine (reg_any _ _).mono ?_; rintro e w' ⟨rfl, rfl⟩))
      go_ret
      exact ⟨ret_bool (by first | exact HV.out.symm | (rw [HV.out]; exact decide_eq_false (by omega))), (Below.refl _ _).alloc (Nat.le_refl _) _⟩
    · have pb := regB_t hb
      cases hrd : (rd == 0)
      · have prd := beq_eq_false_iff_ne.1 hrd
        have hv : mayB k rd a b imm = false := mayB_false (by have hf := HF.out; unfold MayP formImm; rw [hf]; omega)
        clear prd
        have HV := Lib.hid hv
        clear hv
        go_enter Tryd.func91, Tryd.ntmps91
        go_wp2_with (first
          | (go_at_call 66; refine (form_any _ _ hk).mono ?_; rintro e w' ⟨rfl, rfl⟩; rw [HF.out])
          | (go_at_call 102; refine (reg_any _ _).mono ?_; rintro e w' ⟨rfl, rfl⟩))
        go_ret
        exact ⟨ret_bool (by first | exact HV.out.symm | (rw [HV.out]; exact decide_eq_false (by omega))), (Below.refl _ _).alloc (Nat.le_refl _) _⟩
      · have prd := beq_iff_eq.1 hrd
        have Prd := Lib.hid prd
        clear prd
        by_cases hg : (-4096 : Int) ≤ imm
        case neg =>
          have hv : mayB k rd a b imm = false := mayB_false (by have hf := HF.out; unfold MayP formImm; rw [hf]; omega)
          have HV := Lib.hid hv
          clear hv
          go_enter Tryd.func91, Tryd.ntmps91
          go_wp2_with (first
            | (go_at_call 66; refine (form_any _ _ hk).mono ?_; rintro e w' ⟨rfl, rfl⟩; rw [HF.out])
            | (go_at_call 102; refine (reg_any _ _).mono ?_; rintro e w' ⟨rfl, rfl⟩))
          go_ret
          exact ⟨ret_bool (by first | exact HV.out.symm | (rw [HV.out]; exact decide_eq_false (by omega))), (Below.refl _ _).alloc (Nat.le_refl _) _⟩
        by_cases hl : imm ≤ 4094
        case neg =>
          have hv : mayB k rd a b imm = false := mayB_false (by have hf := HF.out; unfold MayP formImm; rw [hf]; omega)
          have HV := Lib.hid hv
          clear hv
          go_enter Tryd.func91, Tryd.ntmps91
          go_wp2_with (first
            | (go_at_call 66; refine (form_any _ _ hk).mono ?_; rintro e w' ⟨rfl, rfl⟩; rw [HF.out])
            | (go_at_call 102; refine (reg_any _ _).mono ?_; rintro e w' ⟨rfl, rfl⟩))
          go_ret
          exact ⟨ret_bool (by first | exact HV.out.symm | (rw [HV.out]; exact decide_eq_false (by omega))), (Below.refl _ _).alloc (Nat.le_refl _) _⟩
        cases hm : (imm.tmod 2 == 0)
        · have pm := tmod_f (by decide) hm
          have hv : mayB k rd a b imm = false := mayB_false (by have hf := HF.out; unfold MayP formImm; rw [hf]; omega)
          clear pm
          have HV := Lib.hid hv
          clear hv
          go_enter Tryd.func91, Tryd.ntmps91
          go_wp2_with (first
            | (go_at_call 66; refine (form_any _ _ hk).mono ?_; rintro e w' ⟨rfl, rfl⟩; rw [HF.out])
            | (go_at_call 102; refine (reg_any _ _).mono ?_; rintro e w' ⟨rfl, rfl⟩))
          go_ret
          exact ⟨ret_bool (by first | exact HV.out.symm | (rw [HV.out]; exact decide_eq_false (by omega))), (Below.refl _ _).alloc (Nat.le_refl _) _⟩
        · have pm := tmod_t (by decide) hm
          have Pm := Lib.hid pm
          clear pm
          have hv : mayB k rd a b imm = true := mayB_true (by have hf := HF.out; have qrd := Prd.out; have qm := Pm.out; unfold MayP formImm; rw [hf]; omega)
          have HV := Lib.hid hv
          clear hv
          go_enter Tryd.func91, Tryd.ntmps91
          go_wp2_with (first
            | (go_at_call 66; refine (form_any _ _ hk).mono ?_; rintro e w' ⟨rfl, rfl⟩; rw [HF.out])
            | (go_at_call 102; refine (reg_any _ _).mono ?_; rintro e w' ⟨rfl, rfl⟩))
          go_ret
          exact ⟨ret_bool (by first | exact HV.out.symm | (rw [HV.out]; exact decide_eq_false (by omega))), (Below.refl _ _).alloc (Nat.le_refl _) _⟩
set_option maxHeartbeats 2000000 in
theorem rmay_U {k : Int} {rd a b imm : Int} {w : World} (hk : 1 ≤ k ∧ k ≤ 31) (hf : formI k = 85) :
    Calls Tryd.prog 91 #[.agg #[.int .i64 k, .int .i64 rd, .int .i64 a, .int .i64 b, .int .i64 imm]] w fun e w' => e = .returned (.bool (mayB k rd a b imm)) ∧ Below w.heap.size w w' := by
  have HF := Lib.hid hf
  clear hf
  cases hrd : regB rd
  · have prd := regB_f hrd
    have hv : mayB k rd a b imm = false := mayB_false (by have hf := HF.out; unfold MayP formImm; rw [hf]; omega)
    have HV := Lib.hid hv
    clear hv
    go_enter Tryd.func91, Tryd.ntmps91
    go_wp2_with (first
      | (go_at_call 66; refine (form_any _ _ hk).mono ?_; rintro e w' ⟨rfl, rfl⟩; rw [HF.out])
      | (go_at_call 102; refine (reg_any _ _).mono ?_; rintro e w' ⟨rfl, rfl⟩))
    go_ret
    exact ⟨ret_bool (by first | exact HV.out.symm | (rw [HV.out]; exact decide_eq_false (by omega))), (Below.refl _ _).alloc (Nat.le_refl _) _⟩
  · have prd := regB_t hrd
    cases ha : (a == 0)
    · have pa := beq_eq_false_iff_ne.1 ha
      have hv : mayB k rd a b imm = false := mayB_false (by have hf := HF.out; unfold MayP formImm; rw [hf]; omega)
      clear pa
      have HV := Lib.hid hv
      clear hv
      go_enter Tryd.func91, Tryd.ntmps91
      go_wp2_with (first
        | (go_at_call 66; refine (form_any _ _ hk).mono ?_; rintro e w' ⟨rfl, rfl⟩; rw [HF.out])
        | (go_at_call 102; refine (reg_any _ _).mono ?_; rintro e w' ⟨rfl, rfl⟩))
      go_ret
      exact ⟨ret_bool (by first | exact HV.out.symm | (rw [HV.out]; exact decide_eq_false (by omega))), (Below.refl _ _).alloc (Nat.le_refl _) _⟩
    · have pa := beq_iff_eq.1 ha
      have Pa := Lib.hid pa
      clear pa
      cases hb : (b == 0)
      · have pb := beq_eq_false_iff_ne.1 hb
        have hv : mayB k rd a b imm = false := mayB_false (by have hf := HF.out; unfold MayP formImm; rw [hf]; omega)
        clear pb
        have HV := Lib.hid hv
        clear hv
        go_enter Tryd.func91, Tryd.ntmps91
        go_wp2_with (first
          | (go_at_call 66; refine (form_any _ _ hk).mono ?_; rintro e w' ⟨rfl, rfl⟩; rw [HF.out])
          | (go_at_call 102; refine (reg_any _ _).mono ?_; rintro e w' ⟨rfl, rfl⟩))
        go_ret
        exact ⟨ret_bool (by first | exact HV.out.symm | (rw [HV.out]; exact decide_eq_false (by omega))), (Below.refl _ _).alloc (Nat.le_refl _) _⟩
      · have pb := beq_iff_eq.1 hb
        have Pb := Lib.hid pb
        clear pb
        by_cases hg : (-2147483648 : Int) ≤ imm
        case neg =>
          have hv : mayB k rd a b imm = false := mayB_false (by have hf := HF.out; unfold MayP formImm; rw [hf]; omega)
          have HV := Lib.hid hv
          clear hv
          go_enter Tryd.func91, Tryd.ntmps91
          go_wp2_with (first
            | (go_at_call 66; refine (form_any _ _ hk).mono ?_; rintro e w' ⟨rfl, rfl⟩; rw [HF.out])
            | (go_at_call 102; refine (reg_any _ _).mono ?_; rintro e w' ⟨rfl, rfl⟩))
          go_ret
          exact ⟨ret_bool (by first | exact HV.out.symm | (rw [HV.out]; exact decide_eq_false (by omega))), (Below.refl _ _).alloc (Nat.le_refl _) _⟩
        by_cases hl : imm ≤ 2147479552
        case neg =>
          have hv : mayB k rd a b imm = false := mayB_false (by have hf := HF.out; unfold MayP formImm; rw [hf]; omega)
          have HV := Lib.hid hv
          clear hv
          go_enter Tryd.func91, Tryd.ntmps91
          go_wp2_with (first
            | (go_at_call 66; refine (form_any _ _ hk).mono ?_; rintro e w' ⟨rfl, rfl⟩; rw [HF.out])
            | (go_at_call 102; refine (reg_any _ _).mono ?_; rintro e w' ⟨rfl, rfl⟩))
          go_ret
          exact ⟨ret_bool (by first | exact HV.out.symm | (rw [HV.out]; exact decide_eq_false (by omega))), (Below.refl _ _).alloc (Nat.le_refl _) _⟩
        cases hm : (imm.tmod 4096 == 0)
        · have pm := tmod_f (by decide) hm
          have hv : mayB k rd a b imm = false := mayB_false (by have hf := HF.out; unfold MayP formImm; rw [hf]; omega)
          clear pm
          have HV := Lib.hid hv
          clear hv
          go_enter Tryd.func91, Tryd.ntmps91
          go_wp2_with (first
            | (go_at_call 66; refine (form_any _ _ hk).mono ?_; rintro e w' ⟨rfl, rfl⟩; rw [HF.out])
            | (go_at_call 102; refine (reg_any _ _).mono ?_; rintro e w' ⟨rfl, rfl⟩))
          go_ret
          exact ⟨ret_bool (by first | exact HV.out.symm | (rw [HV.out]; exact decide_eq_false (by omega))), (Below.refl _ _).alloc (Nat.le_refl _) _⟩
        · have pm := tmod_t (by decide) hm
          have Pm := Lib.hid pm
          clear pm
          have hv : mayB k rd a b imm = true := mayB_true (by have hf := HF.out; have qa := Pa.out; have qb := Pb.out; have qm := Pm.out; unfold MayP formImm; rw [hf]; omega)
          have HV := Lib.hid hv
          clear hv
          go_enter Tryd.func91, Tryd.ntmps91
          go_wp2_with (first
            | (go_at_call 66; refine (form_any _ _ hk).mono ?_; rintro e w' ⟨rfl, rfl⟩; rw [HF.out])
            | (go_at_call 102; refine (reg_any _ _).mono ?_; rintro e w' ⟨rfl, rfl⟩))
          go_ret
          exact ⟨ret_bool (by first | exact HV.out.symm | (rw [HV.out]; exact decide_eq_false (by omega))), (Below.refl _ _).alloc (Nat.le_refl _) _⟩
set_option maxHeartbeats 2000000 in
theorem rmay_J {k : Int} {rd a b imm : Int} {w : World} (hk : 1 ≤ k ∧ k ≤ 31) (hf : formI k = 74) :
    Calls Tryd.prog 91 #[.agg #[.int .i64 k, .int .i64 rd, .int .i64 a, .int .i64 b, .int .i64 imm]] w fun e w' => e = .returned (.bool (mayB k rd a b imm)) ∧ Below w.heap.size w w' := by
  have HF := Lib.hid hf
  clear hf
  cases hrd : regB rd
  · have prd := regB_f hrd
    have hv : mayB k rd a b imm = false := mayB_false (by have hf := HF.out; unfold MayP formImm; rw [hf]; omega)
    have HV := Lib.hid hv
    clear hv
    go_enter Tryd.func91, Tryd.ntmps91
    go_wp2_with (first
      | (go_at_call 66; refine (form_any _ _ hk).mono ?_; rintro e w' ⟨rfl, rfl⟩; rw [HF.out])
      | (go_at_call 102; refine (reg_any _ _).mono ?_; rintro e w' ⟨rfl, rfl⟩))
    go_ret
    exact ⟨ret_bool (by first | exact HV.out.symm | (rw [HV.out]; exact decide_eq_false (by omega))), (Below.refl _ _).alloc (Nat.le_refl _) _⟩
  · have prd := regB_t hrd
    cases ha : (a == 0)
    · have pa := beq_eq_false_iff_ne.1 ha
      have hv : mayB k rd a b imm = false := mayB_false (by have hf := HF.out; unfold MayP formImm; rw [hf]; omega)
      clear pa
      have HV := Lib.hid hv
      clear hv
      go_enter Tryd.func91, Tryd.ntmps91
      go_wp2_with (first
        | (go_at_call 66; refine (form_any _ _ hk).mono ?_; rintro e w' ⟨rfl, rfl⟩; rw [HF.out])
        | (go_at_call 102; refine (reg_any _ _).mono ?_; rintro e w' ⟨rfl, rfl⟩))
      go_ret
      exact ⟨ret_bool (by first | exact HV.out.symm | (rw [HV.out]; exact decide_eq_false (by omega))), (Below.refl _ _).alloc (Nat.le_refl _) _⟩
    · have pa := beq_iff_eq.1 ha
      have Pa := Lib.hid pa
      clear pa
      cases hb : (b == 0)
      · have pb := beq_eq_false_iff_ne.1 hb
        have hv : mayB k rd a b imm = false := mayB_false (by have hf := HF.out; unfold MayP formImm; rw [hf]; omega)
        clear pb
        have HV := Lib.hid hv
        clear hv
        go_enter Tryd.func91, Tryd.ntmps91
        go_wp2_with (first
          | (go_at_call 66; refine (form_any _ _ hk).mono ?_; rintro e w' ⟨rfl, rfl⟩; rw [HF.out])
          | (go_at_call 102; refine (reg_any _ _).mono ?_; rintro e w' ⟨rfl, rfl⟩))
        go_ret
        exact ⟨ret_bool (by first | exact HV.out.symm | (rw [HV.out]; exact decide_eq_false (by omega))), (Below.refl _ _).alloc (Nat.le_refl _) _⟩
      · have pb := beq_iff_eq.1 hb
        have Pb := Lib.hid pb
        clear pb
        by_cases hg : (-1048576 : Int) ≤ imm
        case neg =>
          have hv : mayB k rd a b imm = false := mayB_false (by have hf := HF.out; unfold MayP formImm; rw [hf]; omega)
          have HV := Lib.hid hv
          clear hv
          go_enter Tryd.func91, Tryd.ntmps91
          go_wp2_with (first
            | (go_at_call 66; refine (form_any _ _ hk).mono ?_; rintro e w' ⟨rfl, rfl⟩; rw [HF.out])
            | (go_at_call 102; refine (reg_any _ _).mono ?_; rintro e w' ⟨rfl, rfl⟩))
          go_ret
          exact ⟨ret_bool (by first | exact HV.out.symm | (rw [HV.out]; exact decide_eq_false (by omega))), (Below.refl _ _).alloc (Nat.le_refl _) _⟩
        by_cases hl : imm ≤ 1048574
        case neg =>
          have hv : mayB k rd a b imm = false := mayB_false (by have hf := HF.out; unfold MayP formImm; rw [hf]; omega)
          have HV := Lib.hid hv
          clear hv
          go_enter Tryd.func91, Tryd.ntmps91
          go_wp2_with (first
            | (go_at_call 66; refine (form_any _ _ hk).mono ?_; rintro e w' ⟨rfl, rfl⟩; rw [HF.out])
            | (go_at_call 102; refine (reg_any _ _).mono ?_; rintro e w' ⟨rfl, rfl⟩))
          go_ret
          exact ⟨ret_bool (by first | exact HV.out.symm | (rw [HV.out]; exact decide_eq_false (by omega))), (Below.refl _ _).alloc (Nat.le_refl _) _⟩
        cases hm : (imm.tmod 2 == 0)
        · have pm := tmod_f (by decide) hm
          have hv : mayB k rd a b imm = false := mayB_false (by have hf := HF.out; unfold MayP formImm; rw [hf]; omega)
          clear pm
          have HV := Lib.hid hv
          clear hv
          go_enter Tryd.func91, Tryd.ntmps91
          go_wp2_with (first
            | (go_at_call 66; refine (form_any _ _ hk).mono ?_; rintro e w' ⟨rfl, rfl⟩; rw [HF.out])
            | (go_at_call 102; refine (reg_any _ _).mono ?_; rintro e w' ⟨rfl, rfl⟩))
          go_ret
          exact ⟨ret_bool (by first | exact HV.out.symm | (rw [HV.out]; exact decide_eq_false (by omega))), (Below.refl _ _).alloc (Nat.le_refl _) _⟩
        · have pm := tmod_t (by decide) hm
          have Pm := Lib.hid pm
          clear pm
          have hv : mayB k rd a b imm = true := mayB_true (by have hf := HF.out; have qa := Pa.out; have qb := Pb.out; have qm := Pm.out; unfold MayP formImm; rw [hf]; omega)
          have HV := Lib.hid hv
          clear hv
          go_enter Tryd.func91, Tryd.ntmps91
          go_wp2_with (first
            | (go_at_call 66; refine (form_any _ _ hk).mono ?_; rintro e w' ⟨rfl, rfl⟩; rw [HF.out])
            | (go_at_call 102; refine (reg_any _ _).mono ?_; rintro e w' ⟨rfl, rfl⟩))
          go_ret
          exact ⟨ret_bool (by first | exact HV.out.symm | (rw [HV.out]; exact decide_eq_false (by omega))), (Below.refl _ _).alloc (Nat.le_refl _) _⟩
set_option maxHeartbeats 2000000 in
theorem rmay_E {k : Int} {rd a b imm : Int} {w : World} (hk : 1 ≤ k ∧ k ≤ 31) (hf : formI k = 69) :
    Calls Tryd.prog 91 #[.agg #[.int .i64 k, .int .i64 rd, .int .i64 a, .int .i64 b, .int .i64 imm]] w fun e w' => e = .returned (.bool (mayB k rd a b imm)) ∧ Below w.heap.size w w' := by
  have HF := Lib.hid hf
  clear hf
  cases hrd : (rd == 0)
  · have prd := beq_eq_false_iff_ne.1 hrd
    have hv : mayB k rd a b imm = false := mayB_false (by have hf := HF.out; unfold MayP formImm; rw [hf]; omega)
    clear prd
    have HV := Lib.hid hv
    clear hv
    go_enter Tryd.func91, Tryd.ntmps91
    go_wp2_with (first
      | (go_at_call 66; refine (form_any _ _ hk).mono ?_; rintro e w' ⟨rfl, rfl⟩; rw [HF.out])
      | (go_at_call 102; refine (reg_any _ _).mono ?_; rintro e w' ⟨rfl, rfl⟩))
    go_ret
    exact ⟨ret_bool (by first | exact HV.out.symm | (rw [HV.out]; exact decide_eq_false (by omega))), (Below.refl _ _).alloc (Nat.le_refl _) _⟩
  · have prd := beq_iff_eq.1 hrd
    have Prd := Lib.hid prd
    clear prd
    cases ha : (a == 0)
    · have pa := beq_eq_false_iff_ne.1 ha
      have hv : mayB k rd a b imm = false := mayB_false (by have hf := HF.out; unfold MayP formImm; rw [hf]; omega)
      clear pa
      have HV := Lib.hid hv
      clear hv
      go_enter Tryd.func91, Tryd.ntmps91
      go_wp2_with (first
        | (go_at_call 66; refine (form_any _ _ hk).mono ?_; rintro e w' ⟨rfl, rfl⟩; rw [HF.out])
        | (go_at_call 102; refine (reg_any _ _).mono ?_; rintro e w' ⟨rfl, rfl⟩))
      go_ret
      exact ⟨ret_bool (by first | exact HV.out.symm | (rw [HV.out]; exact decide_eq_false (by omega))), (Below.refl _ _).alloc (Nat.le_refl _) _⟩
    · have pa := beq_iff_eq.1 ha
      have Pa := Lib.hid pa
      clear pa
      cases hb : (b == 0)
      · have pb := beq_eq_false_iff_ne.1 hb
        have hv : mayB k rd a b imm = false := mayB_false (by have hf := HF.out; unfold MayP formImm; rw [hf]; omega)
        clear pb
        have HV := Lib.hid hv
        clear hv
        go_enter Tryd.func91, Tryd.ntmps91
        go_wp2_with (first
          | (go_at_call 66; refine (form_any _ _ hk).mono ?_; rintro e w' ⟨rfl, rfl⟩; rw [HF.out])
          | (go_at_call 102; refine (reg_any _ _).mono ?_; rintro e w' ⟨rfl, rfl⟩))
        go_ret
        exact ⟨ret_bool (by first | exact HV.out.symm | (rw [HV.out]; exact decide_eq_false (by omega))), (Below.refl _ _).alloc (Nat.le_refl _) _⟩
      · have pb := beq_iff_eq.1 hb
        have Pb := Lib.hid pb
        clear pb
        cases himm : (imm == 0)
        · have pimm := beq_eq_false_iff_ne.1 himm
          have hv : mayB k rd a b imm = false := mayB_false (by have hf := HF.out; unfold MayP formImm; rw [hf]; omega)
          clear pimm
          have HV := Lib.hid hv
          clear hv
          go_enter Tryd.func91, Tryd.ntmps91
          go_wp2_with (first
            | (go_at_call 66; refine (form_any _ _ hk).mono ?_; rintro e w' ⟨rfl, rfl⟩; rw [HF.out])
            | (go_at_call 102; refine (reg_any _ _).mono ?_; rintro e w' ⟨rfl, rfl⟩))
          go_ret
          exact ⟨ret_bool (by first | exact HV.out.symm | (rw [HV.out]; exact decide_eq_false (by omega))), (Below.refl _ _).alloc (Nat.le_refl _) _⟩
        · have pimm := beq_iff_eq.1 himm
          have Pimm := Lib.hid pimm
          clear pimm
          have hv : mayB k rd a b imm = true := mayB_true (by have hf := HF.out; have qrd := Prd.out; have qa := Pa.out; have qb := Pb.out; have qimm := Pimm.out; unfold MayP formImm; rw [hf]; omega)
          have HV := Lib.hid hv
          clear hv
          go_enter Tryd.func91, Tryd.ntmps91
          go_wp2_with (first
            | (go_at_call 66; refine (form_any _ _ hk).mono ?_; rintro e w' ⟨rfl, rfl⟩; rw [HF.out])
            | (go_at_call 102; refine (reg_any _ _).mono ?_; rintro e w' ⟨rfl, rfl⟩))
          go_ret
          exact ⟨ret_bool (by first | exact HV.out.symm | (rw [HV.out]; exact decide_eq_false (by omega))), (Below.refl _ _).alloc (Nat.le_refl _) _⟩
theorem rmay_any (k rd a b imm : Int) (w : World) :
    Calls Tryd.prog 91 #[.agg #[.int .i64 k, .int .i64 rd, .int .i64 a, .int .i64 b, .int .i64 imm]] w fun e w' => e = .returned (.bool (mayB k rd a b imm)) ∧ Below w.heap.size w w' := by
  by_cases c1 : k < 1
  · rw [mayB_false (fun hm => by have := hm.1; omega)]
    go_enter Tryd.func91, Tryd.ntmps91
    go_wp2
    go_ret
    exact ⟨rfl, (Below.refl _ _).alloc (Nat.le_refl _) _⟩
  · by_cases c2 : 31 < k
    · rw [mayB_false (fun hm => by have := hm.2.1; omega)]
      go_enter Tryd.func91, Tryd.ntmps91
      go_wp2
      go_ret
      exact ⟨rfl, (Below.refl _ _).alloc (Nat.le_refl _) _⟩
    · rcases formI_cases k with hf | hf | hf | hf | hf | hf | hf | hf
      · exact rmay_R ⟨by omega, by omega⟩ hf
      · exact rmay_I ⟨by omega, by omega⟩ hf
      · exact rmay_H ⟨by omega, by omega⟩ hf
      · exact rmay_S ⟨by omega, by omega⟩ hf
      · exact rmay_B ⟨by omega, by omega⟩ hf
      · exact rmay_U ⟨by omega, by omega⟩ hf
      · exact rmay_J ⟨by omega, by omega⟩ hf
      · exact rmay_E ⟨by omega, by omega⟩ hf
end Go.Proofs.YtajhehmkdlebbaaDoor
