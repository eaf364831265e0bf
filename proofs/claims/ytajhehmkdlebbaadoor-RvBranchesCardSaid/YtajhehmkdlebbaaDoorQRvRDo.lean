/- The reference's reckoning. -/
import Derived.Test.YtajhehmkdlebbaaDoorQRvDoes
namespace Go.Proofs.YtajhehmkdlebbaaDoor
open Go.ChangeShapes Go.WideShapes Go.ChangeAt Go.RowKit Go.Deep
set_option maxRecDepth 100000
theorem quo_pow (b : Int) (hb : U64 b) : (2 : Int) ^ (b % 64).toNat ≠ 0 := by have := pow64_bd (b % 64).toNat (by have := hb.1; omega); omega
set_option maxHeartbeats 1000000 in
theorem rreckon1 (a b : Int) (w : World) (ha : U64 a) (hb : U64 b) :
    Calls Tryd.prog 39 #[.int .i64 1, .int .u64 a, .int .u64 b] w fun e w' => e = .returned (.int .u64 (reckonF 1 a b)) ∧ w = w' := by
  obtain ⟨ha0, ha1⟩ := ha
  obtain ⟨hb0, hb1⟩ := hb
  go_enter Tryd.func39, Tryd.ntmps39
  go_wp2
  go_ret
  exact ⟨ret_int (by simp [reckonF]), rfl⟩
set_option maxHeartbeats 1000000 in
theorem rreckon2 (a b : Int) (w : World) (ha : U64 a) (hb : U64 b) :
    Calls Tryd.prog 39 #[.int .i64 2, .int .u64 a, .int .u64 b] w fun e w' => e = .returned (.int .u64 (reckonF 2 a b)) ∧ w = w' := by
  obtain ⟨ha0, ha1⟩ := ha
  obtain ⟨hb0, hb1⟩ := hb
  go_enter Tryd.func39, Tryd.ntmps39
  go_wp2
  go_ret
  exact ⟨ret_int (by simp [reckonF]), rfl⟩
set_option maxHeartbeats 1000000 in
theorem rreckon3 (a b : Int) (w : World) (ha : U64 a) (hb : U64 b) :
    Calls Tryd.prog 39 #[.int .i64 3, .int .u64 a, .int .u64 b] w fun e w' => e = .returned (.int .u64 (reckonF 3 a b)) ∧ w = w' := by
  have hp := pow64_bd (b % 64).toNat (by have := hb.1; omega)
  have hp0 := quo_pow b hb
  obtain ⟨p, hpp⟩ : ∃ p, (2 : Int) ^ (b % 64).toNat = p := ⟨_, rfl⟩
  have hr : reckonF 3 a b = IntKind.u64.wrap (a * p) := by rw [← hpp]; rfl
  rw [hr]
  have HP := Lib.hid hpp
  rw [hpp] at hp hp0
  have hbm : 0 ≤ b % 64 ∧ b % 64 < 64 := by have := hb.1; omega
  have hb64 : ¬ p = 0 := hp0
  have hpn : 0 ≤ p := by omega
  clear hr hpp hp0
  obtain ⟨ha0, ha1⟩ := ha
  obtain ⟨hb0, hb1⟩ := hb
  go_enter Tryd.func39, Tryd.ntmps39
  go_wp2_with (go_at_call 71; refine (power64_any _ _ hbm).mono ?_; rintro e w' ⟨rfl, rfl⟩; rw [HP.out])
  go_ret
  exact ⟨rfl, rfl⟩
set_option maxHeartbeats 1000000 in
theorem rreckon4 (a b : Int) (w : World) (ha : U64 a) (hb : U64 b) :
    Calls Tryd.prog 39 #[.int .i64 4, .int .u64 a, .int .u64 b] w fun e w' => e = .returned (.int .u64 (reckonF 4 a b)) ∧ w = w' := by
  obtain ⟨ha0, ha1⟩ := ha
  obtain ⟨hb0, hb1⟩ := hb
  by_cases h : a < b
  · go_enter Tryd.func39, Tryd.ntmps39
    go_wp2
    go_ret
    exact ⟨ret_int (by simp [reckonF, h]), rfl⟩
  · go_enter Tryd.func39, Tryd.ntmps39
    go_wp2
    go_ret
    exact ⟨ret_int (by simp [reckonF, h]), rfl⟩
set_option maxHeartbeats 1000000 in
theorem rreckon5 (a b : Int) (w : World) (ha : U64 a) (hb : U64 b) :
    Calls Tryd.prog 39 #[.int .i64 5, .int .u64 a, .int .u64 b] w fun e w' => e = .returned (.int .u64 (reckonF 5 a b)) ∧ w = w' := by
  obtain ⟨ha0, ha1⟩ := ha
  obtain ⟨hb0, hb1⟩ := hb
  go_enter Tryd.func39, Tryd.ntmps39
  go_wp2
  go_ret
  exact ⟨ret_int (by simp [reckonF]), rfl⟩
set_option maxHeartbeats 1000000 in
theorem rreckon6 (a b : Int) (w : World) (ha : U64 a) (hb : U64 b) :
    Calls Tryd.prog 39 #[.int .i64 6, .int .u64 a, .int .u64 b] w fun e w' => e = .returned (.int .u64 (reckonF 6 a b)) ∧ w = w' := by
  have hp := pow64_bd (b % 64).toNat (by have := hb.1; omega)
  have hp0 := quo_pow b hb
  obtain ⟨p, hpp⟩ : ∃ p, (2 : Int) ^ (b % 64).toNat = p := ⟨_, rfl⟩
  have hr : reckonF 6 a b = a / p := by rw [← hpp]; rfl
  rw [hr]
  have HP := Lib.hid hpp
  rw [hpp] at hp hp0
  have hbm : 0 ≤ b % 64 ∧ b % 64 < 64 := by have := hb.1; omega
  have hb64 : ¬ p = 0 := hp0
  have hpn : 0 ≤ p := by omega
  clear hr hpp hp0
  obtain ⟨ha0, ha1⟩ := ha
  obtain ⟨hb0, hb1⟩ := hb
  go_enter Tryd.func39, Tryd.ntmps39
  go_wp2_with (go_at_call 71; refine (power64_any _ _ hbm).mono ?_; rintro e w' ⟨rfl, rfl⟩; rw [HP.out])
  go_ret
  exact ⟨rfl, rfl⟩
set_option maxHeartbeats 1000000 in
theorem rreckon7 (a b : Int) (w : World) (ha : U64 a) (hb : U64 b) :
    Calls Tryd.prog 39 #[.int .i64 7, .int .u64 a, .int .u64 b] w fun e w' => e = .returned (.int .u64 (reckonF 7 a b)) ∧ w = w' := by
  obtain ⟨ha0, ha1⟩ := ha
  obtain ⟨hb0, hb1⟩ := hb
  go_enter Tryd.func39, Tryd.ntmps39
  go_wp2
  go_ret
  exact ⟨ret_int (by simp [reckonF]), rfl⟩
set_option maxHeartbeats 1000000 in
theorem rreckon8 (a b : Int) (w : World) (ha : U64 a) (hb : U64 b) :
    Calls Tryd.prog 39 #[.int .i64 8, .int .u64 a, .int .u64 b] w fun e w' => e = .returned (.int .u64 (reckonF 8 a b)) ∧ w = w' := by
  obtain ⟨ha0, ha1⟩ := ha
  obtain ⟨hb0, hb1⟩ := hb
  go_enter Tryd.func39, Tryd.ntmps39
  go_wp2
  go_ret
  exact ⟨ret_int (by simp [reckonF]), rfl⟩
set_option maxHeartbeats 1000000 in
theorem rreckon9 (a b : Int) (w : World) (ha : U64 a) (hb : U64 b) :
    Calls Tryd.prog 39 #[.int .i64 9, .int .u64 a, .int .u64 b] w fun e w' => e = .returned (.int .u64 (reckonF 9 a b)) ∧ w = w' := by
  obtain ⟨ha0, ha1⟩ := ha
  obtain ⟨hb0, hb1⟩ := hb
  go_enter Tryd.func39, Tryd.ntmps39
  go_wp2
  go_ret
  exact ⟨ret_int (by simp [reckonF]), rfl⟩
set_option maxHeartbeats 1000000 in
theorem rreckon10 (a b : Int) (w : World) (ha : U64 a) (hb : U64 b) :
    Calls Tryd.prog 39 #[.int .i64 10, .int .u64 a, .int .u64 b] w fun e w' => e = .returned (.int .u64 (reckonF 10 a b)) ∧ w = w' := by
  obtain ⟨ha0, ha1⟩ := ha
  obtain ⟨hb0, hb1⟩ := hb
  by_cases h : b = 0
  · subst h
    go_enter Tryd.func39, Tryd.ntmps39
    go_wp2
    go_ret
    exact ⟨ret_int (by simp [reckonF]), rfl⟩
  · have h' : (b == 0) = false := beq_eq_false_iff_ne.2 h
    go_enter Tryd.func39, Tryd.ntmps39
    go_wp2
    go_ret
    exact ⟨ret_int (by simp [reckonF, h]), rfl⟩
set_option maxHeartbeats 1000000 in
theorem rreckon11 (a b : Int) (w : World) (ha : U64 a) (hb : U64 b) :
    Calls Tryd.prog 39 #[.int .i64 11, .int .u64 a, .int .u64 b] w fun e w' => e = .returned (.int .u64 (reckonF 11 a b)) ∧ w = w' := by
  obtain ⟨ha0, ha1⟩ := ha
  obtain ⟨hb0, hb1⟩ := hb
  by_cases h : b = 0
  · subst h
    go_enter Tryd.func39, Tryd.ntmps39
    go_wp2
    go_ret
    exact ⟨ret_int (by simp [reckonF]), rfl⟩
  · have h' : (b == 0) = false := beq_eq_false_iff_ne.2 h
    go_enter Tryd.func39, Tryd.ntmps39
    go_wp2
    go_ret
    exact ⟨ret_int (by simp [reckonF, h]), rfl⟩
theorem rreckon_any (k a b : Int) (w : World) (ha : U64 a) (hb : U64 b) (hk : 1 ≤ k ∧ k ≤ 11) :
    Calls Tryd.prog 39 #[.int .i64 k, .int .u64 a, .int .u64 b] w fun e w' => e = .returned (.int .u64 (reckonF k a b)) ∧ w = w' := by
  have hc : k = 1 ∨ k = 2 ∨ k = 3 ∨ k = 4 ∨ k = 5 ∨ k = 6 ∨ k = 7 ∨ k = 8 ∨ k = 9 ∨ k = 10 ∨ k = 11 := by omega
  rcases hc with rfl | rfl | rfl | rfl | rfl | rfl | rfl | rfl | rfl | rfl | rfl
  · exact rreckon1 a b w ha hb
  · exact rreckon2 a b w ha hb
  · exact rreckon3 a b w ha hb
  · exact rreckon4 a b w ha hb
  · exact rreckon5 a b w ha hb
  · exact rreckon6 a b w ha hb
  · exact rreckon7 a b w ha hb
  · exact rreckon8 a b w ha hb
  · exact rreckon9 a b w ha hb
  · exact rreckon10 a b w ha hb
  · exact rreckon11 a b w ha hb
set_option maxHeartbeats 1000000 in
theorem rdoes_low (k : Int) (rd ra rb imm a b pc : Int) (w : World) (ha : U64 a) (hb : U64 b) (hk : 1 ≤ k ∧ k ≤ 11) :
    Calls Tryd.prog 17 #[.agg #[.int .i64 k, .int .i64 rd, .int .i64 ra, .int .i64 rb, .int .i64 imm], .int .u64 a, .int .u64 b, .int .u64 pc] w fun e w' => e = .returned (.int .u64 (doesF k imm a b pc)) ∧ Below w.heap.size w w' := by
  have hr : doesF k imm a b pc = reckonF k a b := by unfold doesF; rw [if_pos hk]
  rw [hr]
  obtain ⟨h1, h2⟩ := hk
  have k1 : decide (1 ≤ k) = true := decide_eq_true h1
  have k2 : decide (k ≤ 11) = true := decide_eq_true h2
  go_enter Tryd.func17, Tryd.ntmps17
  go_wp2_with (go_at_call 39; refine (rreckon_any k a b _ ha hb ⟨h1, h2⟩).mono ?_; rintro e w' ⟨rfl, rfl⟩)
  go_ret
  exact ⟨rfl, (Below.refl _ w).alloc (Nat.le_refl _) _⟩
set_option maxHeartbeats 1000000 in
theorem rdoes12 (rd ra rb imm a b pc : Int) (w : World) (ha : U64 a) (_hb : U64 b) :
    Calls Tryd.prog 17 #[.agg #[.int .i64 12, .int .i64 rd, .int .i64 ra, .int .i64 rb, .int .i64 imm], .int .u64 a, .int .u64 b, .int .u64 pc] w fun e w' => e = .returned (.int .u64 (doesF 12 imm a b pc)) ∧ Below w.heap.size w w' := by
  have hr : doesF 12 imm a b pc = reckonF 1 a (IntKind.u64.wrap imm) := rfl
  rw [hr]
  obtain ⟨c, hc⟩ : ∃ c, IntKind.u64.wrap imm = c := ⟨_, rfl⟩
  rw [hc]
  have hcb : U64 c := hc ▸ U64.wrap imm
  clear hr _hb
  go_enter Tryd.func17, Tryd.ntmps17
  go_wp2_with (go_at_call 39; refine (rreckon_any 1 a c _ ha hcb (by omega)).mono ?_; rintro e w' ⟨rfl, rfl⟩)
  go_ret
  exact ⟨rfl, ((Below.refl _ w).alloc (Nat.le_refl _) _).alloc (by simp) _⟩
set_option maxHeartbeats 1000000 in
theorem rdoes13 (rd ra rb imm a b pc : Int) (w : World) (ha : U64 a) (_hb : U64 b) :
    Calls Tryd.prog 17 #[.agg #[.int .i64 13, .int .i64 rd, .int .i64 ra, .int .i64 rb, .int .i64 imm], .int .u64 a, .int .u64 b, .int .u64 pc] w fun e w' => e = .returned (.int .u64 (doesF 13 imm a b pc)) ∧ Below w.heap.size w w' := by
  have hr : doesF 13 imm a b pc = reckonF 4 a (IntKind.u64.wrap imm) := rfl
  rw [hr]
  obtain ⟨c, hc⟩ : ∃ c, IntKind.u64.wrap imm = c := ⟨_, rfl⟩
  rw [hc]
  have hcb : U64 c := hc ▸ U64.wrap imm
  clear hr _hb
  go_enter Tryd.func17, Tryd.ntmps17
  go_wp2_with (go_at_call 39; refine (rreckon_any 4 a c _ ha hcb (by omega)).mono ?_; rintro e w' ⟨rfl, rfl⟩)
  go_ret
  exact ⟨rfl, ((Below.refl _ w).alloc (Nat.le_refl _) _).alloc (by simp) _⟩
set_option maxHeartbeats 1000000 in
theorem rdoes14 (rd ra rb imm a b pc : Int) (w : World) (ha : U64 a) (_hb : U64 b) :
    Calls Tryd.prog 17 #[.agg #[.int .i64 14, .int .i64 rd, .int .i64 ra, .int .i64 rb, .int .i64 imm], .int .u64 a, .int .u64 b, .int .u64 pc] w fun e w' => e = .returned (.int .u64 (doesF 14 imm a b pc)) ∧ Below w.heap.size w w' := by
  have hr : doesF 14 imm a b pc = reckonF 5 a (IntKind.u64.wrap imm) := rfl
  rw [hr]
  obtain ⟨c, hc⟩ : ∃ c, IntKind.u64.wrap imm = c := ⟨_, rfl⟩
  rw [hc]
  have hcb : U64 c := hc ▸ U64.wrap imm
  clear hr _hb
  go_enter Tryd.func17, Tryd.ntmps17
  go_wp2_with (go_at_call 39; refine (rreckon_any 5 a c _ ha hcb (by omega)).mono ?_; rintro e w' ⟨rfl, rfl⟩)
  go_ret
  exact ⟨rfl, ((Below.refl _ w).alloc (Nat.le_refl _) _).alloc (by simp) _⟩
set_option maxHeartbeats 1000000 in
theorem rdoes15 (rd ra rb imm a b pc : Int) (w : World) (ha : U64 a) (_hb : U64 b) :
    Calls Tryd.prog 17 #[.agg #[.int .i64 15, .int .i64 rd, .int .i64 ra, .int .i64 rb, .int .i64 imm], .int .u64 a, .int .u64 b, .int .u64 pc] w fun e w' => e = .returned (.int .u64 (doesF 15 imm a b pc)) ∧ Below w.heap.size w w' := by
  have hr : doesF 15 imm a b pc = reckonF 7 a (IntKind.u64.wrap imm) := rfl
  rw [hr]
  obtain ⟨c, hc⟩ : ∃ c, IntKind.u64.wrap imm = c := ⟨_, rfl⟩
  rw [hc]
  have hcb : U64 c := hc ▸ U64.wrap imm
  clear hr _hb
  go_enter Tryd.func17, Tryd.ntmps17
  go_wp2_with (go_at_call 39; refine (rreckon_any 7 a c _ ha hcb (by omega)).mono ?_; rintro e w' ⟨rfl, rfl⟩)
  go_ret
  exact ⟨rfl, ((Below.refl _ w).alloc (Nat.le_refl _) _).alloc (by simp) _⟩
set_option maxHeartbeats 1000000 in
theorem rdoes16 (rd ra rb imm a b pc : Int) (w : World) (ha : U64 a) (_hb : U64 b) :
    Calls Tryd.prog 17 #[.agg #[.int .i64 16, .int .i64 rd, .int .i64 ra, .int .i64 rb, .int .i64 imm], .int .u64 a, .int .u64 b, .int .u64 pc] w fun e w' => e = .returned (.int .u64 (doesF 16 imm a b pc)) ∧ Below w.heap.size w w' := by
  have hr : doesF 16 imm a b pc = reckonF 8 a (IntKind.u64.wrap imm) := rfl
  rw [hr]
  obtain ⟨c, hc⟩ : ∃ c, IntKind.u64.wrap imm = c := ⟨_, rfl⟩
  rw [hc]
  have hcb : U64 c := hc ▸ U64.wrap imm
  clear hr _hb
  go_enter Tryd.func17, Tryd.ntmps17
  go_wp2_with (go_at_call 39; refine (rreckon_any 8 a c _ ha hcb (by omega)).mono ?_; rintro e w' ⟨rfl, rfl⟩)
  go_ret
  exact ⟨rfl, ((Below.refl _ w).alloc (Nat.le_refl _) _).alloc (by simp) _⟩
set_option maxHeartbeats 1000000 in
theorem rdoes17 (rd ra rb imm a b pc : Int) (w : World) (ha : U64 a) (_hb : U64 b) :
    Calls Tryd.prog 17 #[.agg #[.int .i64 17, .int .i64 rd, .int .i64 ra, .int .i64 rb, .int .i64 imm], .int .u64 a, .int .u64 b, .int .u64 pc] w fun e w' => e = .returned (.int .u64 (doesF 17 imm a b pc)) ∧ Below w.heap.size w w' := by
  have hr : doesF 17 imm a b pc = reckonF 3 a (IntKind.u64.wrap imm) := rfl
  rw [hr]
  obtain ⟨c, hc⟩ : ∃ c, IntKind.u64.wrap imm = c := ⟨_, rfl⟩
  rw [hc]
  have hcb : U64 c := hc ▸ U64.wrap imm
  clear hr _hb
  go_enter Tryd.func17, Tryd.ntmps17
  go_wp2_with (go_at_call 39; refine (rreckon_any 3 a c _ ha hcb (by omega)).mono ?_; rintro e w' ⟨rfl, rfl⟩)
  go_ret
  exact ⟨rfl, ((Below.refl _ w).alloc (Nat.le_refl _) _).alloc (by simp) _⟩
set_option maxHeartbeats 1000000 in
theorem rdoes18 (rd ra rb imm a b pc : Int) (w : World) (ha : U64 a) (_hb : U64 b) :
    Calls Tryd.prog 17 #[.agg #[.int .i64 18, .int .i64 rd, .int .i64 ra, .int .i64 rb, .int .i64 imm], .int .u64 a, .int .u64 b, .int .u64 pc] w fun e w' => e = .returned (.int .u64 (doesF 18 imm a b pc)) ∧ Below w.heap.size w w' := by
  have hr : doesF 18 imm a b pc = reckonF 6 a (IntKind.u64.wrap imm) := rfl
  rw [hr]
  obtain ⟨c, hc⟩ : ∃ c, IntKind.u64.wrap imm = c := ⟨_, rfl⟩
  rw [hc]
  have hcb : U64 c := hc ▸ U64.wrap imm
  clear hr _hb
  go_enter Tryd.func17, Tryd.ntmps17
  go_wp2_with (go_at_call 39; refine (rreckon_any 6 a c _ ha hcb (by omega)).mono ?_; rintro e w' ⟨rfl, rfl⟩)
  go_ret
  exact ⟨rfl, ((Below.refl _ w).alloc (Nat.le_refl _) _).alloc (by simp) _⟩
theorem rdoes27 (rd ra rb imm a b pc : Int) (w : World) :
    Calls Tryd.prog 17 #[.agg #[.int .i64 27, .int .i64 rd, .int .i64 ra, .int .i64 rb, .int .i64 imm], .int .u64 a, .int .u64 b, .int .u64 pc] w fun e w' => e = .returned (.int .u64 (doesF 27 imm a b pc)) ∧ Below w.heap.size w w' := by
  have hr : doesF 27 imm a b pc = IntKind.u64.wrap imm := rfl
  rw [hr]
  clear hr
  go_enter Tryd.func17, Tryd.ntmps17
  go_wp2
  go_ret
  exact ⟨rfl, (Below.refl _ w).alloc (Nat.le_refl _) _⟩
theorem rdoes28 (rd ra rb imm a b pc : Int) (w : World) :
    Calls Tryd.prog 17 #[.agg #[.int .i64 28, .int .i64 rd, .int .i64 ra, .int .i64 rb, .int .i64 imm], .int .u64 a, .int .u64 b, .int .u64 pc] w fun e w' => e = .returned (.int .u64 (doesF 28 imm a b pc)) ∧ Below w.heap.size w w' := by
  have hr : doesF 28 imm a b pc = IntKind.u64.wrap (pc + IntKind.u64.wrap imm) := rfl
  rw [hr]
  clear hr
  go_enter Tryd.func17, Tryd.ntmps17
  go_wp2
  go_ret
  exact ⟨rfl, (Below.refl _ w).alloc (Nat.le_refl _) _⟩
theorem rdoes29 (rd ra rb imm a b pc : Int) (w : World) :
    Calls Tryd.prog 17 #[.agg #[.int .i64 29, .int .i64 rd, .int .i64 ra, .int .i64 rb, .int .i64 imm], .int .u64 a, .int .u64 b, .int .u64 pc] w fun e w' => e = .returned (.int .u64 (doesF 29 imm a b pc)) ∧ Below w.heap.size w w' := by
  have hr : doesF 29 imm a b pc = IntKind.u64.wrap (pc + 4) := rfl
  rw [hr]
  clear hr
  go_enter Tryd.func17, Tryd.ntmps17
  go_wp2
  go_ret
  exact ⟨rfl, (Below.refl _ w).alloc (Nat.le_refl _) _⟩
theorem rdoes30 (rd ra rb imm a b pc : Int) (w : World) :
    Calls Tryd.prog 17 #[.agg #[.int .i64 30, .int .i64 rd, .int .i64 ra, .int .i64 rb, .int .i64 imm], .int .u64 a, .int .u64 b, .int .u64 pc] w fun e w' => e = .returned (.int .u64 (doesF 30 imm a b pc)) ∧ Below w.heap.size w w' := by
  have hr : doesF 30 imm a b pc = IntKind.u64.wrap (pc + 4) := rfl
  rw [hr]
  clear hr
  go_enter Tryd.func17, Tryd.ntmps17
  go_wp2
  go_ret
  exact ⟨rfl, (Below.refl _ w).alloc (Nat.le_refl _) _⟩
theorem rdoes_other (k : Int) (rd ra rb imm a b pc : Int) (w : World) (h : (¬ (1 ≤ k ∧ k ≤ 11)) ∧ (¬ (12 ≤ k ∧ k ≤ 18)) ∧ k ≠ 27 ∧ k ≠ 28 ∧ k ≠ 29 ∧ k ≠ 30) :
    Calls Tryd.prog 17 #[.agg #[.int .i64 k, .int .i64 rd, .int .i64 ra, .int .i64 rb, .int .i64 imm], .int .u64 a, .int .u64 b, .int .u64 pc] w fun e w' => e = .returned (.int .u64 (doesF k imm a b pc)) ∧ Below w.heap.size w w' := by
  have hr : doesF k imm a b pc = 0 := by
    unfold doesF
    rw [if_neg h.1, if_neg h.2.1, if_neg h.2.2.1, if_neg h.2.2.2.1, if_neg (by omega)]
  rw [hr]
  have n27 : (k == 27) = false := neq_kind (by omega)
  have n28 : (k == 28) = false := neq_kind (by omega)
  have n29 : (k == 29) = false := neq_kind (by omega)
  have n30 : (k == 30) = false := neq_kind (by omega)
  by_cases h1 : 1 ≤ k
  · have q1 : decide (1 ≤ k) = true := decide_eq_true h1
    have q2 : decide (k ≤ 11) = false := decide_eq_false (by omega)
    have q3 : decide (12 ≤ k) = true := decide_eq_true (by omega)
    have q4 : decide (k ≤ 18) = false := decide_eq_false (by omega)
    clear h h1 hr
    go_enter Tryd.func17, Tryd.ntmps17
    go_wp2
    go_ret
    exact ⟨rfl, (Below.refl _ w).alloc (Nat.le_refl _) _⟩
  · have q1 : decide (1 ≤ k) = false := decide_eq_false h1
    have q3 : decide (12 ≤ k) = false := decide_eq_false (by omega)
    clear h h1 hr
    go_enter Tryd.func17, Tryd.ntmps17
    go_wp2
    go_ret
    exact ⟨rfl, (Below.refl _ w).alloc (Nat.le_refl _) _⟩
theorem rdoes_any (k : Int) (rd ra rb imm a b pc : Int) (w : World) (ha : U64 a) (hb : U64 b) :
    Calls Tryd.prog 17 #[.agg #[.int .i64 k, .int .i64 rd, .int .i64 ra, .int .i64 rb, .int .i64 imm], .int .u64 a, .int .u64 b, .int .u64 pc] w fun e w' => e = .returned (.int .u64 (doesF k imm a b pc)) ∧ Below w.heap.size w w' := by
  have hc : (1 ≤ k ∧ k ≤ 11) ∨ k = 12 ∨ k = 13 ∨ k = 14 ∨ k = 15 ∨ k = 16 ∨ k = 17 ∨ k = 18 ∨ k = 27 ∨ k = 28 ∨ k = 29 ∨ k = 30 ∨ ((¬ (1 ≤ k ∧ k ≤ 11)) ∧ (¬ (12 ≤ k ∧ k ≤ 18)) ∧ k ≠ 27 ∧ k ≠ 28 ∧ k ≠ 29 ∧ k ≠ 30) := by omega
  rcases hc with h | rfl | rfl | rfl | rfl | rfl | rfl | rfl | rfl | rfl | rfl | rfl | h
  · exact rdoes_low k rd ra rb imm a b pc w ha hb h
  · exact rdoes12 rd ra rb imm a b pc w ha hb
  · exact rdoes13 rd ra rb imm a b pc w ha hb
  · exact rdoes14 rd ra rb imm a b pc w ha hb
  · exact rdoes15 rd ra rb imm a b pc w ha hb
  · exact rdoes16 rd ra rb imm a b pc w ha hb
  · exact rdoes17 rd ra rb imm a b pc w ha hb
  · exact rdoes18 rd ra rb imm a b pc w ha hb
  · exact rdoes27 rd ra rb imm a b pc w
  · exact rdoes28 rd ra rb imm a b pc w
  · exact rdoes29 rd ra rb imm a b pc w
  · exact rdoes30 rd ra rb imm a b pc w
  · exact rdoes_other k rd ra rb imm a b pc w h
end Go.Proofs.YtajhehmkdlebbaaDoor
