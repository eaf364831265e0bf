/- place.up, place.Ends, place.Syms: what they come to, for whatever codes and globals. -/
import Derived.Test.YtajhehmkdlebbaaDoorPlBase
import Derived.Deep.DeepAppendWide
namespace Go.Proofs.YtajhehmkdlebbaaDoor.Pl
open Go.ChangeShapes Go.WideShapes Go.ChangeAt Go.RowKit
theorem and_high (a m n : Nat) : a &&& (m * 2 ^ n) = ((a / 2 ^ n) &&& m) * 2 ^ n := by
  apply Nat.eq_of_testBit_eq
  intro i
  rw [Nat.testBit_and, Nat.testBit_mul_two_pow, Nat.testBit_mul_two_pow, Nat.testBit_and, Nat.testBit_div_two_pow]
  by_cases h : n ≤ i
  · simp [h, Nat.sub_add_cancel h]
  · simp [h]
def upI (v : Int) : Int := (v + 255) % 18446744073709551616 - (v + 255) % 18446744073709551616 % 256
theorem up_bits (x : Int) (h0 : 0 ≤ x) (h1 : x < 18446744073709551616) : bits .andNot .u64 x 255 = x - x % 256 := by
  obtain ⟨a, rfl⟩ := Int.eq_ofNat_of_zero_le h0
  have h2 := u64_andNot_nat a 255 (by omega) (by omega)
  rw [show ((255 : Nat) : Int) = 255 from rfl] at h2
  rw [h2, show (18446744073709551615 - 255 : Nat) = 72057594037927935 * 2 ^ 8 by decide, and_high, show (72057594037927935 : Nat) = 2 ^ 56 - 1 by decide, Nat.and_two_pow_sub_one_eq_mod]
  omega
theorem up_any (v : Int) (w : World) :
    Calls Tryd.prog 51 #[.int .u64 v] w fun e w' => e = .returned (.int .u64 (upI v)) ∧ w = w' := by
  have e : bits BinOp.andNot IntKind.u64 (IntKind.u64.wrap (IntKind.u64.wrap (v + 256) - 1)) 255 = upI v := by
    rw [up_bits _ (by simp only [IntKind.wrap_u64]; omega) (by simp only [IntKind.wrap_u64]; omega)]
    simp only [IntKind.wrap_u64, upI]; omega
  go_enter Tryd.func51, Tryd.ntmps51
  go_wp2
  go_ret
  exact ⟨rfl, rfl⟩

def textI (L : List CodeD) : Int := (65556 + 4 * (sumOps L : Int)) % 18446744073709551616
def dataI (L : List CodeD) (m : Nat) : Int := (upI (textI L) + 8 * (m : Int)) % 18446744073709551616
def stackI (L : List CodeD) (m : Nat) : Int := (upI (dataI L m) + 8192) % 18446744073709551616
theorem wrap64_cong (x : Int) : ∃ q, wrap64 x = x + 18446744073709551616 * q := ⟨-((x + 9223372036854775808) / 18446744073709551616), by unfold wrap64; omega⟩
theorem u64_cong (x : Int) : ∃ q, IntKind.u64.wrap x = x + 18446744073709551616 * q := ⟨-(x / 18446744073709551616), by rw [IntKind.wrap_u64]; omega⟩
theorem u64_same {x y : Int} (q : Int) (h : x = y + 18446744073709551616 * q) : IntKind.u64.wrap x = y % 18446744073709551616 := by
  rw [IntKind.wrap_u64, h, Int.add_mul_emod_self_left]
theorem text_eq (s : Int) : IntKind.u64.wrap (65536 + IntKind.u64.wrap (4 * IntKind.u64.wrap (wrap64 (5 + s)))) = (65556 + 4 * s) % 18446744073709551616 := by
  obtain ⟨q1, h1⟩ := wrap64_cong (5 + s)
  obtain ⟨q2, h2⟩ := u64_cong (wrap64 (5 + s))
  obtain ⟨q3, h3⟩ := u64_cong (4 * IntKind.u64.wrap (wrap64 (5 + s)))
  exact u64_same (4 * q1 + 4 * q2 + q3) (by rw [h3, h2, h1]; omega)
theorem dataI_eq (L : List CodeD) (m : Nat) : IntKind.u64.wrap (upI (textI L) + 8 * (m : Int)) = dataI L m := by
  unfold dataI; exact IntKind.wrap_u64 _
theorem stackI_eq (L : List CodeD) (m : Nat) : IntKind.u64.wrap (upI (dataI L m) + 8192) = stackI L m := by
  unfold stackI; exact IntKind.wrap_u64 _
theorem ret_3 {k : IntKind} {a b c d x y : Int} (h1 : a = d) (h2 : b = x) (h3 : c = y) : Ending.returned (.tuple #[.int k a, .int k b, .int k c]) = .returned (.tuple #[.int k d, .int k x, .int k y]) := by rw [h1, h2, h3]
set_option maxHeartbeats 400000 in
theorem ends_any {B : Nat} {A G : Option Addr} {cap gn gc : Nat} {L : List CodeD} {w : World} (hL : Codes w B A cap L) (hB : B ≤ w.heap.size) (hg : gn ≤ 3518437208784) :
    Calls Tryd.prog 50 #[.slice A L.length cap, .slice G gn gc] w fun e w' => e = .returned (.tuple #[.int .u64 (textI L), .int .u64 (dataI L gn), .int .u64 (stackI L gn)]) ∧ Below w.heap.size w w' := by
  have hlen := hL.len
  go_enter Tryd.func50, Tryd.ntmps50
  go_wp2
  go_loopw [7, 14] (fun s i wr => ∃ k : Nat, k ≤ L.length ∧ i = .int .i64 k ∧ s = .int .i64 (wrap64 (5 + sumOps (L.take k))) ∧ Below w.heap.size w wr) (fun _ i _ => L.length - (intOf i).toNat)
  case atStart => exact ⟨0, Nat.zero_le _, rfl, by simp [sumOps, wrap64], Below.refl _ _⟩
  case round =>
    obtain ⟨k, hk, rfl, rfl, hbw⟩ := hrel
    by_cases hlt : k < L.length
    · obtain ⟨b, off, rfl, hb, c0, c1, c2⟩ := (hL.below (hbw.mono hB)).at_ hlt
      have hsum := Lib.hid (sumOps_take hlt)
      go_wp2
      exact ⟨⟨k + 1, hlt, by go_num, by rw [hsum.out, wrap_add, Int.natCast_add, Int.add_assoc], hbw.alloc hbw.size _⟩, by simp [intOf]; omega⟩
    · obtain rfl : k = L.length := by omega
      rw [List.take_length]
      go_wp2_with (go_at_call 51; refine (up_any _ _).mono ?_; rintro e w' ⟨rfl, rfl⟩)
      go_ret3
      have e1 : IntKind.u64.wrap (65536 + IntKind.u64.wrap (4 * IntKind.u64.wrap (wrap64 (5 + (sumOps L : Int))))) = textI L := by
        exact text_eq _
      refine ⟨ret_3 e1 ?_ ?_, hbw⟩
      · rw [e1, dataI_eq]
      · rw [e1, dataI_eq, stackI_eq]
/-! ### Syms -/
def symF (L : List CodeD) (i : Nat) : SymD := ⟨((L[i]?).map CodeD.name).getD ByteArray.empty, (65556 + 4 * (sumOps (L.take i) : Int)) % 18446744073709551616, true⟩
def symG (L : List CodeD) (G : List GlobD) (i : Nat) : SymD := ⟨((G[i]?).map GlobD.name).getD ByteArray.empty, (upI (textI L) + 8 * (i : Int)) % 18446744073709551616, false⟩
def symsL (L : List CodeD) (G : List GlobD) (k j : Nat) : List SymD := (List.range k).map (symF L) ++ (List.range j).map (symG L G)
def symCells (l : List SymD) : List Value := l.flatMap SymD.cells
theorem symsL_f (L : List CodeD) (G : List GlobD) (k : Nat) : symsL L G (k + 1) 0 = symsL L G k 0 ++ [symF L k] := by simp [symsL, List.range_succ]
theorem symsL_g (L : List CodeD) (G : List GlobD) (k j : Nat) : symsL L G k (j + 1) = symsL L G k j ++ [symG L G j] := by simp [symsL, List.range_succ]
theorem symsL_len (L : List CodeD) (G : List GlobD) (k j : Nat) : (symsL L G k j).length = k + j := by simp [symsL]
theorem symCells_snoc (l : List SymD) (s : SymD) : symCells (l ++ [s]) = symCells l ++ s.cells := by simp [symCells]
theorem pinfo65 : (Tryd.prog.info? 65).map (fun i => (i.zero, i.size, i.bytes)) = some (some (.agg #[.string ByteArray.empty, .int .u64 0, .bool false]), 3, 32) := by kernel_rfl
theorem symF_at {L : List CodeD} {k : Nat} (hk : k < L.length) : symF L k = ⟨L[k].name, (65556 + 4 * (sumOps (L.take k) : Int)) % 18446744073709551616, true⟩ := by simp [symF, hk]
theorem symG_at {L : List CodeD} {G : List GlobD} {k : Nat} (hk : k < G.length) : symG L G k = ⟨G[k].name, (upI (textI L) + 8 * (k : Int)) % 18446744073709551616, false⟩ := by simp [symG, hk]
theorem SymD.one (s : SymD) : ∀ u ∈ s.cells, u.oneCell' = true := by
  intro u hu
  simp only [SymD.cells, List.mem_cons, List.not_mem_nil, or_false] at hu
  rcases hu with rfl | rfl | rfl <;> rfl
theorem upI_id (v : Int) : (upI v + 8 * ((0 : Nat) : Int)) % 18446744073709551616 = upI v := by
  unfold upI
  have h0 := Int.emod_nonneg (v + 255) (show (18446744073709551616 : Int) ≠ 0 by decide)
  have h1 := Int.emod_lt_of_pos (v + 255) (show (0 : Int) < 18446744073709551616 by decide)
  generalize (v + 255) % 18446744073709551616 = x at *
  rw [Int.emod_eq_of_lt] <;> omega
theorem cells_new (w : World) (cs : List Value) (t : TypeId) (g : Nat) (hg : g = w.heap.size) {A : Array Value} (hA : A = cs.toArray) : ∀ j u, cs[j]? = some u → (w.alloc (.cells A t)).cell? ((⟨g, 0, none⟩ : Addr).add j) = some u := by
  intro j u hu
  subst hg hA
  have : (⟨w.heap.size, 0, none⟩ : Addr).add j = ⟨w.heap.size, j, none⟩ := by unfold Addr.add; split <;> simp [*]
  rw [this, cell_of_row _ _ _ _ _ _ (heap_alloc_new w _)]
  simpa using hu
theorem cell_alloc2 (w : World) (A : Array Value) (t : TypeId) (o : Obj) (i : Nat) : ((w.alloc (.cells A t)).alloc o).cell? ⟨w.heap.size, i, none⟩ = A[i]? :=
  cell_of_row _ _ _ _ _ _ ((Below.heap_alloc _ _ _ (by simp)).trans (heap_alloc_new w _))
theorem own_ne {w : World} {base : Nat} {e : TypeId} {size n : Nat} {v : Value} {xs : List Value} (h : w.ownsRow base e size v n xs) {g : Nat} (hg : w.heap.size ≤ g) : some g ≠ v.ownBlock :=
  fun he => by have := h.lt g he.symm; omega
set_option maxHeartbeats 400000 in
theorem syms_any {B : Nat} {A A2 : Option Addr} {cap gc : Nat} {L : List CodeD} {G : List GlobD} {w : World} (hL : Codes w B A cap L) (hG : Globs w B A2 gc G) (hB : B ≤ w.heap.size) :
    Calls Tryd.prog 31 #[.slice A L.length cap, .slice A2 G.length gc] w fun e w' => ∃ v, e = .returned v ∧ w'.ownsRow w.heap.size 65 3 v (L.length + G.length) (symCells (symsL L G L.length G.length)) ∧ Below w.heap.size w w' := by
  have hlen := hL.len
  have hlenG := hG.len
  obtain ⟨i0, hi, hz0, hz1, hz2⟩ := info_parts pinfo65
  have hlenG' := hG.2.1
  have hlenL' := hL.2.1
  go_enter Tryd.func31, Tryd.ntmps31
  go_wp2
  go_loopw [5, 6, 13] (fun v a i wr => ∃ k : Nat, k ≤ L.length ∧ i = .int .i64 k ∧ a = .int .u64 ((65556 + 4 * (sumOps (L.take k) : Int)) % 18446744073709551616) ∧ wr.ownsRow w.heap.size 65 3 v k (symCells (symsL L G k 0)) ∧ Below w.heap.size w wr) (fun _ _ i _ => L.length - (intOf i).toNat)
  case atStart => exact ⟨0, Nat.zero_le _, rfl, by simp [sumOps], World.ownsRow_nil _ _ _ _, Below.refl _ _⟩
  case round =>
    obtain ⟨k, hk, rfl, rfl, hown, hbw⟩ := hrel
    by_cases hlt : k < L.length
    · obtain ⟨b, off, rfl, hb, c0, c1, c2⟩ := (hL.below (hbw.mono hB)).at_ hlt
      have hsum := Lib.hid (sumOps_take hlt)
      have hop := hL.ops_len hlt
      go_wp2_with
        (at_builtin
         refine wpList_append_own_wide _ rfl (.tmp 17) (.tmp 22) 56 rfl w.heap.size 65 i0 _ 3 32 Tryd.underlying56 hi hz0 hz1 hz2 rfl (by omega) _ k _ rfl ((hown.alloc _).alloc _) ⟨wr.heap.size + 1, 0, none⟩ 1 1 _ rfl rfl (cells_new _ (symF L k).cells 65 _ (by simp) (by rw [symF_at hlt]; rfl)) (fun u hu => ?_) ?_ ?_ ?_ ?_
         rotate_right
         intro v1 w1 hown1 hg1 _
         have hb1 : Below w.heap.size w w1 := ((hbw.alloc hbw.size _).alloc (by have := hbw.size; simp; omega) _).grown hg1 (by have := hbw.size; simp; omega) (fun k hk => (hown.lt k hk).1)
         have d1 : w1.cell? ⟨wr.heap.size, 1, none⟩ = some (.slice L[k].ops.a L[k].ops.l.length L[k].ops.cap) := hg1.cell (cell_alloc2 _ _ _ _ _) (own_ne hown (Nat.le_refl _)))
      case refine_1 => exact SymD.one _ u hu
      case refine_2 => simp only [maxLen]; omega
      case refine_3 => omega
      case refine_4 => have := hbw.size; simp; omega
      have e1 : IntKind.u64.wrap ((65556 + 4 * (sumOps (L.take k) : Int)) % 18446744073709551616 + 4 * (L[k].ops.l.length : Int)) = (65556 + 4 * (sumOps (L.take (k + 1)) : Int)) % 18446744073709551616 := by
        rw [hsum.out, IntKind.wrap_u64, Int.natCast_add, Int.mul_add, ← Int.add_assoc, Int.emod_add_emod]
      exact ⟨⟨k + 1, hlt, by go_num, by rw [e1], by rw [symsL_f, symCells_snoc]; exact hown1, hb1⟩, by simp [intOf]; omega⟩
    · obtain rfl : k = L.length := by omega
      go_wp2_with (go_at_call 51; refine (up_any _ _).mono ?_; rintro e w' ⟨rfl, rfl⟩)
      rw [show (65556 + 4 * (sumOps L : Int)) % 18446744073709551616 = textI L from rfl]
      go_loopw [5, 6, 36] (fun v a i wr => ∃ k : Nat, k ≤ G.length ∧ i = .int .i64 k ∧ a = .int .u64 ((upI (textI L) + 8 * (k : Int)) % 18446744073709551616) ∧ wr.ownsRow w.heap.size 65 3 v (L.length + k) (symCells (symsL L G L.length k)) ∧ Below w.heap.size w wr) (fun _ _ i _ => G.length - (intOf i).toNat)
      case atStart => exact ⟨0, Nat.zero_le _, rfl, by rw [upI_id], hown, hbw⟩
      case round =>
        obtain ⟨k, hk, rfl, rfl, hown, hbw⟩ := hrel
        by_cases hlt : k < G.length
        · obtain ⟨b, off, rfl, hb, c0, c1, c2, c3⟩ := (hG.below (hbw.mono hB)).at_ hlt
          go_wp2_with
            (at_builtin
             refine wpList_append_own_wide _ rfl (.tmp 40) (.tmp 45) 56 rfl w.heap.size 65 i0 _ 3 32 Tryd.underlying56 hi hz0 hz1 hz2 rfl (by omega) _ (L.length + k) _ rfl ((hown.alloc _).alloc _) ⟨wr.heap.size + 1, 0, none⟩ 1 1 _ rfl rfl (cells_new _ (symG L G k).cells 65 _ (by simp) (by rw [symG_at hlt]; rfl)) (fun u hu => ?_) ?_ ?_ ?_ ?_
             rotate_right
             intro v1 w1 hown1 hg1 _
             have hb1 : Below w.heap.size w w1 := ((hbw.alloc hbw.size _).alloc (by have := hbw.size; simp; omega) _).grown hg1 (by have := hbw.size; simp; omega) (fun k hk => (hown.lt k hk).1))
          case refine_1 => exact SymD.one _ u hu
          case refine_2 => simp only [maxLen]; omega
          case refine_3 => omega
          case refine_4 => have := hbw.size; simp; omega
          have e1 : IntKind.u64.wrap ((upI (textI L) + 8 * (k : Int)) % 18446744073709551616 + 8) = (upI (textI L) + 8 * ((k + 1 : Nat) : Int)) % 18446744073709551616 := by
            rw [IntKind.wrap_u64, Int.natCast_add, Int.mul_add, ← Int.add_assoc, Int.emod_add_emod]; rfl
          exact ⟨⟨k + 1, hlt, by go_num, by rw [e1], by rw [symsL_g, symCells_snoc]; exact hown1, hb1⟩, by simp [intOf]; omega⟩
        · obtain rfl : k = G.length := by omega
          go_wp2
          go_ret
          exact ⟨_, rfl, hown, hbw⟩
end Go.Proofs.YtajhehmkdlebbaaDoor.Pl
