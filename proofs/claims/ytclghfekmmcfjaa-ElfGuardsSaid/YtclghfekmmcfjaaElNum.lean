/- elf.Write's parts: num, pad. -/
import Derived.Test.YtclghfekmmcfjaaEl
import Derived.Test.YtclghfekmmcfjaaPgStore
import Derived.Test.YtclghfekmmcfjaaBld
import Derived.StillTailTactics
import Derived.Deep.LoopGhost
namespace Go.Proofs.Ytclghfekmmcfjaa
open Go.ChangeShapes Go.WideShapes Go.ChangeAt Go.RowKit Go.Deep Go.Shelf
set_option maxRecDepth 100000
theorem bt_out : BT 96 := ⟨by kernel_rfl, by decide⟩
/-- blocks of other types stay -/
def Stay (T : TypeId) (w w' : World) : Prop := ∀ (c : Nat) (A : Array Value) (t : TypeId) (fz : Nat × Nat), w.heap[c]? = some (Obj.cells A t fz) → t ≠ T → t ≠ 5 → w'.heap[c]? = some (Obj.cells A t fz)
theorem Stay.refl (T : TypeId) (w : World) : Stay T w w := fun _ _ _ _ h _ _ => h
theorem Stay.trans {T : TypeId} {w w' w'' : World} (h : Stay T w w') (k : Stay T w' w'') : Stay T w w'' := fun c A t fz h1 h2 h3 => k c A t fz (h c A t fz h1 h2 h3) h2 h3
theorem Stay.alloc {T : TypeId} {w w' : World} (h : Stay T w w') (o : Obj) : Stay T w (w'.alloc o) := fun c A t fz h1 h2 h3 => by
  have h4 := h c A t fz h1 h2 h3
  have hl : c < w'.heap.size := (Array.getElem?_eq_some_iff.1 h4).1
  exact (Lib.alloc_old w' _ c hl).trans h4
theorem Stay.drew {T : TypeId} {w w' : World} (h : Stay T w w') : Stay T w w'.drew := h
theorem Stay.drewN {T : TypeId} {w w' : World} (h : Stay T w w') (n : Nat) : Stay T w (w'.drewN n) := h
theorem Stay.setCell {T : TypeId} {w w' : World} (h : Stay T w w') {b i : Nat} {A : Array Value} {fz : Nat × Nat} (hb : w'.heap[b]? = some (.cells A T fz)) (v : Value) : Stay T w (w'.setCell ⟨b, i, none⟩ v) := fun c A' t fz' h1 h2 h3 => by
  have h4 := h c A' t fz' h1 h2 h3
  have hne : c ≠ b := fun e => by
    subst e
    rw [hb] at h4
    cases h4
    exact h2 rfl
  rw [Below.heap_setCell _ _ _ _ hne]
  exact h4
theorem Stay.grown {T : TypeId} {w w' w'' : World} (h : Stay T w w') {base n : Nat} {v : Value} {xs : List Value} (hown : w'.ownsRow base 5 1 v n xs) (hg : w'.grownBy w'' v.ownBlock) : Stay T w w'' := fun c A t fz h1 h2 h3 => by
  have h4 := h c A t fz h1 h2 h3
  have hl : c < w'.heap.size := (Array.getElem?_eq_some_iff.1 h4).1
  refine (hg.block c hl (fun e => ?_)).trans h4
  obtain ⟨_, ⟨rfl, _⟩ | ⟨g, cap, cur, rfl, _, hgh, _⟩⟩ := hown
  · cases e
  · obtain rfl : c = g := Option.some.inj e
    rw [hgh] at h4
    cases h4
    exact h3 rfl
theorem b_checkS {T : TypeId} (hT : BT T) (B b : Nat) (bs : List Value) (w : World) (h : IsB T B b bs w) :
    Calls Try.prog 64 #[.pointer (some ⟨b, 0, none⟩)] w fun e w' => e = .returned (.tuple #[]) ∧ BAt T B b (.pointer (some ⟨b, 0, none⟩)) bs w' ∧ Below B w w' ∧ Stay T w w' := by
  rcases h with h | h
  · refine (bc_fresh hT b w h.cell0 h.shape h.frozen0).mono ?_
    rintro e w' ⟨rfl, rfl⟩
    obtain ⟨hB, v, hbk, _⟩ := id h
    exact ⟨rfl, h.used _, (Below.refl B w).setCell (p := ⟨b, 0, none⟩) h.1 _, (Stay.refl T w).setCell hbk _⟩
  · refine (bc_used b w h.cell0).mono ?_
    rintro e w' ⟨rfl, rfl⟩
    exact ⟨rfl, h, Below.refl B _, Stay.refl T _⟩
set_option maxHeartbeats 1000000 in
theorem b_wbS {T : TypeId} (hT : BT T) (B b : Nat) (bs : List Value) (c : Int) (w : World) (h : IsB T B b bs w) (hlen : bs.length + 1 ≤ 140737488355328) (hBw : B ≤ w.heap.size) :
    Calls Try.prog 65 #[.pointer (some ⟨b, 0, none⟩), .int .u8 c] w fun e w' => e = .returned .nilIface ∧ BAt T B b (.pointer (some ⟨b, 0, none⟩)) (bs ++ [.int .u8 c]) w' ∧ Below B w w' ∧ Stay T w w' := by
  obtain ⟨i0, hi, hz0, hz1, hz2⟩ := info_parts b_byte
  go_enter Try.func65, Try.ntmps65
  go_wp2_with (go_at_call 64; refine (b_checkS hT B b bs _ h).mono ?_)
  rintro e w1 ⟨rfl, ⟨hB, v, hbk, hown, hne⟩, hb1, hst1⟩
  have c0 : w1.cell? ⟨b, 0, none⟩ = some (.pointer (some ⟨b, 0, none⟩)) := by rw [Lib.cell_of_heap hbk]; rfl
  have c1 : w1.cell? ⟨b, 1, none⟩ = some v := by rw [Lib.cell_of_heap hbk]; rfl
  go_wp2_with (at_builtin; refine wpList_append_own _ rfl _ _ 92 rfl B 5 i0 (.int .u8 0) 1 1 Try.underlying92 hi hz0 hz1 hz2 rfl (by decide) _ _ _ rfl (hown.alloc _) ⟨w1.heap.size, 0, none⟩ 1 1 [.int .u8 c] rfl rfl ?c1 ?c2 ?c3 ?c4 ?c5 ?_)
  case c1 =>
    intro j u hj
    match j, hj with
    | 0, hj => simp at hj; subst hj; simp [Addr.add]
  case c2 => intro u hu; simp at hu; subst hu; rfl
  case c3 => unfold maxLen; omega
  case c4 => omega
  case c5 => have := hb1.size; simp; omega
  intro v' w2 hown' hgrow _
  have hlt : b < w1.heap.size := by
    rcases Nat.lt_or_ge b w1.heap.size with h' | h'
    · exact h'
    · simp [Array.getElem?_eq_none h'] at hbk
  have hb2 : w2.heap[b]? = some (.cells #[.pointer (some ⟨b, 0, none⟩), v] T (0, 0)) := by
    rw [hgrow.block b (by simp; omega) (fun e => hne e.symm), Lib.alloc_old w1 _ b hlt]
    exact hbk
  have d0 : w2.cell? ⟨b, 0, none⟩ = some (.pointer (some ⟨b, 0, none⟩)) := by rw [Lib.cell_of_heap hb2]; rfl
  have d1 : w2.cell? ⟨b, 1, none⟩ = some v := by rw [Lib.cell_of_heap hb2]; rfl
  have f1 : w2.frozen? ⟨b, 1, none⟩ = false := Lib.frozen_of_heap hb2 1
  obtain ⟨g, cap, rfl⟩ : ∃ g cap, v' = .slice (some ⟨g, 0, none⟩) (bs.length + 1) cap := by
    rcases hown'.2 with ⟨_, h0⟩ | ⟨g, cap, cur, hv, _⟩
    · omega
    · exact ⟨g, cap, hv⟩
  have hst2 : Stay T w w2 := (hst1.alloc _).grown (hown.alloc _) hgrow
  go_wp2
  go_ret
  refine ⟨rfl, ?_, ?_, hst2.setCell hb2 _⟩
  · exact Lib.BuilderAt.put (T := T) (e := 5) hB hb2 (bs' := bs ++ [.int .u8 c]) (by simpa using hown') hT.ne
  · exact ((hb1.alloc (by have := hb1.size; omega) _).grown hgrow (by have := hb1.size; simp; omega) (fun k hk => (hown.lt k hk).1)).setCell (p := ⟨b, 1, none⟩) hB _
set_option maxHeartbeats 2000000 in
theorem b_wsS {T : TypeId} (hT : BT T) (B b : Nat) (bs : List Value) (s : ByteArray) (w : World) (h : IsB T B b bs w) (hlen : bs.length + s.size ≤ 140737488355328) (hBw : B ≤ w.heap.size) :
    Calls Try.prog 43 #[.pointer (some ⟨b, 0, none⟩), .string s] w fun e w' => e = .returned (.tuple #[.int .i64 s.size, .nilIface]) ∧ BAt T B b (.pointer (some ⟨b, 0, none⟩)) (bs ++ Lib.strCells s) w' ∧ Below B w w' ∧ Stay T w w' := by
  obtain ⟨i0, hi, hz0, hz1, hz2⟩ := info_parts b_byte
  go_enter Try.func43, Try.ntmps43
  go_wp2_with (go_at_call 64; refine (b_checkS hT B b bs _ h).mono ?_)
  rintro e w1 ⟨rfl, h1, hb1, hst1⟩
  obtain ⟨hB, v, hbk, hown, hne⟩ := h1
  have c0 : w1.cell? ⟨b, 0, none⟩ = some (.pointer (some ⟨b, 0, none⟩)) := by rw [Lib.cell_of_heap hbk]; rfl
  have c1 : w1.cell? ⟨b, 1, none⟩ = some v := by rw [Lib.cell_of_heap hbk]; rfl
  go_wp2_with (at_builtin; refine Lib.wpList_append_own_string _ rfl _ _ 92 9 rfl B 5 i0 Try.underlying92 Try.underlying9 hi hz0 hz1 hz2 _ _ _ rfl hown s rfl ?c3 ?c4 ?c5 ?_)
  case c3 => unfold maxLen; omega
  case c4 => omega
  case c5 => have := hb1.size; omega
  intro v' w2 hown' hgrow _
  have hlt : b < w1.heap.size := by
    rcases Nat.lt_or_ge b w1.heap.size with h' | h'
    · exact h'
    · simp [Array.getElem?_eq_none h'] at hbk
  have hb2 : w2.heap[b]? = some (.cells #[.pointer (some ⟨b, 0, none⟩), v] T (0, 0)) := by
    rw [hgrow.block b hlt (fun e => hne e.symm)]
    exact hbk
  have d0 : w2.cell? ⟨b, 0, none⟩ = some (.pointer (some ⟨b, 0, none⟩)) := by rw [Lib.cell_of_heap hb2]; rfl
  have d1 : w2.cell? ⟨b, 1, none⟩ = some v := by rw [Lib.cell_of_heap hb2]; rfl
  have f1 : w2.frozen? ⟨b, 1, none⟩ = false := Lib.frozen_of_heap hb2 1
  obtain ⟨ao, n', cap, rfl⟩ : ∃ ao n' cap, v' = .slice ao n' cap := by
    rcases hown'.2 with ⟨hv, _⟩ | ⟨g, cap, cur, hv, _⟩
    · exact ⟨_, _, _, hv⟩
    · exact ⟨_, _, _, hv⟩
  have hst2 : Stay T w w2 := hst1.grown hown hgrow
  go_wp2
  go_ret2
  refine ⟨rfl, ?_, ?_, hst2.setCell hb2 _⟩
  · exact Lib.BuilderAt.put (T := T) (e := 5) hB hb2 (bs' := bs ++ Lib.strCells s) (by simpa [Lib.strCells_length] using hown') hT.ne
  · exact (hb1.grown hgrow (by have := hb1.size; omega) (fun k hk => (hown.lt k hk).1)).setCell (p := ⟨b, 1, none⟩) hB _
/-- a number's first n bytes -/
def leL (v : Int) (n : Nat) : List UInt8 := (List.range n).map fun i => UInt8.ofNat ((v / 256 ^ i) % 256).toNat
theorem leL_len (v : Int) (n : Nat) : (leL v n).length = n := by simp [leL]
theorem leL_succ (v : Int) (n : Nat) : leL v (n + 1) = leL v n ++ [UInt8.ofNat ((v / 256 ^ n) % 256).toNat] := by simp [leL, List.range_succ]
def numsL (n : Nat) (l : List Int) : List UInt8 := l.flatMap fun v => leL v n
theorem numsL_len (n : Nat) : ∀ l : List Int, (numsL n l).length = n * l.length
  | [] => rfl
  | v :: l => by
    have := numsL_len n l
    simp only [numsL, List.flatMap_cons, List.length_append, leL_len, List.length_cons] at *
    rw [this, Nat.mul_succ]; omega
theorem numsL_take {n k : Nat} {l : List Int} (hk : k < l.length) : numsL n (l.take (k + 1)) = numsL n (l.take k) ++ leL l[k] n := by
  unfold numsL
  rw [List.take_add_one, List.getElem?_eq_getElem hk, List.flatMap_append]
  simp
/-- numbers in a block of their own -/
def numCells (L : List Int) : Array Value := (L.map fun v => Value.int .u64 v).toArray
def NumsAt (w : World) (c : Nat) (L : List Int) : Prop := w.heap[c]? = some (.cells (numCells L) 22 (0, 0))
theorem NumsAt.num {w : World} {c : Nat} {L : List Int} (h : NumsAt w c L) {k : Nat} (hk : k < L.length) : w.cell? ⟨c, k, none⟩ = some (.int .u64 L[k]) := by
  rw [Lib.cell_of_heap h]
  simp [numCells, hk]
set_option maxHeartbeats 2000000 in
theorem num_any {L : List Int} {w : World} {B b c cap : Nat} (n : Nat) (bs : List UInt8) (hn : n ≤ 8) (hL : NumsAt w c L) (hlen : L.length ≤ 8) (hv : ∀ v ∈ L, 0 ≤ v ∧ v ≤ 18446744073709551615)
    (hb : IsB 96 B b (Lib.byteCells bs) w) (hBw : B ≤ w.heap.size) (hbs : bs.length ≤ 140737488300000) :
    Calls Try.prog 44 #[.pointer (some ⟨b, 0, none⟩), .int .i64 n, .slice (some ⟨c, 0, none⟩) L.length cap] w fun e w' => e = .returned (.tuple #[]) ∧ IsB 96 B b (Lib.byteCells (bs ++ numsL n L)) w' ∧ Below B w w' ∧ Stay 96 w w' := by
  have hall := numsL_len n
  have HALL := Lib.hid hall
  have HL := Lib.hid hL
  have HV := Lib.hid hv
  have HB := Lib.hid hb
  clear hL hv hb hall
  go_enter Try.func44, Try.ntmps44
  go_wp2
  go_loopw [11] (fun i wr => ∃ k : Nat, k ≤ L.length ∧ i = .int .i64 k ∧ Hid (IsB 96 B b (Lib.byteCells (bs ++ numsL n (L.take k))) wr) ∧ Below B w wr ∧ Hid (Stay 96 w wr)) (fun i _ => L.length - (intOf i).toNat)
  case atStart => exact ⟨0, Nat.zero_le _, rfl, by show IsB _ _ _ _ _; simpa [numsL] using HB.out, Below.refl _ _, Stay.refl _ _⟩
  case round =>
    obtain ⟨k, hk, rfl, hB, hbw, hst⟩ := hrel
    by_cases hlt : k < L.length
    · have c0 := NumsAt.num (w := wr) (hst.out _ _ _ _ HL.out (by decide) (by decide)) hlt
      have hvk := HV.out _ (List.getElem_mem hlt)
      have i1 : (0 : Int) ≤ (k : Int) := by omega
      have i2 : (k : Int) < (L.length : Int) := by omega
      obtain ⟨v, hvd⟩ : ∃ v, L[k] = v := ⟨_, rfl⟩
      rw [hvd] at c0 hvk
      have HVD := Lib.hid hvd
      have hkl : n * k ≤ 64 := Nat.le_trans (Nat.mul_le_mul hn (show k ≤ 8 by omega)) (by omega)
      have hlk : (numsL n (L.take k)).length ≤ 64 := by rw [HALL.out, List.length_take]; exact Nat.le_trans (Nat.mul_le_mul_left n (Nat.min_le_left _ _)) hkl
      clear hvd hkl
      go_wp2
      go_loopw [16] (fun i wr => ∃ j : Nat, j ≤ n ∧ i = .int .i64 j ∧ Hid (IsB 96 B b (Lib.byteCells (bs ++ numsL n (L.take k) ++ leL v j)) wr) ∧ Below B w wr ∧ Hid (Stay 96 w wr)) (fun i _ => n - (intOf i).toNat)
      case atStart => exact ⟨0, Nat.zero_le _, rfl, by show IsB _ _ _ _ _; simpa [leL] using hB.out, hbw, hst.out⟩
      case round =>
        clear hB hbw hst
        obtain ⟨j, hj, rfl, hB, hbw, hst⟩ := hrel
        by_cases hjn : j < n
        · have hmx : Try.prog.follows .mixedOrders = true := by kernel_rfl
          have hso := hbw.size
          have j1 : (0 : Int) ≤ (j : Int) := by omega
          have j2 : (j : Int) ≤ 7 := by omega
          have hw8 : IntKind.i64.wrap (8 * (j : Int)) = ((8 * j : Nat) : Int) := by rw [IntKind.wrap_i64]; omega
          have j3 : 8 * j < 64 := by omega
          go_wp2_with fail
          go_still_tail 8, hmx
          go_wp2_with fail
          refine (b_wbS bt_out B b _ _ wr.drew hB.out (by rw [Lib.byteCells_length, List.length_append, List.length_append, leL_len]; omega) (by show B ≤ wr.heap.size; omega)).mono ?_
          rintro e w2 ⟨rfl, hB2, hb2, hst2⟩
          have hB3 : Hid (IsB 96 B b (Lib.byteCells (bs ++ numsL n (L.take k) ++ leL v (j + 1))) w2) := by
            refine .inr ?_
            rw [leL_succ, ← List.append_assoc, Lib.byteCells_append]
            have e8 : Lib.byteCells [UInt8.ofNat ((v / 256 ^ j) % 256).toNat] = [.int .u8 (v / 2 ^ (8 * j) % 256)] := by
              simp only [Lib.byteCells, List.map_cons, List.map_nil]
              rw [byte_val, ← pow_8k]
            rw [e8]
            exact hB2
          go_wp2
          exact ⟨⟨j + 1, hjn, by go_num, hB3, hbw.drew.trans hb2, (Stay.drew hst.out).trans hst2⟩, by simp [intOf]; omega⟩
        · obtain rfl : j = n := by omega
          go_wp2
          refine ⟨⟨k + 1, hlt, by go_num, ?_, hbw, hst.out⟩, by simp [intOf]; omega⟩
          show IsB _ _ _ _ _
          rw [numsL_take hlt, HVD.out, ← List.append_assoc]
          exact hB.out
    · obtain rfl : k = L.length := by omega
      go_wp2
      go_end0
      rw [List.take_length] at hB
      exact ⟨rfl, hB.out, hbw, hst.out⟩
theorem isBF_of {T : TypeId} {B b : Nat} {bs : List Value} {w : World} (h : IsB T B b bs w) : IsBF T B b bs w := by
  rcases h with h | h
  · exact .inl (Lib.BuilderAtF.of h)
  · exact .inr (Lib.BuilderAtF.of h)
/-- how many noughts there are up to the next page -/
def padN (n : Nat) : Nat := (256 - n % 256) % 256
set_option maxHeartbeats 2000000 in
theorem pad_any {w : World} {B b : Nat} (bs : List UInt8) (hb : IsB 96 B b (Lib.byteCells bs) w) (hBw : B ≤ w.heap.size) (hbs : bs.length ≤ 140737488300000) :
    Calls Try.prog 45 #[.pointer (some ⟨b, 0, none⟩)] w fun e w' => e = .returned (.tuple #[]) ∧ IsB 96 B b (Lib.byteCells (bs ++ List.replicate (padN bs.length) 0)) w' ∧ Below B w w' ∧ Stay 96 w w' := by
  have HB := Lib.hid hb
  clear hb
  go_enter Try.func45, Try.ntmps45
  go_wp2
  go_loopg [11] (padN bs.length) (fun r v wr => ∃ l : Nat, l + r = padN bs.length ∧ Hid (IsB 96 B b (Lib.byteCells (bs ++ List.replicate l 0)) wr) ∧ Below B w wr ∧ Hid (Stay 96 w wr))
  case atStart => exact ⟨0, Nat.zero_add _, by show IsB _ _ _ _ _; simpa using HB.out, Below.refl _ _, Stay.refl _ _⟩
  case round =>
    obtain ⟨l, hl, hB, hbw, hst⟩ := hrel
    have hso := hbw.size
    obtain ⟨N, hN⟩ : ∃ N, bs.length + l = N := ⟨_, rfl⟩
    have hp : padN bs.length = (256 - bs.length % 256) % 256 := rfl
    have hlen : (Lib.byteCells (bs ++ List.replicate l 0)).length = N := by rw [Lib.byteCells_length, List.length_append, List.length_replicate, hN]
    have HLEN := Lib.hid hlen
    by_cases hz : N % 256 = 0
    · have hl2 : l = padN bs.length := by omega
      have e1 : ((N : Int) % 256 != 0) = false := by
        have : (N : Int) % 256 = 0 := by omega
        rw [this]; rfl
      have HL2 := Lib.hid hl2
      have hN0 : N ≤ 140737488355328 := by omega
      clear hlen hN hp hl hz hl2
      go_wp2_with fail
      refine (bf_len B b _ wr (isBF_of hB.out)).mono ?_
      rintro e w2 ⟨rfl, rfl⟩
      rw [HLEN.out]
      go_wp2
      go_end0
      rw [← HL2.out]
      exact ⟨rfl, hB.out, hbw, hst.out⟩
    · have e1 : ((N : Int) % 256 != 0) = true := by
        simp only [bne_iff_ne, ne_eq]; omega
      have hl3 : 1 ≤ gk := by omega
      have HL := Lib.hid hl
      have hN0 : N ≤ 140737488355328 := by omega
      have hbl : (Lib.byteCells (bs ++ List.replicate l 0)).length + 1 ≤ 140737488355328 := by rw [hlen]; omega
      have HBL := Lib.hid hbl
      clear hlen hN hp hl hz hbl
      go_wp2_with fail
      refine (bf_len B b _ wr (isBF_of hB.out)).mono ?_
      rintro e w2 ⟨rfl, rfl⟩
      rw [HLEN.out]
      go_wp2_with fail
      refine (b_wbS bt_out B b _ 0 w2 hB.out HBL.out (Nat.le_trans hBw hso)).mono ?_
      rintro e w3 ⟨rfl, hB3, hb3, hst3⟩
      have hB4 : Hid (IsB 96 B b (Lib.byteCells (bs ++ List.replicate (l + 1) 0)) w3) := by
        refine .inr ?_
        rw [List.replicate_succ', ← List.append_assoc, Lib.byteCells_append]
        exact hB3
      go_wp2
      go_roundg (gk - 1)
      case rel => exact ⟨l + 1, by have := HL.out; omega, hB4, hbw.trans hb3, hst.out.trans hst3⟩
      case measure => omega
end Go.Proofs.Ytclghfekmmcfjaa
