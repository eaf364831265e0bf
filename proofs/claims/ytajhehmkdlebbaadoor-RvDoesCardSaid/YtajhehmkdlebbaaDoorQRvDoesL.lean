/- RvDoes: what an instruction reckons, and whether a branch goes, is as the document says: the walk. -/
import Derived.Test.YtajhehmkdlebbaaDoorQRvEnd
import Derived.OrdersHeld
namespace Go.Proofs.YtajhehmkdlebbaaDoor
open Go.ChangeShapes Go.WideShapes Go.ChangeAt Go.RowKit Go.Deep
set_option maxRecDepth 100000
attribute [-go_sem] loadVar storeVar
structure DoesIn where
  k : Int
  rd : Int
  ra : Int
  rb : Int
  imm : Int
  a : Int
  b : Int
  pc : Int
def DoesIn.cells (x : DoesIn) : List Value := [.int .i64 x.k, .int .i64 x.rd, .int .i64 x.ra, .int .i64 x.rb, .int .i64 x.imm, .int .u64 x.a, .int .u64 x.b, .int .u64 x.pc]
theorem opens_doesIn {w : World} : Opens Tryd.prog w 26 DoesIn.cells (fun x => U64 x.a ∧ U64 x.b) := by
  intro H enc fuel cs y h hw
  obtain ⟨n, hlen, hf⟩ := open_fields Tryd.underlying26 h hw
  rw [show Tryd.prog.cellsOf 26 = 8 by kernel_rfl] at hlen
  obtain ⟨y0, t0, w0⟩ := hf 0 _ rfl
  obtain ⟨y1, t1, w1⟩ := hf 1 _ rfl
  obtain ⟨y2, t2, w2⟩ := hf 2 _ rfl
  obtain ⟨y3, t3, w3⟩ := hf 3 _ rfl
  have hco : Tryd.prog.cellsOf 23 = 5 := by kernel_rfl
  have hcu : Tryd.prog.cellsOf 24 = 1 := by kernel_rfl
  replace t0 : DataW.trod enc Tryd.prog w 0 (fun _ => true) true n 23 ((cs.drop 0).take (Tryd.prog.cellsOf 23)) = some y0 := t0
  replace t1 : DataW.trod enc Tryd.prog w 0 (fun _ => true) true n 24 ((cs.drop 5).take (Tryd.prog.cellsOf 24)) = some y1 := t1
  replace t2 : DataW.trod enc Tryd.prog w 0 (fun _ => true) true n 24 ((cs.drop 6).take (Tryd.prog.cellsOf 24)) = some y2 := t2
  replace t3 : DataW.trod enc Tryd.prog w 0 (fun _ => true) true n 24 ((cs.drop 7).take (Tryd.prog.cellsOf 24)) = some y3 := t3
  rw [hco] at t0
  rw [hcu] at t1 t2 t3
  match cs, hlen with
  | [c0, c1, c2, c3, c4, c5, c6, c7], _ =>
    obtain ⟨o, h0, _⟩ := opens_op enc _ _ _ t0 w0
    obtain ⟨v1, h1, g1⟩ := opens_int Tryd.underlying24 enc _ _ _ t1 w1
    obtain ⟨v2, h2, g2⟩ := opens_int Tryd.underlying24 enc _ _ _ t2 w2
    obtain ⟨v3, h3, g3⟩ := opens_int Tryd.underlying24 enc _ _ _ t3 w3
    simp only [List.drop_succ_cons, List.drop_zero, List.take_succ_cons, List.take_zero, List.cons.injEq, and_true, OpD.cells] at h0 h1 h2 h3
    obtain ⟨rfl, rfl, rfl, rfl, rfl⟩ := h0
    subst h1 h2 h3
    exact ⟨⟨o.kind, o.rd, o.a, o.b, o.imm, v1, v2, v3⟩, rfl, u64_bd g1, u64_bd g2⟩
set_option maxHeartbeats 2000000 in
theorem doesL_any (k rd ra rb imm a b pc : Int) {w : World} (ha : U64 a) (hb : U64 b) (hT : Tab w) :
    Calls Tryd.prog 3 #[.agg #[.int .i64 k, .int .i64 rd, .int .i64 ra, .int .i64 rb, .int .i64 imm, .int .u64 a, .int .u64 b, .int .u64 pc]] w fun e w' => e = .returned (.bool true) ∧ Below w.heap.size w w' := by
  obtain ⟨W1, h1⟩ : ∃ W1, w.alloc (.cells #[.int .i64 k, .int .i64 rd, .int .i64 ra, .int .i64 rb, .int .i64 imm, .int .u64 a, .int .u64 b, .int .u64 pc] 26) = W1 := ⟨_, rfl⟩
  have s1 : W1.heap.size = w.heap.size + 1 := by subst h1; simp
  have b1 : Below w.heap.size w W1 := by subst h1; exact (Below.refl _ w).alloc (Nat.le_refl _) _
  have hr := Lib.cell_of_heap (show W1.heap[w.heap.size]? = some (.cells #[.int .i64 k, .int .i64 rd, .int .i64 ra, .int .i64 rb, .int .i64 imm, .int .u64 a, .int .u64 b, .int .u64 pc] 26 (0, 0)) by subst h1; exact heap_alloc_new w _)
  have c0 : W1.cell? ⟨w.heap.size, 0, none⟩ = some (.int .i64 k) := hr 0
  have c1 : W1.cell? ⟨w.heap.size, 1, none⟩ = some (.int .i64 rd) := hr 1
  have c2 : W1.cell? ⟨w.heap.size, 2, none⟩ = some (.int .i64 ra) := hr 2
  have c3 : W1.cell? ⟨w.heap.size, 3, none⟩ = some (.int .i64 rb) := hr 3
  have c4 : W1.cell? ⟨w.heap.size, 4, none⟩ = some (.int .i64 imm) := hr 4
  have c5 : W1.cell? ⟨w.heap.size, 5, none⟩ = some (.int .u64 a) := hr 5
  have c6 : W1.cell? ⟨w.heap.size, 6, none⟩ = some (.int .u64 b) := hr 6
  have c7 : W1.cell? ⟨w.heap.size, 7, none⟩ = some (.int .u64 pc) := hr 7
  obtain ⟨W2, h2, s2, o2, b2, _⟩ := op_new W1
  rw [s1] at o2
  obtain ⟨W3, h3, o3, s3, b3, _⟩ := o2.lay ⟨k, rd, ra, rb, imm⟩
  have HA := Lib.hid ha
  have HBD := Lib.hid hb
  have HO3 := Lib.hid o3
  have hB3 := (b1.trans (b2.mono (by omega))).trans (b3.mono (by omega))
  have HB3' := Lib.hid hB3
  have HT3 := Lib.hid (hT.below hB3 hT.size)
  have f5 : W3.cell? ⟨w.heap.size, 5, none⟩ = some (.int .u64 a) := (b3.cell (p := ⟨w.heap.size, 5, none⟩) (by simp)).trans ((b2.cell (p := ⟨w.heap.size, 5, none⟩) (by simp; omega)).trans c5)
  have f6 : W3.cell? ⟨w.heap.size, 6, none⟩ = some (.int .u64 b) := (b3.cell (p := ⟨w.heap.size, 6, none⟩) (by simp)).trans ((b2.cell (p := ⟨w.heap.size, 6, none⟩) (by simp; omega)).trans c6)
  have f7 : W3.cell? ⟨w.heap.size, 7, none⟩ = some (.int .u64 pc) := (b3.cell (p := ⟨w.heap.size, 7, none⟩) (by simp)).trans ((b2.cell (p := ⟨w.heap.size, 7, none⟩) (by simp; omega)).trans c7)
  have lk : (Go.loadVar 23 ⟨w.heap.size, 0, none⟩).run Tryd.prog W1 = .ok (.agg #[.int .i64 k, .int .i64 rd, .int .i64 ra, .int .i64 rb, .int .i64 imm]) W1 :=
    run_loadVar_mid W1 w.heap.size 0 23 [.int .i64 k, .int .i64 rd, .int .i64 ra, .int .i64 rb, .int .i64 imm] _ (fun j v hv => by rw [Nat.zero_add, hr]; match j, hv with | 0, h => exact h | 1, h => exact h | 2, h => exact h | 3, h => exact h | 4, h => exact h | j + 5, h => simp at h) Tryd.underlying23 rfl (by rw [op_info]; rfl)
  clear hr b1 b2 b3 o2 o3 hT ha hb hB3 s2 s3
  go_enter Tryd.func3, Tryd.ntmps3
  go_wp2_with fail
  refine (shown3_any HT3.out).mono ?_
  rintro e w3 ⟨rfl, hb3⟩
  have HB3 := Lib.hid ((HB3'.out.trans (hb3.mono HB3'.out.size)).drew)
  have HO3 := Lib.hid ((HO3.out.below hb3 HO3.out.lt).drew 1)
  clear hb3
  go_wp2_with fail
  refine wp_region_noPanic ?_
  refine wp_region_held_drew (S := fun w' => OB w' (w.heap.size + 1) ⟨k, rd, ra, rb, imm⟩) (by kernel_rfl) HO3.out (fun hHeld => ?_)
  refine takeH (i := 0) (d := some 17) (v := ?_) rfl (by kernel_rfl) (by kernel_rfl) (by kernel_rfl) (fun _ _ _ h => h) rfl (Or.inl ⟨by rfl, ?_⟩) hHeld ?_
  rotate_left
  · intro w' hSw; go_simp; (try with_reducible rfl)
  (try simp only [Act.put, List.setIfInBounds_toArray, List.set_cons_zero, List.set_cons_succ])
  refine takeH (i := 1) (d := some 18) (v := ?_) rfl (by kernel_rfl) (by kernel_rfl) (by kernel_rfl) (fun _ _ _ h => h) rfl (Or.inl ⟨by rfl, ?_⟩) hHeld ?_
  rotate_left
  · intro w' hSw; go_simp; (try with_reducible rfl)
  (try simp only [Act.put, List.setIfInBounds_toArray, List.set_cons_zero, List.set_cons_succ])
  refine takeH (i := 2) (d := some 19) (v := .agg #[.int .i64 k, .int .i64 rd, .int .i64 ra, .int .i64 rb, .int .i64 imm]) rfl (by kernel_rfl) (by kernel_rfl) (by kernel_rfl) (fun _ _ _ h => h) rfl (Or.inl ⟨by rfl, ?_⟩) hHeld ?_
  · intro w' hSw; have lk : (Go.loadVar 23 ⟨w.heap.size + 1, 0, none⟩).run Tryd.prog w' = .ok (.agg #[.int .i64 k, .int .i64 rd, .int .i64 ra, .int .i64 rb, .int .i64 imm]) w' := OB.load hSw; go_simp
  (try simp only [Act.put, List.setIfInBounds_toArray, List.set_cons_zero, List.set_cons_succ])
  refine takeH (i := 3) (d := some 20) (v := ?_) rfl (by kernel_rfl) (by kernel_rfl) (by kernel_rfl) (fun _ _ _ h => h) rfl (Or.inl ⟨by rfl, ?_⟩) hHeld ?_
  rotate_left
  · intro w' hSw; go_simp; (try with_reducible rfl)
  (try simp only [Act.put, List.setIfInBounds_toArray, List.set_cons_zero, List.set_cons_succ])
  refine takeH (i := 4) (d := some 21) (v := ?_) rfl (by kernel_rfl) (by kernel_rfl) (by kernel_rfl) (fun _ _ _ h => h) rfl (Or.inl ⟨by rfl, ?_⟩) hHeld ?_
  rotate_left
  · intro w' hSw; go_simp; (try with_reducible rfl)
  (try simp only [Act.put, List.setIfInBounds_toArray, List.set_cons_zero, List.set_cons_succ])
  refine takeH (i := 5) (d := some 22) (v := ?_) rfl (by kernel_rfl) (by kernel_rfl) (by kernel_rfl) (fun _ _ _ h => h) rfl (Or.inl ⟨by rfl, ?_⟩) hHeld ?_
  rotate_left
  · intro w' hSw; go_simp; (try with_reducible rfl)
  (try simp only [Act.put, List.setIfInBounds_toArray, List.set_cons_zero, List.set_cons_succ])
  refine takeH (i := 7) (d := some 24) (v := .agg #[.int .i64 k, .int .i64 rd, .int .i64 ra, .int .i64 rb, .int .i64 imm]) rfl (by kernel_rfl) (by kernel_rfl) (by kernel_rfl) (fun _ _ _ h => h) rfl (Or.inl ⟨by rfl, ?_⟩) hHeld ?_
  · intro w' hSw; have lk : (Go.loadVar 23 ⟨w.heap.size + 1, 0, none⟩).run Tryd.prog w' = .ok (.agg #[.int .i64 k, .int .i64 rd, .int .i64 ra, .int .i64 rb, .int .i64 imm]) w' := OB.load hSw; go_simp
  (try simp only [Act.put, List.setIfInBounds_toArray, List.set_cons_zero, List.set_cons_succ])
  refine takeH (i := 8) (d := some 25) (v := ?_) rfl (by kernel_rfl) (by kernel_rfl) (by kernel_rfl) (fun _ _ _ h => h) rfl (Or.inl ⟨by rfl, ?_⟩) hHeld ?_
  rotate_left
  · intro w' hSw; go_simp; (try with_reducible rfl)
  (try simp only [Act.put, List.setIfInBounds_toArray, List.set_cons_zero, List.set_cons_succ])
  refine takeH (i := 9) (d := some 26) (v := ?_) rfl (by kernel_rfl) (by kernel_rfl) (by kernel_rfl) (fun _ _ _ h => h) rfl (Or.inl ⟨by rfl, ?_⟩) hHeld ?_
  rotate_left
  · intro w' hSw; go_simp; (try with_reducible rfl)
  (try simp only [Act.put, List.setIfInBounds_toArray, List.set_cons_zero, List.set_cons_succ])
  refine takeH (i := 10) (d := some 27) (v := ?_) rfl (by kernel_rfl) (by kernel_rfl) (by kernel_rfl) (fun _ _ _ h => h) rfl (Or.inl ⟨by rfl, ?_⟩) hHeld ?_
  rotate_left
  · intro w' hSw; go_simp; (try with_reducible rfl)
  (try simp only [Act.put, List.setIfInBounds_toArray, List.set_cons_zero, List.set_cons_succ])
  refine wpAnyH_ready (rs := [6]) (by kernel_rfl) (by simp) ?_
  refine AllReadyH.cons rfl (fun K hK => ?_) AllReadyH.nil
  go_simp
  go_at_call 16
  with_reducible refine (does_any k rd ra rb imm a b pc _ HA.out HBD.out).mono ?_
  rintro e w4 ⟨rfl, hb4⟩
  have HO4 := Lib.hid (HO3.out.below hb4 HO3.out.lt)
  have HB4 := Lib.hid (HB3.out.trans (hb4.mono HB3.out.size))
  clear hb4
  go_wp2_with fail
  refine hK.out _ _ HO4.out (fun hHeld => ?_)
  clear hK K
  (try simp only [Act.put, List.setIfInBounds_toArray, List.set_cons_zero, List.set_cons_succ])
  refine wpAnyH_ready (rs := [11]) (by kernel_rfl) (by simp) ?_
  refine AllReadyH.cons rfl (fun K hK => ?_) AllReadyH.nil
  go_simp
  go_at_call 17
  with_reducible refine (rdoes_any k rd ra rb imm a b pc _ HA.out HBD.out).mono ?_
  rintro e w5 ⟨rfl, hb5⟩
  have HO5 := Lib.hid (HO4.out.below hb5 HO4.out.lt)
  have HB5 := Lib.hid (HB4.out.trans (hb5.mono HB4.out.size))
  clear hb5
  go_wp2_with fail
  refine hK.out _ _ HO5.out (fun hHeld => ?_)
  clear hK K
  (try simp only [Act.put, List.setIfInBounds_toArray, List.set_cons_zero, List.set_cons_succ])
  refine takeH (i := 12) (d := some 29) (v := .bool true) rfl (by kernel_rfl) (by kernel_rfl) (by kernel_rfl) (fun _ _ _ h => h) rfl (Or.inl ⟨by rfl, ?_⟩) hHeld ?_
  · intro w' hSw; go_simp
  (try simp only [Act.put, List.setIfInBounds_toArray, List.set_cons_zero, List.set_cons_succ])
  refine takeH (i := 13) (d := some 30) (v := .bool true) rfl (by kernel_rfl) (by kernel_rfl) (by kernel_rfl) (fun _ _ _ h => h) rfl (Or.inl ⟨by rfl, ?_⟩) hHeld ?_
  · intro w' hSw; go_simp
  (try simp only [Act.put, List.setIfInBounds_toArray, List.set_cons_zero, List.set_cons_succ])
  refine takeH (i := 14) (d := some 31) (v := ?_) rfl (by kernel_rfl) (by kernel_rfl) (by kernel_rfl) (fun _ _ _ h => h) rfl (Or.inl ⟨by rfl, ?_⟩) hHeld ?_
  rotate_left
  · intro w' hSw; go_simp; (try with_reducible rfl)
  (try simp only [Act.put, List.setIfInBounds_toArray, List.set_cons_zero, List.set_cons_succ])
  refine takeH (i := 15) (d := some 32) (v := .agg #[.int .i64 k, .int .i64 rd, .int .i64 ra, .int .i64 rb, .int .i64 imm]) rfl (by kernel_rfl) (by kernel_rfl) (by kernel_rfl) (fun _ _ _ h => h) rfl (Or.inl ⟨by rfl, ?_⟩) hHeld ?_
  · intro w' hSw; have lk : (Go.loadVar 23 ⟨w.heap.size + 1, 0, none⟩).run Tryd.prog w' = .ok (.agg #[.int .i64 k, .int .i64 rd, .int .i64 ra, .int .i64 rb, .int .i64 imm]) w' := OB.load hSw; go_simp
  (try simp only [Act.put, List.setIfInBounds_toArray, List.set_cons_zero, List.set_cons_succ])
  refine takeH (i := 16) (d := some 33) (v := ?_) rfl (by kernel_rfl) (by kernel_rfl) (by kernel_rfl) (fun _ _ _ h => h) rfl (Or.inl ⟨by rfl, ?_⟩) hHeld ?_
  rotate_left
  · intro w' hSw; go_simp; (try with_reducible rfl)
  (try simp only [Act.put, List.setIfInBounds_toArray, List.set_cons_zero, List.set_cons_succ])
  refine takeH (i := 17) (d := some 34) (v := ?_) rfl (by kernel_rfl) (by kernel_rfl) (by kernel_rfl) (fun _ _ _ h => h) rfl (Or.inl ⟨by rfl, ?_⟩) hHeld ?_
  rotate_left
  · intro w' hSw; go_simp; (try with_reducible rfl)
  (try simp only [Act.put, List.setIfInBounds_toArray, List.set_cons_zero, List.set_cons_succ])
  refine takeH (i := 19) (d := some 36) (v := .agg #[.int .i64 k, .int .i64 rd, .int .i64 ra, .int .i64 rb, .int .i64 imm]) rfl (by kernel_rfl) (by kernel_rfl) (by kernel_rfl) (fun _ _ _ h => h) rfl (Or.inl ⟨by rfl, ?_⟩) hHeld ?_
  · intro w' hSw; have lk : (Go.loadVar 23 ⟨w.heap.size + 1, 0, none⟩).run Tryd.prog w' = .ok (.agg #[.int .i64 k, .int .i64 rd, .int .i64 ra, .int .i64 rb, .int .i64 imm]) w' := OB.load hSw; go_simp
  (try simp only [Act.put, List.setIfInBounds_toArray, List.set_cons_zero, List.set_cons_succ])
  refine takeH (i := 20) (d := some 37) (v := ?_) rfl (by kernel_rfl) (by kernel_rfl) (by kernel_rfl) (fun _ _ _ h => h) rfl (Or.inl ⟨by rfl, ?_⟩) hHeld ?_
  rotate_left
  · intro w' hSw; go_simp; (try with_reducible rfl)
  (try simp only [Act.put, List.setIfInBounds_toArray, List.set_cons_zero, List.set_cons_succ])
  refine takeH (i := 21) (d := some 38) (v := ?_) rfl (by kernel_rfl) (by kernel_rfl) (by kernel_rfl) (fun _ _ _ h => h) rfl (Or.inl ⟨by rfl, ?_⟩) hHeld ?_
  rotate_left
  · intro w' hSw; go_simp; (try with_reducible rfl)
  (try simp only [Act.put, List.setIfInBounds_toArray, List.set_cons_zero, List.set_cons_succ])
  refine wpAnyH_ready (rs := [18]) (by kernel_rfl) (by simp) ?_
  refine AllReadyH.cons rfl (fun K hK => ?_) AllReadyH.nil
  go_simp
  go_at_call 18
  with_reducible refine (goes_any k rd ra rb imm a b _).mono ?_
  rintro e w6 ⟨rfl, hb6⟩
  have HO6 := Lib.hid (HO5.out.below hb6 HO5.out.lt)
  have HB6 := Lib.hid (HB5.out.trans (hb6.mono HB5.out.size))
  clear hb6
  go_wp2_with fail
  refine hK.out _ _ HO6.out (fun hHeld => ?_)
  clear hK K
  (try simp only [Act.put, List.setIfInBounds_toArray, List.set_cons_zero, List.set_cons_succ])
  refine wpAnyH_ready (rs := [22]) (by kernel_rfl) (by simp) ?_
  refine AllReadyH.cons rfl (fun K hK => ?_) AllReadyH.nil
  go_simp
  go_at_call 19
  with_reducible refine (rgoes_any k rd ra rb imm a b _).mono ?_
  rintro e w7 ⟨rfl, hb7⟩
  have HO7 := Lib.hid (HO6.out.below hb7 HO6.out.lt)
  have HB7 := Lib.hid (HB6.out.trans (hb7.mono HB6.out.size))
  clear hb7
  go_wp2_with fail
  refine hK.out _ _ HO7.out (fun hHeld => ?_)
  clear hK K
  (try simp only [Act.put, List.setIfInBounds_toArray, List.set_cons_zero, List.set_cons_succ])
  refine takeH (i := 23) (d := some 40) (v := .bool true) rfl (by kernel_rfl) (by kernel_rfl) (by kernel_rfl) (fun _ _ _ h => h) rfl (Or.inl ⟨by rfl, ?_⟩) hHeld ?_
  · intro w' hSw; go_simp
  (try simp only [Act.put, List.setIfInBounds_toArray, List.set_cons_zero, List.set_cons_succ])
  refine takeH (i := 24) (d := some 41) (v := .bool true) rfl (by kernel_rfl) (by kernel_rfl) (by kernel_rfl) (fun _ _ _ h => h) rfl (Or.inl ⟨by rfl, ?_⟩) hHeld ?_
  · intro w' hSw; go_simp
  (try simp only [Act.put, List.setIfInBounds_toArray, List.set_cons_zero, List.set_cons_succ])
  refine takeH (i := 25) (d := some 2) (v := ?_) rfl (by kernel_rfl) (by kernel_rfl) (by kernel_rfl) (fun _ _ _ h => h) rfl (Or.inl ⟨by rfl, ?_⟩) hHeld ?_
  rotate_left
  · intro w' hSw; go_simp; (try with_reducible rfl)
  (try simp only [Act.put, List.setIfInBounds_toArray, List.set_cons_zero, List.set_cons_succ])
  refine wpAnyH_done (by kernel_rfl) ?_ _
  refine NoPanic.normal ?_
  go_wp2
  go_ret
  exact ⟨rfl, HB7.out⟩
end Go.Proofs.YtajhehmkdlebbaaDoor
