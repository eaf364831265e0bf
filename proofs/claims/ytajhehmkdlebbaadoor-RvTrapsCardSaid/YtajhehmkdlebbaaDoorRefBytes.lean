/- The reference's Bytes: the same bytes. -/
import Derived.Test.YtajhehmkdlebbaaDoorBytes
import Derived.Test.YtajhehmkdlebbaaDoorRefWord
namespace Go.Proofs.YtajhehmkdlebbaaDoor
open Go.ChangeShapes Go.WideShapes Go.ChangeAt Go.RowKit Go.Deep
set_option maxRecDepth 100000
theorem byteN4 {v : Int} (h : 0 ≤ v ∧ v < 4294967296) : ((byteN v 0).toNat : Int) = v % 256 ∧ ((byteN v 1).toNat : Int) = v / 256 % 256 ∧ ((byteN v 2).toNat : Int) = v / 65536 % 256 ∧ ((byteN v 3).toNat : Int) = v / 16777216 := by
  refine ⟨?_, ?_, ?_, ?_⟩ <;> rw [byteN_toNat]
  · rw [Int.pow_zero, Int.ediv_one]
  · rfl
  · rfl
  · rw [show (256 : Int) ^ 3 = 16777216 from rfl]; omega
theorem cells4 (v : Int) : Lib.byteCells (bytes4 v) = [.int .u8 (byteN v 0).toNat, .int .u8 (byteN v 1).toNat, .int .u8 (byteN v 2).toNat, .int .u8 (byteN v 3).toNat] := rfl
theorem byteCells_append (a b : List UInt8) : Lib.byteCells (a ++ b) = Lib.byteCells a ++ Lib.byteCells b := by simp [Lib.byteCells]
theorem byteCells_one (l : List UInt8) : ∀ u ∈ Lib.byteCells l, u.oneCell' = true := by
  intro u hu
  obtain ⟨b, _, rfl⟩ := List.mem_map.1 hu
  rfl
theorem conv_own {w : World} {base n : Nat} {v : Value} {l : List UInt8} (h : w.ownsRow base 5 1 v n (Lib.byteCells l)) (hn : l.length = n) :
    (convert 86 9 v).run Tryd.prog w = .ok (.string ⟨l.toArray⟩) w := by
  have h0 := h
  rcases h.2 with ⟨rfl, rfl⟩ | ⟨g, cap, cur, rfl, _, hg, hle, hm, hsz, htk⟩
  · obtain rfl := List.eq_nil_of_length_eq_zero hn
    exact Lib.run_convert_nil_bytes w _ _ _ 0 Tryd.underlying86 Tryd.underlying5 Tryd.underlying9
  · subst hn
    refine run_convert_bytes_back w _ _ _ ⟨g, 0, none⟩ cap l Tryd.underlying86 Tryd.underlying5 Tryd.underlying9 (fun j hj => ?_)
    exact h0.cells (g := g) rfl j _ (by simp [Lib.byteCells, hj])
set_option maxHeartbeats 1600000 in
theorem rbytes_any {A : Option Addr} {cap : Nat} {L : List OpD} {w : World} {B : Nat} (hL : Sl.In w B 5 OpD.cells ⟨A, cap, L⟩) (hB : B ≤ w.heap.size) (hlen : L.length ≤ 10000) :
    Calls Tryd.prog 35 #[.slice A L.length cap] w fun e w' => e = .returned (.tuple #[.string (bytesS L), .int .i64 (bytesE L)]) ∧ Below w.heap.size w w' := by
  obtain ⟨i0, hi, hz0, hz1, hz2⟩ := info_parts b_byte
  go_enter Tryd.func35, Tryd.ntmps35
  go_wp2
  go_loopw [4, 5] (fun v i wr => ∃ k : Nat, k ≤ L.length ∧ i = .int .i64 k ∧ wr.ownsRow w.heap.size 5 1 v (4 * k) (Lib.byteCells (bytesL (L.take k))) ∧ Below w.heap.size w wr ∧ Hid (∀ j : Nat, j < k → ∀ o, L[j]? = some o → o.may = true)) (fun _ i _ => L.length - (intOf i).toNat)
  case atStart => exact ⟨0, Nat.zero_le _, rfl, World.ownsRow_nil _ _ _ _, Below.refl _ _, fun j hj => absurd hj (Nat.not_lt_zero _)⟩
  case round =>
    obtain ⟨k, hk, rfl, hown, hbw, hno⟩ := hrel
    by_cases hlt : k < L.length
    · obtain ⟨b, off, rfl, hb, c0, c1, c2, c3, c4⟩ := (hL.below (hbw.mono hB)).op hlt
      have hso := hbw.size
      cases hm : (L[k]).may
      · have HM := Lib.hid hm
        have hbad : bytesS L = ByteArray.empty ∧ bytesE L = 1 := by
          have := bytes_bad hlt hm
          unfold bytesS bytesE; rw [this]; exact ⟨rfl, rfl⟩
        have HB := Lib.hid hbad
        clear hm hbad
        go_wp2_with (go_at_call 69; refine (rword_bad HM.out).mono ?_; rintro e w1 ⟨rfl, hb1⟩)
        go_ret2
        rw [HB.out.1, HB.out.2]
        exact ⟨rfl, hbw.trans (hb1.mono hso)⟩
      · have HM := Lib.hid hm
        have hw := word_nn hm
        have h4 := byteN4 hw
        have H4 := Lib.hid h4
        obtain ⟨W, hW⟩ : ∃ W, W = (L[k]).word := ⟨_, rfl⟩
        have HW := Lib.hid hW
        rw [← hW] at hw
        clear hm h4 hW
        go_wp2_with (first
          | (go_at_call 69; refine (rword_good HM.out).mono ?_; rintro e w1 ⟨rfl, hb1⟩; rw [show wordI (L[k]).kind (L[k]).rd (L[k]).a (L[k]).b (L[k]).imm = W from HW.out.symm]; have hown1 := own_below hown hb1; have hbw1 := hbw.trans (hb1.mono hso))
          | (at_builtin
             refine wpList_append_own_wide _ rfl (.tmp 25) (.tmp 40) 86 rfl w.heap.size 5 i0 _ 1 1 Tryd.underlying86 hi hz0 hz1 hz2 rfl (by omega) _ (4 * k) _ rfl (hown1.alloc _) ⟨w1.heap.size, 0, none⟩ 4 4 _ rfl rfl (cells_new _ (Lib.byteCells (bytes4 (L[k]).word)) 5 _ rfl (by rw [cells4, H4.out.1, H4.out.2.1, H4.out.2.2.1, H4.out.2.2.2, ← HW.out])) (fun u hu => ?_) ?_ ?_ ?_ ?_
             rotate_right
             intro v1 w2 hown2 hg1 _
             have hb2 : Below w.heap.size w w2 := (hbw1.alloc hbw1.size _).grown hg1 (by have := hbw1.size; simp; omega) (fun k hk => (hown1.lt k hk).1)))
        case refine_1 => exact byteCells_one _ u hu
        case refine_2 => simp only [maxLen]; omega
        case refine_3 => omega
        case refine_4 => have := hbw1.size; simp; omega
        exact ⟨⟨k + 1, hlt, by go_num, by rw [bytesL_take hlt, byteCells_append]; exact hown2, hb2, fun i hi o ho => if e : i = k then by subst e; rw [List.getElem?_eq_getElem hlt] at ho; cases ho; exact HM.out else hno.out i (by omega) o ho⟩, by simp [intOf]; omega⟩
    · obtain rfl : k = L.length := by omega
      rw [List.take_length] at hown
      have hcv := conv_own hown (bytesL_len L)
      go_wp2
      go_ret2
      have hall := bytes_ok hno.out
      refine ⟨?_, hbw⟩
      unfold bytesS bytesE
      rw [hall]; rfl
end Go.Proofs.YtajhehmkdlebbaaDoor
