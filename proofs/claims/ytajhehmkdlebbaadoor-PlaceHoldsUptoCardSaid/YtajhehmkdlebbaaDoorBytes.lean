/- enc.Bytes: a program's bytes: what they come to. -/
import Derived.Test.YtajhehmkdlebbaaDoorTab
import Derived.Test.YtajhehmkdlebbaaDoorWord
import Derived.Test.YtajhehmkdlebbaaDoorMore
import Derived.Test.YtajhehmkdlebbaaDoorBuild
import Derived.Deep.LoopGhost
import Derived.Laws.IdiomStrings
import Derived.Lib.BufferRead
namespace Go.Proofs.YtajhehmkdlebbaaDoor
open Go.ChangeShapes Go.WideShapes Go.ChangeAt Go.RowKit Go.Deep
set_option maxRecDepth 100000
def OpD.may (o : OpD) : Bool := mayB o.kind o.rd o.a o.b o.imm
def OpD.word (o : OpD) : Int := wordI o.kind o.rd o.a o.b o.imm
def byteN (v : Int) (i : Nat) : UInt8 := UInt8.ofNat (v / 256 ^ i % 256).toNat
def bytes4 (v : Int) : List UInt8 := (List.range 4).map (byteN v)
def bytesL (l : List OpD) : List UInt8 := l.flatMap fun o => bytes4 o.word
def bytesS (l : List OpD) : ByteArray := if l.all OpD.may then ⟨(bytesL l).toArray⟩ else ByteArray.empty
def bytesE (l : List OpD) : Int := if l.all OpD.may then 0 else 1
theorem bytesL_take {l : List OpD} {k : Nat} (h : k < l.length) : bytesL (l.take (k + 1)) = bytesL (l.take k) ++ bytes4 (l[k]).word := by
  unfold bytesL; rw [List.take_succ_eq_append_getElem h, List.flatMap_append]; simp
theorem bytesL_len (l : List OpD) : (bytesL l).length = 4 * l.length := by
  induction l with
  | nil => rfl
  | cons o l ih => simp only [bytesL, List.flatMap_cons, List.length_append, List.length_cons] at *; rw [ih]; simp [bytes4]; omega
theorem bytes_ok {l : List OpD} (h : ∀ j : Nat, j < l.length → ∀ o, l[j]? = some o → o.may = true) : l.all OpD.may = true := by
  rw [List.all_eq_true]
  intro o ho
  obtain ⟨j, hj⟩ := List.getElem?_of_mem ho
  exact h j (List.getElem?_eq_some_iff.1 hj).1 o hj
theorem bytes_bad {l : List OpD} {k : Nat} (h : k < l.length) (hb : (l[k]).may = false) : l.all OpD.may = false := by
  rw [List.all_eq_false]
  exact ⟨l[k], List.getElem_mem h, by rw [hb]; decide⟩
theorem byteCells_snoc (l : List UInt8) (b : UInt8) : Lib.byteCells l ++ [.int .u8 b.toNat] = Lib.byteCells (l ++ [b]) := by simp [Lib.byteCells]
theorem byteN_toNat (v : Int) (i : Nat) : ((byteN v i).toNat : Int) = v / 256 ^ i % 256 := by
  have h1 : 0 ≤ v / 256 ^ i % 256 := Int.emod_nonneg _ (by decide)
  have h2 : v / 256 ^ i % 256 < 256 := Int.emod_lt_of_pos _ (by decide)
  unfold byteN
  rw [UInt8.toNat_ofNat']
  omega
theorem shr_step (v : Int) (j : Nat) : v / 256 ^ j / 256 = v / 256 ^ (j + 1) := by
  rw [Int.ediv_ediv_of_nonneg (Int.pow_nonneg (by decide)), Int.pow_succ]
theorem isB_below {B b : Nat} {bs : List Value} {w w' : World} (h : IsB B b bs w) (hb : Below w.heap.size w w') : IsB B b bs w' := by
  have go : ∀ p, BAt B b p bs w → BAt B b p bs w' := by
    intro p hp
    have hlt := hp.lt
    obtain ⟨h1, v, h2, h3, h4⟩ := hp
    exact ⟨h1, v, (hb.block _ hlt).trans h2, own_below h3 hb, h4⟩
  rcases h with h | h
  · exact .inl (go _ h)
  · exact .inr (go _ h)
theorem Sl.In.op {w : World} {B : Nat} {A : Option Addr} {cap : Nat} {L : List OpD} (h : Sl.In w B 5 OpD.cells ⟨A, cap, L⟩) {k : Nat} (hk : k < L.length) :
    ∃ b off, A = some ⟨b, off, none⟩ ∧ b < B ∧ w.cell? ⟨b, off + k * 5, none⟩ = some (.int .i64 (L[k]).kind) ∧ w.cell? ⟨b, off + k * 5 + 1, none⟩ = some (.int .i64 (L[k]).rd) ∧ w.cell? ⟨b, off + k * 5 + 2, none⟩ = some (.int .i64 (L[k]).a)
      ∧ w.cell? ⟨b, off + k * 5 + 3, none⟩ = some (.int .i64 (L[k]).b) ∧ w.cell? ⟨b, off + k * 5 + 4, none⟩ = some (.int .i64 (L[k]).imm) := by
  obtain ⟨b, off, h1, h2, h3⟩ := h.at_ hk
  exact ⟨b, off, h1, h2, h3 0 _ rfl, h3 1 _ rfl, h3 2 _ rfl, h3 3 _ rfl, h3 4 _ rfl⟩
theorem word_nn {o : OpD} (h : o.may = true) : 0 ≤ o.word ∧ o.word < 4294967296 := by
  unfold OpD.word OpD.may at *
  have hp := mayB_out h
  obtain ⟨k, hk⟩ := Int.eq_ofNat_of_zero_le (show 0 ≤ o.kind by have := hp.1; omega)
  rw [hk] at hp ⊢
  exact word_bd hp
theorem bytes4_take (v : Int) {j : Nat} (h : j < 4) : (bytes4 v).take (j + 1) = (bytes4 v).take j ++ [byteN v j] := by
  match j, h with
  | 0, _ => rfl
  | 1, _ => rfl
  | 2, _ => rfl
  | 3, _ => rfl
theorem fresh_b (w : World) : IsB w.heap.size w.heap.size [] (w.alloc (.cells #[.pointer none, .slice none 0 0] 145)) := Lib.fresh_isBuilder _ _ w
theorem pow_le_div {v : Int} (h : 0 ≤ v ∧ v < 4294967296) (j : Nat) : 0 ≤ v / 256 ^ j ∧ v / 256 ^ j < 4294967296 := by
  have hp : (0 : Int) < 256 ^ j := Int.pow_pos (by decide)
  exact ⟨Int.ediv_nonneg h.1 (Int.le_of_lt hp), Int.lt_of_le_of_lt (Int.ediv_le_self _ h.1) h.2⟩
set_option maxHeartbeats 1600000 in
theorem bytes_any {A : Option Addr} {cap : Nat} {L : List OpD} {w : World} {B : Nat} (hT : Tab w) (hL : Sl.In w B 5 OpD.cells ⟨A, cap, L⟩) (hB : B ≤ w.heap.size) (hlen : L.length ≤ 10000) :
    Calls Tryd.prog 58 #[.slice A L.length cap] w fun e w' => e = .returned (.tuple #[.string (bytesS L), .int .i64 (bytesE L)]) ∧ Below w.heap.size w w' := by
  have hs := hT.size
  have HT := Lib.hid hT
  clear hT
  go_enter Tryd.func58, Tryd.ntmps58
  go_wp2
  go_loopw [11] (fun i wr => ∃ k : Nat, k ≤ L.length ∧ i = .int .i64 k ∧ IsB w.heap.size w.heap.size (Lib.byteCells (bytesL (L.take k))) wr ∧ Below w.heap.size w wr ∧ Hid (∀ j : Nat, j < k → ∀ o, L[j]? = some o → o.may = true)) (fun i _ => L.length - (intOf i).toNat)
  case atStart => exact ⟨0, Nat.zero_le _, rfl, fresh_b w, (Below.refl _ _).alloc (Nat.le_refl _) _, fun j hj => absurd hj (Nat.not_lt_zero _)⟩
  case round =>
    obtain ⟨k, hk, rfl, hbl, hbw, hno⟩ := hrel
    obtain ⟨wo, rfl⟩ : ∃ wo : World, wo = wr := ⟨_, rfl⟩
    by_cases hlt : k < L.length
    · obtain ⟨b, off, rfl, hb, c0, c1, c2, c3, c4⟩ := (hL.below (hbw.mono hB)).op hlt
      have hso := hbw.size
      cases hm : (L[k]).may
      · have HM := Lib.hid hm
        have hbad : bytesS L = ByteArray.empty ∧ bytesE L = 1 := by
          have := bytes_bad hlt hm
          unfold bytesS bytesE; rw [this]; exact ⟨rfl, rfl⟩
        have HB := Lib.hid hbad
        clear hm hbad
        go_wp2_with (go_at_call 82; refine (word_bad (HT.out.below (hbw.alloc hso _) hs) HM.out).mono ?_; rintro e w1 ⟨rfl, hb1⟩)
        go_ret2
        rw [HB.out.1, HB.out.2]
        exact ⟨rfl, (hbw.alloc hso _).trans (hb1.mono (by simp; omega))⟩
      · have HM := Lib.hid hm
        have hw := word_nn hm
        clear hm
        go_wp2_with (go_at_call 82; refine (word_good (HT.out.below (hbw.alloc hso _) hs) HM.out).mono ?_; rintro e w1 ⟨rfl, hb1⟩)
        have hb1w : Below w.heap.size w w1 := (hbw.alloc hso _).trans (hb1.mono (by simp; omega))
        have hbl1 := isB_below (isB_below hbl ((Below.refl _ wo).alloc (Nat.le_refl _) _)) hb1
        go_loopw [7, 23] (fun x i wr => ∃ j : Nat, j ≤ 4 ∧ i = .int .i64 j ∧ x = .int .u32 ((L[k]).word / 256 ^ j) ∧ IsB w.heap.size w.heap.size (Lib.byteCells (bytesL (L.take k) ++ (bytes4 (L[k]).word).take j)) wr ∧ Below w.heap.size w wr) (fun _ i _ => 4 - (intOf i).toNat)
        case atStart => exact ⟨0, Nat.zero_le _, rfl, by simp [OpD.word], by simpa using hbl1, hb1w⟩
        case round =>
          obtain ⟨j, hj, rfl, rfl, hblr, hbwr⟩ := hrel
          by_cases hj4 : j < 4
          · have hX := pow_le_div hw j
            have hstep := shr_step (L[k]).word j
            obtain ⟨X, hXe⟩ : ∃ X, X = (L[k]).word / 256 ^ j := ⟨_, rfl⟩
            rw [← hXe] at hX hstep ⊢
            have hc : ((byteN (L[k]).word j).toNat : Int) = IntKind.u8.wrap X := by rw [byteN_toNat, hXe, IntKind.wrap_u8]
            have HC := Lib.hid hc
            have HX := Lib.hid hXe
            have HS := Lib.hid hstep
            have hl : (Lib.byteCells (bytesL (L.take k) ++ (bytes4 (L[k]).word).take j)).length + 1 ≤ 140737488355328 := by
              have h1 : (L.take k).length ≤ k := List.length_take_le _ _
              have h2 : ((bytes4 (L[k]).word).take j).length ≤ 4 := by simp [bytes4]; omega
              rw [Lib.byteCells_length, List.length_append, bytesL_len]; omega
            have HL := Lib.hid hl
            clear hc hXe hstep hl
            go_wp2_with (go_at_call 83; refine (b_byte_any _ _ _ _ _ hblr HL.out hbwr.size).mono ?_; rintro e w2 ⟨rfl, hbl2, hb2⟩)
            exact ⟨⟨j + 1, hj4, by go_num, by rw [HS.out], .inr (by rw [bytes4_take _ hj4, ← List.append_assoc, ← byteCells_snoc, HC.out]; exact hbl2), hbwr.trans hb2⟩, by simp [intOf]; omega⟩
          · obtain rfl : j = 4 := by omega
            go_wp2
            exact ⟨⟨k + 1, hlt, by go_num, by rw [bytesL_take hlt]; exact hblr, hbwr, fun i hi o ho => if e : i = k then by subst e; rw [List.getElem?_eq_getElem hlt] at ho; cases ho; exact HM.out else hno.out i (by omega) o ho⟩, by simp [intOf]; omega⟩
    · obtain rfl : k = L.length := by omega
      rw [List.take_length] at hbl
      go_wp2_with (go_at_call 84; refine (b_string _ _ _ _ hbl hbw.size).mono ?_; rintro e w1 ⟨rfl, hb1⟩)
      go_ret2
      have hall := bytes_ok hno.out
      refine ⟨?_, hbw.trans hb1⟩
      unfold bytesS bytesE
      rw [hall]; rfl
end Go.Proofs.YtajhehmkdlebbaaDoor
