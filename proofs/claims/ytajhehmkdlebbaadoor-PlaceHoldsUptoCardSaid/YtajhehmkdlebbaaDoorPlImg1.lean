/- place.first, and whether instructions may be: the walks. -/
import Derived.Test.YtajhehmkdlebbaaDoorPlFix3
import Derived.Test.YtajhehmkdlebbaaDoorMay
import Derived.OrdersHeld
namespace Go.Proofs.YtajhehmkdlebbaaDoor.Pl
open Go.ChangeShapes Go.WideShapes Go.ChangeAt Go.RowKit Go.Deep Go.Proofs.YtajhehmkdlebbaaDoor
set_option maxRecDepth 100000
/-- the beginning -/
def firstL (stack main : Int) : List OpD := [⟨27, 2, 0, 0, highI stack⟩, ⟨12, 2, 2, 0, lowI stack⟩, ⟨29, 1, 0, 0, wrap64 (IntKind.u64.wrap (IntKind.u64.wrap (main - 65536) - 8))⟩, ⟨12, 17, 0, 0, 93⟩, ⟨31, 0, 0, 0, 0⟩]
theorem first_any (stack main : Int) (w : World) :
    Calls Tryd.prog 53 #[.int .u64 stack, .int .u64 main] w fun e w' => ∃ v, e = .returned v ∧ OwnO w' w.heap.size v (firstL stack main) ∧ Below w.heap.size w w' := by
  go_enter Tryd.func53, Tryd.ntmps53
  go_wp2_with (first | (go_at_call 48; refine (low_any _ _).mono ?_; rintro e w' ⟨rfl, rfl⟩) | (go_at_call 49; refine (high_any _ _).mono ?_; rintro e w' ⟨rfl, rfl⟩))
  go_ret
  refine ⟨_, rfl, ⟨by simp [firstL, OpD.cells], .inr ⟨w.heap.size, 5, _, rfl, Nat.le_refl _, heap_alloc_new w _, Nat.le_refl _, by decide, by simp, rfl⟩⟩, (Below.refl _ _).alloc (Nat.le_refl _) _⟩
def mayO (o : OpD) : Bool := mayB o.kind o.rd o.a o.b o.imm
theorem bad_any (o : OpD) {w : World} (hT : Tab w) :
    Calls Tryd.prog 56 #[.agg #[.int .i64 o.kind, .int .i64 o.rd, .int .i64 o.a, .int .i64 o.b, .int .i64 o.imm]] w fun e w' => e = .returned (.bool (!mayO o)) ∧ Below w.heap.size w w' := by
  have HB0 : Hid (Below w.heap.size w (w.alloc (.cells #[.int .i64 o.kind, .int .i64 o.rd, .int .i64 o.a, .int .i64 o.b, .int .i64 o.imm] 23))) := (Below.refl _ _).alloc (Nat.le_refl _) _
  have HT := Lib.hid (hT.below HB0.out hT.size)
  clear hT
  go_enter Tryd.func56, Tryd.ntmps56
  go_wp2_with fail
  refine (may_any o.kind o.rd o.a o.b o.imm HT.out).mono ?_
  rintro e w1 ⟨rfl, hb1⟩
  have HB1 := Lib.hid (HB0.out.trans (hb1.mono HB0.out.size))
  clear hb1
  go_wp2
  go_ret
  exact ⟨rfl, HB1.out⟩
theorem Ops.at_ {w : World} {B cap : Nat} {A : Option Addr} {L : List OpD} (h : (⟨A, cap, L⟩ : Sl OpD).In w B 5 OpD.cells) {k : Nat} (hk : k < L.length) : ∃ b off, A = some ⟨b, off, none⟩ ∧ b < B ∧
    w.cell? ⟨b, off + k * 5, none⟩ = some (.int .i64 (L[k]).kind) ∧ w.cell? ⟨b, off + k * 5 + 1, none⟩ = some (.int .i64 (L[k]).rd) ∧ w.cell? ⟨b, off + k * 5 + 2, none⟩ = some (.int .i64 (L[k]).a) ∧
    w.cell? ⟨b, off + k * 5 + 3, none⟩ = some (.int .i64 (L[k]).b) ∧ w.cell? ⟨b, off + k * 5 + 4, none⟩ = some (.int .i64 (L[k]).imm) := by
  obtain ⟨b, off, h1, h2, h3⟩ := h.at_ hk
  exact ⟨b, off, h1, h2, h3 0 _ rfl, h3 1 _ rfl, h3 2 _ rfl, h3 3 _ rfl, h3 4 _ rfl⟩
theorem anyO_take {l : List OpD} {p : OpD → Bool} {k : Nat} (hk : k < l.length) : (l.take (k + 1)).any p = ((l.take k).any p || p l[k]) := by
  rw [List.take_add_one, List.getElem?_eq_getElem hk, List.any_append]
  simp
def badO (o : OpD) : Bool := !mayO o
set_option maxHeartbeats 1000000 in
theorem indexO_any {A : Option Addr} {cap : Nat} {L : List OpD} {w : World} {B : Nat} (hT : Tab w) (hL : (⟨A, cap, L⟩ : Sl OpD).In w B 5 OpD.cells) (hB : B ≤ w.heap.size) (hlen : L.length ≤ 140737488351232) :
    Calls Tryd.prog 80 #[.slice A L.length cap, .func (.func 56) #[] #[]] w fun e' w' => ∃ r : Int, e' = .returned (.int .i64 r) ∧ decide (0 ≤ r) = L.any badO ∧ Below w.heap.size w w' := by
  have HT := Lib.hid hT
  have HL := Lib.hid hL
  have hs := hT.size
  clear hT hL
  go_enter Tryd.func80, Tryd.ntmps80
  go_wp2
  go_loopw [8] (fun i wr => ∃ k : Nat, k ≤ L.length ∧ i = .int .i64 k ∧ Hid ((L.take k).any badO = false) ∧ Below w.heap.size w wr) (fun i _ => L.length - (intOf i).toNat)
  case atStart => exact ⟨0, Nat.zero_le _, rfl, rfl, Below.refl _ _⟩
  case round =>
    obtain ⟨k, hk, rfl, hno, hbw⟩ := hrel
    by_cases hlt : k < L.length
    · obtain ⟨b', off, rfl, hb', c0, c1, c2, c3, c4⟩ := Ops.at_ (Sl.In.below HL.out (hbw.mono hB)) hlt
      have hso := hbw.size
      have HCON := Lib.hid (bad_any L[k] (w := wr) (HT.out.below hbw hs))
      have i1 : (0 : Int) ≤ (k : Int) := by omega
      have i2 : (k : Int) < (L.length : Int) := by omega
      have HBW := Lib.hid hbw
      clear hbw
      cases hp : badO L[k]
      · have hno' : Hid ((L.take (k + 1)).any badO = false) := by show _ = _; rw [anyO_take hlt, hno.out, hp]; rfl
        have HP := Lib.hid (show (!mayO L[k]) = false from hp)
        clear hp
        go_wp2_with fail
        refine HCON.out.mono ?_
        rintro e' w1 ⟨rfl, hb1⟩
        rw [HP.out]
        go_wp2
        exact ⟨⟨k + 1, hlt, by go_num, hno', HBW.out.trans (hb1.mono hso)⟩, by simp [intOf]; omega⟩
      · have HAny : Hid (L.any badO = true) := List.any_eq_true.2 ⟨_, List.getElem_mem hlt, hp⟩
        have HP := Lib.hid (show (!mayO L[k]) = true from hp)
        clear hp
        go_wp2_with fail
        refine HCON.out.mono ?_
        rintro e' w1 ⟨rfl, hb1⟩
        rw [HP.out]
        go_wp2
        go_ret
        exact ⟨k, rfl, by rw [HAny.out]; exact decide_eq_true (by omega), HBW.out.trans (hb1.mono hso)⟩
    · obtain rfl : k = L.length := by omega
      have hno' := hno.out
      rw [List.take_length] at hno'
      have HN := Lib.hid hno'
      clear hno'
      go_wp2
      go_ret
      exact ⟨-1, rfl, by rw [HN.out]; rfl, hbw⟩
theorem containsO_any {A : Option Addr} {cap : Nat} {L : List OpD} {w : World} {B : Nat} (hT : Tab w) (hL : (⟨A, cap, L⟩ : Sl OpD).In w B 5 OpD.cells) (hB : B ≤ w.heap.size) (hlen : L.length ≤ 140737488351232) :
    Calls Tryd.prog 55 #[.slice A L.length cap, .func (.func 56) #[] #[]] w fun e' w' => e' = .returned (.bool (L.any badO)) ∧ Below w.heap.size w w' := by
  have HC := Lib.hid (indexO_any hT hL hB hlen)
  clear hL hT
  go_enter Tryd.func55, Tryd.ntmps55
  go_wp2_with fail
  refine HC.out.mono ?_
  rintro e' w1 ⟨r, rfl, hr, hb1⟩
  have HR := Lib.hid hr
  clear hr
  go_wp2
  go_ret
  rw [← HR.out]
  exact ⟨rfl, hb1⟩
end Go.Proofs.YtajhehmkdlebbaaDoor.Pl
