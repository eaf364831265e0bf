/- Memory in pages, as Lean data; when it is right: page.Right and the reference's. -/
import Derived.Test.YtajhehmkdlebbaaDoorMore
import Derived.Deep.QuietTactic
import Derived.BigQuiet
import Derived.IntWalk
namespace Go.Proofs.YtajhehmkdlebbaaDoor
open Go.ChangeShapes Go.WideShapes Go.ChangeAt Go.RowKit Go.Deep
set_option maxRecDepth 100000
structure Pg where
  at_ : Int
  perm : Int
  data : ByteArray
def Pg.cells (p : Pg) : List Value := [.int .u64 p.at_, .int .i64 p.perm, .string p.data]
def Pg.ok (p : Pg) : Prop := (0 ≤ p.at_ ∧ p.at_ ≤ 18446744073709551615) ∧ (-9223372036854775808 ≤ p.perm ∧ p.perm ≤ 9223372036854775807) ∧ p.data.size ≤ 140737488351232
theorem Pg.one (p : Pg) : ∀ u ∈ p.cells, u.oneCell' = true := by
  intro u hu
  simp only [Pg.cells, List.mem_cons, List.not_mem_nil, or_false] at hu
  rcases hu with rfl | rfl | rfl <;> rfl
theorem Tryd.cells41 : Tryd.prog.cellsOf 41 = 3 := by kernel_rfl
theorem Tryd.info41 : (Tryd.prog.info? 41).map (fun i => (i.zero, i.size, i.bytes)) = some (some (.agg #[.int .u64 0, .int .i64 0, .string ByteArray.empty]), 3, 32) := by kernel_rfl
theorem opens_page {w : World} : Opens Tryd.prog w 41 Pg.cells Pg.ok := by
  intro H enc fuel cs y h hw
  obtain ⟨n, hl, hf⟩ := open_one Tryd.underlying41 (by kernel_rfl) Tryd.cells41 h hw
  match cs, hl with
  | [c0, c1, c2], _ =>
    obtain ⟨v0, y0, e0, t0, w0⟩ := hf 0 _ rfl
    obtain ⟨v1, y1, e1, t1, w1⟩ := hf 1 _ rfl
    obtain ⟨v2, y2, e2, t2, w2⟩ := hf 2 _ rfl
    obtain ⟨x0, h0, g0⟩ := opens_int Tryd.underlying24 enc _ _ _ t0 w0
    obtain ⟨x1, h1, g1⟩ := opens_int Tryd.underlying3 enc _ _ _ t1 w1
    obtain ⟨x2, h2, g2⟩ := opens_string Tryd.underlying9 enc _ _ _ t2 w2
    simp only [List.getElem?_cons_zero, List.getElem?_cons_succ, Option.some.injEq, List.cons.injEq, and_true] at e0 e1 e2 h0 h1 h2
    subst e0 e1 e2 h0 h1 h2
    exact ⟨⟨x0, x1, x2⟩, rfl, u64_bd g0, i64_bd g1, g2⟩
theorem opens_mem {w : World} : Opens Tryd.prog w 32 (fun s : Sl Pg => [s.v]) (fun s => Sl.Good w w.heap.size 3 32 Pg.cells Pg.ok s ∧ (s.a = none → s.cap = 0)) := opens_slice0 (P := Tryd.prog) (w := w) Tryd.underlying32 Tryd.cells41 (bytes := 32) (by kernel_rfl) (by omega) (fun _ => rfl) opens_page
/-- memory in a slice: where its pages lie -/
abbrev Mem (w : World) (B : Nat) (A : Option Addr) (cap : Nat) (L : List Pg) : Prop := Sl.In w B 3 Pg.cells ⟨A, cap, L⟩
theorem Mem.pg {w : World} {B : Nat} {A : Option Addr} {cap : Nat} {L : List Pg} (h : Mem w B A cap L) {k : Nat} (hk : k < L.length) :
    ∃ b off, A = some ⟨b, off, none⟩ ∧ b < B ∧ w.cell? ⟨b, off + k * 3, none⟩ = some (.int .u64 (L[k]).at_) ∧ w.cell? ⟨b, off + k * 3 + 1, none⟩ = some (.int .i64 (L[k]).perm) ∧ w.cell? ⟨b, off + k * 3 + 2, none⟩ = some (.string (L[k]).data) := by
  obtain ⟨b, off, h1, h2, h3⟩ := h.at_ hk
  exact ⟨b, off, h1, h2, h3 0 _ rfl, h3 1 _ rfl, h3 2 _ rfl⟩
/-! ### Right -/
def OkAt (l : List Pg) (k : Nat) : Prop := ∀ p, l[k]? = some p → p.at_ % 256 = 0 ∧ 0 ≤ p.perm ∧ p.perm ≤ 7 ∧ p.data.size = 256 ∧ ∀ q, 0 < k → l[k - 1]? = some q → q.at_ < p.at_
def RightP (l : List Pg) : Prop := l.length ≤ 64 ∧ ∀ k, k < l.length → OkAt l k
noncomputable instance (l : List Pg) : Decidable (RightP l) := Classical.propDecidable _
noncomputable def rightB (l : List Pg) : Bool := decide (RightP l)
theorem rightB_bad {l : List Pg} {k : Nat} (hk : k < l.length) (h : ¬ OkAt l k) : rightB l = false := decide_eq_false fun hr => h (hr.2 k hk)
theorem rightB_long {l : List Pg} (h : ¬ l.length ≤ 64) : rightB l = false := decide_eq_false fun hr => h hr.1
theorem rightB_all {l : List Pg} (h : ∀ k, k < l.length → OkAt l k) : rightB l = decide (l.length ≤ 64) := by
  unfold rightB
  by_cases h1 : l.length ≤ 64
  · rw [decide_eq_true h1]; exact decide_eq_true ⟨h1, h⟩
  · rw [decide_eq_false h1]; exact decide_eq_false fun hr => h1 hr.1
theorem rightB_out {l : List Pg} (h : rightB l = true) : RightP l := of_decide_eq_true h
/-- what a page must be -/
theorem okAt_split {l : List Pg} {k : Nat} (hk : k < l.length) :
    (¬ (l[k]).at_ % 256 = 0 ∧ ¬ OkAt l k) ∨ ((l[k]).at_ % 256 = 0 ∧ ¬ 0 ≤ (l[k]).perm ∧ ¬ OkAt l k) ∨ ((l[k]).at_ % 256 = 0 ∧ 0 ≤ (l[k]).perm ∧ ¬ (l[k]).perm ≤ 7 ∧ ¬ OkAt l k)
    ∨ ((l[k]).at_ % 256 = 0 ∧ 0 ≤ (l[k]).perm ∧ (l[k]).perm ≤ 7 ∧ ¬ (l[k]).data.size = 256 ∧ ¬ OkAt l k)
    ∨ ((l[k]).at_ % 256 = 0 ∧ 0 ≤ (l[k]).perm ∧ (l[k]).perm ≤ 7 ∧ (l[k]).data.size = 256 ∧ ((k = 0 ∧ OkAt l k) ∨ ∃ k', ∃ h' : k' < l.length, k = k' + 1 ∧ (((l[k']).at_ < (l[k]).at_ ∧ OkAt l k) ∨ (¬ (l[k']).at_ < (l[k]).at_ ∧ ¬ OkAt l k)))) := by
  have hg : l[k]? = some l[k] := List.getElem?_eq_getElem hk
  by_cases h1 : (l[k]).at_ % 256 = 0
  · by_cases h2 : 0 ≤ (l[k]).perm
    · by_cases h3 : (l[k]).perm ≤ 7
      · by_cases h4 : (l[k]).data.size = 256
        · refine .inr (.inr (.inr (.inr ⟨h1, h2, h3, h4, ?_⟩)))
          cases k with
          | zero => exact .inl ⟨rfl, fun p hp => by rw [hg] at hp; cases hp; exact ⟨h1, h2, h3, h4, fun _ h => absurd h (Nat.lt_irrefl 0)⟩⟩
          | succ k' =>
            have hk' : k' < l.length := by omega
            have hg' : l[k']? = some l[k'] := List.getElem?_eq_getElem hk'
            refine .inr ⟨k', hk', rfl, ?_⟩
            by_cases h5 : (l[k']).at_ < (l[k' + 1]).at_
            · exact .inl ⟨h5, fun p hp => by rw [hg] at hp; cases hp; exact ⟨h1, h2, h3, h4, fun q _ hq => by rw [Nat.add_sub_cancel, hg'] at hq; cases hq; exact h5⟩⟩
            · exact .inr ⟨h5, fun h => h5 ((h _ hg).2.2.2.2 _ (Nat.succ_pos _) (by rw [Nat.add_sub_cancel]; exact hg'))⟩
        · exact .inr (.inr (.inr (.inl ⟨h1, h2, h3, h4, fun h => h4 (h _ hg).2.2.2.1⟩)))
      · exact .inr (.inr (.inl ⟨h1, h2, h3, fun h => h3 (h _ hg).2.2.1⟩))
    · exact .inr (.inl ⟨h1, h2, fun h => h2 (h _ hg).2.1⟩)
  · exact .inl ⟨h1, fun h => h1 (h _ hg).1⟩
set_option maxHeartbeats 1600000 in
theorem right_any {A : Option Addr} {cap : Nat} {L : List Pg} {w : World} {B : Nat} (hL : Mem w B A cap L) (hB : B ≤ w.heap.size) (hwf : ∀ p ∈ L, p.ok) (hlen : L.length ≤ 140737488351232) :
    Calls Tryd.prog 73 #[.slice A L.length cap] w fun e w' => e = .returned (.bool (rightB L)) ∧ Below w.heap.size w w' := by
  have HWF := Lib.hid hwf
  clear hwf
  go_enter Tryd.func73, Tryd.ntmps73
  go_wp2
  go_loopw [7] (fun i wr => ∃ k : Nat, k ≤ L.length ∧ i = .int .i64 k ∧ Below w.heap.size w wr ∧ Hid (∀ j, j < k → OkAt L j)) (fun i _ => L.length - (intOf i).toNat)
  case atStart => exact ⟨0, Nat.zero_le _, rfl, Below.refl _ _, fun j hj => absurd hj (Nat.not_lt_zero _)⟩
  case round =>
    obtain ⟨k, hk, rfl, hbw, hno⟩ := hrel
    by_cases hlt : k < L.length
    · obtain ⟨b, off, rfl, hb, c0, c1, c2⟩ := Mem.pg (Sl.In.below hL (hbw.mono hB)) hlt
      obtain ⟨ha, hp, hd⟩ := HWF.out _ (List.getElem_mem hlt)
      have hso := hbw.size
      rcases okAt_split hlt with ⟨h1, hn⟩ | ⟨h1, h2, hn⟩ | ⟨h1, h2, h3, hn⟩ | ⟨h1, h2, h3, h4, hn⟩ | ⟨h1, h2, h3, h4, hh⟩
      · have e1 : ((L[k]).at_ % 256 != 0) = true := by simpa using h1
        have HR := Lib.hid (rightB_bad hlt hn)
        clear hn h1
        go_wp2
        go_ret
        rw [HR.out]
        exact ⟨rfl, hbw.alloc hso _⟩
      · have e1 : ((L[k]).at_ % 256 != 0) = false := by simpa using h1
        have HR := Lib.hid (rightB_bad hlt hn)
        have h2' : (L[k]).perm < 0 := by omega
        clear hn h1 h2
        go_wp2
        go_ret
        rw [HR.out]
        exact ⟨rfl, hbw.alloc hso _⟩
      · have e1 : ((L[k]).at_ % 256 != 0) = false := by simpa using h1
        have HR := Lib.hid (rightB_bad hlt hn)
        have h3' : 7 < (L[k]).perm := by omega
        clear hn h1 h3
        go_wp2
        go_ret
        rw [HR.out]
        exact ⟨rfl, hbw.alloc hso _⟩
      · have e1 : ((L[k]).at_ % 256 != 0) = false := by simpa using h1
        have e4 : (((L[k]).data.size : Int) != 256) = true := by simp <;> omega
        have HR := Lib.hid (rightB_bad hlt hn)
        clear hn h1 h4
        go_wp2
        go_ret
        rw [HR.out]
        exact ⟨rfl, hbw.alloc hso _⟩
      · have e1 : ((L[k]).at_ % 256 != 0) = false := by simpa using h1
        have e4 : (((L[k]).data.size : Int) != 256) = false := by simp <;> omega
        clear h1 h4
        rcases hh with ⟨hk0, hok⟩ | ⟨k', hk', rfl, ⟨h5, hok⟩ | ⟨h5, hn⟩⟩
        · have HOK := Lib.hid hok
          have HK0 := Lib.hid hk0
          have u0 : decide (0 < k) = false := decide_eq_false (by omega)
          clear hok hk0
          go_wp2_with fail
          go_quiet (fail)
          go_wp2
          exact ⟨⟨k + 1, hlt, by go_num, below_drewN (hbw.alloc hso _) _, fun j hj => by obtain rfl : j = k := (by have := HK0.out; omega); exact HOK.out⟩, by simp [intOf]; omega⟩
        · obtain ⟨b', off', h', hb', d0, d1, d2⟩ := Mem.pg (Sl.In.below hL (hbw.mono hB)) hk'
          obtain ⟨rfl, rfl⟩ : b = b' ∧ off = off' := by simpa using h'
          have HOK := Lib.hid hok
          have u0 : decide ((0 : Int) < (k' : Int) + 1) = true := by simp <;> omega
          have u1 : IntKind.i64.wrap (k' : Int) = k' := IntWalk.i64_in _ (by omega)
          have u2 : decide ((L[k' + 1]).at_ ≤ (L[k']).at_) = false := decide_eq_false (by omega)
          clear hok d1 d2
          have hbz : b < wr.heap.size := by omega
          have i1 : (0 : Int) ≤ (k' : Int) := by omega
          have i2 : (k' : Int) < (L.length : Int) := by omega
          go_wp2_with fail
          go_quiet (fail)
          go_wp2
          exact ⟨⟨k' + 1 + 1, hlt, by go_num, below_drewN (hbw.alloc hso _) _, fun j hj => if e : j = k' + 1 then by rw [e]; exact HOK.out else hno.out j (by omega)⟩, by simp [intOf]; omega⟩
        · obtain ⟨b', off', h', hb', d0, d1, d2⟩ := Mem.pg (Sl.In.below hL (hbw.mono hB)) hk'
          obtain ⟨rfl, rfl⟩ : b = b' ∧ off = off' := by simpa using h'
          have HR := Lib.hid (rightB_bad hlt hn)
          have u0 : decide ((0 : Int) < (k' : Int) + 1) = true := by simp <;> omega
          have u1 : IntKind.i64.wrap (k' : Int) = k' := IntWalk.i64_in _ (by omega)
          have u2 : decide ((L[k' + 1]).at_ ≤ (L[k']).at_) = true := decide_eq_true (by omega)
          clear hn d1 d2
          have hbz : b < wr.heap.size := by omega
          have i1 : (0 : Int) ≤ (k' : Int) := by omega
          have i2 : (k' : Int) < (L.length : Int) := by omega
          go_wp2_with fail
          go_quiet (fail)
          go_wp2
          go_ret
          rw [HR.out]
          exact ⟨rfl, below_drewN (hbw.alloc hso _) _⟩
    · obtain rfl : k = L.length := by omega
      have HR := Lib.hid (rightB_all hno.out)
      go_wp2
      go_ret
      rw [HR.out]
      exact ⟨ret_bool (by congr 1; apply propext; omega), hbw⟩
end Go.Proofs.YtajhehmkdlebbaaDoor
