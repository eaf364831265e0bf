/- Images, as Lean data; when one may be. -/
import Derived.Test.YtajhehmkdlebbaaDoorMore
import Derived.Deep.QuietTactic
import Derived.BigQuiet
namespace Go.Proofs.YtajhehmkdlebbaaDoor
open Go.ChangeShapes Go.WideShapes Go.ChangeAt Go.RowKit Go.Deep
set_option maxRecDepth 100000
structure Sg where
  at_ : Int
  perm : Int
  data : ByteArray
  size : Int
def Sg.cells (s : Sg) : List Value := [.int .u64 s.at_, .int .i64 s.perm, .string s.data, .int .u64 s.size]
def Sg.ok (s : Sg) : Prop := (0 ≤ s.at_ ∧ s.at_ ≤ 18446744073709551615) ∧ (-9223372036854775808 ≤ s.perm ∧ s.perm ≤ 9223372036854775807) ∧ s.data.size ≤ 140737488351232 ∧ (0 ≤ s.size ∧ s.size ≤ 18446744073709551615)
theorem Sg.one (s : Sg) : ∀ u ∈ s.cells, u.oneCell' = true := by
  intro u hu
  simp only [Sg.cells, List.mem_cons, List.not_mem_nil, or_false] at hu
  rcases hu with rfl | rfl | rfl | rfl <;> rfl
theorem Tryd.cells108 : Tryd.prog.cellsOf 108 = 4 := by kernel_rfl
theorem opens_seg {w : World} : Opens Tryd.prog w 108 Sg.cells Sg.ok := by
  intro H enc fuel cs y h hw
  obtain ⟨n, hl, hf⟩ := open_one Tryd.underlying108 (by kernel_rfl) Tryd.cells108 h hw
  match cs, hl with
  | [c0, c1, c2, c3], _ =>
    obtain ⟨v0, y0, e0, t0, w0⟩ := hf 0 _ rfl
    obtain ⟨v1, y1, e1, t1, w1⟩ := hf 1 _ rfl
    obtain ⟨v2, y2, e2, t2, w2⟩ := hf 2 _ rfl
    obtain ⟨v3, y3, e3, t3, w3⟩ := hf 3 _ rfl
    obtain ⟨x0, h0, g0⟩ := opens_int Tryd.underlying24 enc _ _ _ t0 w0
    obtain ⟨x1, h1, g1⟩ := opens_int Tryd.underlying3 enc _ _ _ t1 w1
    obtain ⟨x2, h2, g2⟩ := opens_string Tryd.underlying9 enc _ _ _ t2 w2
    obtain ⟨x3, h3, g3⟩ := opens_int Tryd.underlying24 enc _ _ _ t3 w3
    simp only [List.getElem?_cons_zero, List.getElem?_cons_succ, Option.some.injEq, List.cons.injEq, and_true] at e0 e1 e2 e3 h0 h1 h2 h3
    subst e0 e1 e2 e3 h0 h1 h2 h3
    exact ⟨⟨x0, x1, x2, x3⟩, rfl, u64_bd g0, i64_bd g1, g2, u64_bd g3⟩
theorem opens_segs {w : World} : Opens Tryd.prog w 47 (fun s : Sl Sg => [s.v]) (fun s => Sl.Good w w.heap.size 4 40 Sg.cells Sg.ok s ∧ (s.a = none → s.cap = 0)) := opens_slice0 (P := Tryd.prog) (w := w) Tryd.underlying47 Tryd.cells108 (bytes := 40) (by kernel_rfl) (by omega) (fun _ => rfl) opens_seg
/-- an image's segments in a slice: where they lie -/
abbrev Sgs (w : World) (B : Nat) (A : Option Addr) (cap : Nat) (L : List Sg) : Prop := Sl.In w B 4 Sg.cells ⟨A, cap, L⟩
theorem Sgs.sg {w : World} {B : Nat} {A : Option Addr} {cap : Nat} {L : List Sg} (h : Sgs w B A cap L) {k : Nat} (hk : k < L.length) :
    ∃ b off, A = some ⟨b, off, none⟩ ∧ b < B ∧ w.cell? ⟨b, off + k * 4, none⟩ = some (.int .u64 (L[k]).at_) ∧ w.cell? ⟨b, off + k * 4 + 1, none⟩ = some (.int .i64 (L[k]).perm) ∧ w.cell? ⟨b, off + k * 4 + 2, none⟩ = some (.string (L[k]).data) ∧ w.cell? ⟨b, off + k * 4 + 3, none⟩ = some (.int .u64 (L[k]).size) := by
  obtain ⟨b, off, h1, h2, h3⟩ := h.at_ hk
  exact ⟨b, off, h1, h2, h3 0 _ rfl, h3 1 _ rfl, h3 2 _ rfl, h3 3 _ rfl⟩
/-- an image among a law's arguments -/
def SgG (w : World) (A : Option Addr) (cap : Nat) (L : List Sg) : Prop := Sgs w w.heap.size A cap L ∧ (A = none → cap = 0) ∧ (∀ s ∈ L, s.ok) ∧ L.length ≤ 140737488351232
theorem SgG.of {w : World} {s : Sl Sg} (h : Sl.Good w w.heap.size 4 40 Sg.cells Sg.ok s ∧ (s.a = none → s.cap = 0)) : SgG w s.a s.cap s.l := by
  refine ⟨h.1.1, h.2, h.1.2.2.2, ?_⟩
  have h1 := h.1.1.1
  have h2 := h.1.2.1
  omega
structure Im where
  entry : Int
  segs : Sl Sg
def Im.cells (x : Im) : List Value := [.int .u64 x.entry, x.segs.v]
def Im.Good (w : World) (x : Im) : Prop := (0 ≤ x.entry ∧ x.entry ≤ 18446744073709551615) ∧ SgG w x.segs.a x.segs.cap x.segs.l
theorem opens_img {w : World} : Opens Tryd.prog w 49 Im.cells (Im.Good w) := by
  intro H enc fuel cs y h hw
  obtain ⟨n, hl, hf⟩ := open_one Tryd.underlying49 (by kernel_rfl) (show Tryd.prog.cellsOf 49 = 2 by kernel_rfl) h hw
  match cs, hl with
  | [c0, c1], _ =>
    obtain ⟨v0, y0, e0, t0, w0⟩ := hf 0 _ rfl
    obtain ⟨v1, y1, e1, t1, w1⟩ := hf 1 _ rfl
    obtain ⟨x0, h0, g0⟩ := opens_int Tryd.underlying24 enc _ _ _ t0 w0
    obtain ⟨x1, h1, g1⟩ := opens_segs enc _ _ _ t1 w1
    simp only [List.getElem?_cons_zero, List.getElem?_cons_succ, Option.some.injEq, List.cons.injEq, and_true] at e0 e1 h0 h1
    subst e0 e1 h0 h1
    exact ⟨⟨x0, x1⟩, rfl, u64_bd g0, SgG.of g1⟩
/-! ### May -/
def pagesI (n : Int) : Int := (n + 255) / 256
/-- what a segment must be by itself -/
def SegA (s : Sg) : Prop := s.at_ % 256 = 0 ∧ s.at_ < 1099511627776 ∧ (1 ≤ s.perm ∧ s.perm ≤ 7) ∧ s.perm % 4 ≠ 3 ∧ (1 ≤ s.size ∧ s.size ≤ 16384) ∧ (s.data.size : Int) ≤ s.size
def endI (s : Sg) : Int := s.at_ + pagesI s.size * 256
/-- where the segments ahead of number k end -/
def behI (l : List Sg) : Nat → Int
  | 0 => 0
  | k + 1 => match l[k]? with
    | some s => endI s
    | none => 0
def SegAt (l : List Sg) (k : Nat) : Prop := ∀ s, l[k]? = some s → SegA s ∧ behI l k ≤ s.at_
def inB (e : Int) (s : Sg) : Bool := decide (s.perm % 2 = 1 ∧ s.at_ ≤ e ∧ e < s.at_ + s.size)
def IMayP (e : Int) (l : List Sg) : Prop := (1 ≤ l.length ∧ l.length ≤ 4) ∧ (∀ k, k < l.length → SegAt l k) ∧ l.any (inB e) = true
noncomputable instance (e : Int) (l : List Sg) : Decidable (IMayP e l) := Classical.propDecidable _
noncomputable def imayB (e : Int) (l : List Sg) : Bool := decide (IMayP e l)
theorem imayB_out {e : Int} {l : List Sg} (h : imayB e l = true) : IMayP e l := of_decide_eq_true h
theorem imayB_bad {e : Int} {l : List Sg} {k : Nat} (hk : k < l.length) (h : ¬ SegAt l k) : imayB e l = false := decide_eq_false fun hm => h (hm.2.1 k hk)
theorem imayB_len {e : Int} {l : List Sg} (h : ¬ (1 ≤ l.length ∧ l.length ≤ 4)) : imayB e l = false := decide_eq_false fun hm => h hm.1
theorem imayB_all {e : Int} {l : List Sg} (hl : 1 ≤ l.length ∧ l.length ≤ 4) (h : ∀ k, k < l.length → SegAt l k) : imayB e l = l.any (inB e) := by
  unfold imayB
  cases hb : l.any (inB e)
  · exact decide_eq_false fun hm => by rw [hm.2.2] at hb; cases hb
  · exact decide_eq_true ⟨hl, h, hb⟩
theorem behI_succ {l : List Sg} {k : Nat} (hk : k < l.length) : behI l (k + 1) = endI l[k] := by
  simp only [behI, List.getElem?_eq_getElem hk]
theorem endI_bd {s : Sg} (h : SegA s) (ho : s.ok) : 0 ≤ endI s ∧ endI s ≤ 1099511660544 := by
  obtain ⟨h1, h2, h3, h4, h5, h6⟩ := h
  have := ho.1
  unfold endI pagesI
  omega
/-! ### elf.pages, elf.seg -/
theorem pages_any (n : Int) (w : World) (hn : 0 ≤ n ∧ n ≤ 1099511660544) :
    Calls Tryd.prog 87 #[.int .u64 n] w fun e w' => e = .returned (.int .u64 (pagesI n)) ∧ w = w' := by
  have e1 : IntKind.u64.wrap (n + 256) = n + 256 := by rw [IntKind.wrap_u64]; omega
  have e2 : IntKind.u64.wrap (n + 256 - 1) = n + 255 := by rw [IntKind.wrap_u64]; omega
  have e3 : (n + 255).tdiv 256 = pagesI n := Int.tdiv_eq_ediv_of_nonneg (by omega)
  have e4 : IntKind.u64.wrap (pagesI n) = pagesI n := by rw [IntKind.wrap_u64]; unfold pagesI; omega
  have e5 : (n + 255) / 256 = pagesI n := rfl
  go_enter Tryd.func87, Tryd.ntmps87
  go_wp2
  go_ret
  exact ⟨by rw [← e5]; rfl, rfl⟩
theorem up_any (n : Int) (w : World) (hn : 0 ≤ n ∧ n ≤ 1099511660544) :
    Calls Tryd.prog 62 #[.int .u64 n] w fun e w' => e = .returned (.int .u64 (pagesI n * 256)) ∧ w = w' := by
  have e1 : IntKind.u64.wrap (n + 255) = n + 255 := by rw [IntKind.wrap_u64]; omega
  have e4 : IntKind.u64.wrap (pagesI n * 256) = pagesI n * 256 := by rw [IntKind.wrap_u64]; unfold pagesI; omega
  have e5 : (n + 255) / 256 = pagesI n := rfl
  go_enter Tryd.func62, Tryd.ntmps62
  go_wp2
  go_ret
  exact ⟨by rw [← e5]; rfl, rfl⟩
theorem and3_all : ∀ a ∈ List.range 8, (bits .and .i64 (a : Int) 3 == 3) = decide ((a : Int) % 4 = 3) := by decide +kernel
theorem and1_all : ∀ a ∈ List.range 8, (bits .and .i64 (a : Int) 1 != 0) = decide ((a : Int) % 2 = 1) := by decide +kernel
theorem and3 {p : Int} (h : 0 ≤ p ∧ p ≤ 7) : (bits .and .i64 p 3 == 3) = decide (p % 4 = 3) := by
  obtain ⟨a, rfl⟩ := Int.eq_ofNat_of_zero_le h.1
  exact and3_all a (List.mem_range.2 (by omega))
theorem and1 {p : Int} (h : 0 ≤ p ∧ p ≤ 7) : (bits .and .i64 p 1 != 0) = decide (p % 2 = 1) := by
  obtain ⟨a, rfl⟩ := Int.eq_ofNat_of_zero_le h.1
  exact and1_all a (List.mem_range.2 (by omega))
noncomputable instance (s : Sg) : Decidable (SegA s) := Classical.propDecidable _
noncomputable def segB (s : Sg) (beh : Int) : Bool := decide (SegA s ∧ beh ≤ s.at_)
theorem seg_ways {s : Sg} {beh : Int} (h : ¬ (SegA s ∧ beh ≤ s.at_)) : ¬ s.at_ % 256 = 0 ∨ (s.at_ % 256 = 0 ∧ (1099511627776 ≤ s.at_ ∨ (s.at_ < 1099511627776 ∧ (s.at_ < beh ∨ (beh ≤ s.at_ ∧ (s.perm < 1 ∨ (1 ≤ s.perm ∧ (7 < s.perm ∨ (s.perm ≤ 7 ∧ (s.perm % 4 = 3 ∨ (¬ s.perm % 4 = 3 ∧ (s.size < 1 ∨ (1 ≤ s.size ∧ (16384 < s.size ∨ (s.size ≤ 16384 ∧ s.size < (s.data.size : Int)))))))))))))))) := by
  unfold SegA at h
  omega
set_option maxHeartbeats 2000000 in
theorem seg_any (s : Sg) (beh : Int) (w : World) (ho : s.ok) :
    Calls Tryd.prog 86 #[.agg #[.int .u64 s.at_, .int .i64 s.perm, .string s.data, .int .u64 s.size], .int .u64 beh] w fun e w' => e = .returned (.bool (segB s beh)) ∧ Below w.heap.size w w' := by
  have hb : Below w.heap.size w (w.alloc (.cells #[.int .u64 s.at_, .int .i64 s.perm, .string s.data, .int .u64 s.size] 108)) := (Below.refl _ _).alloc (Nat.le_refl _) _
  have HB := Lib.hid hb
  obtain ⟨h0, h1, h2, h3⟩ := ho
  clear hb
  by_cases hc : SegA s ∧ beh ≤ s.at_
  · have hT : segB s beh = true := decide_eq_true hc
    have HT := Lib.hid hT
    obtain ⟨⟨c1, c2, ⟨c3, c4⟩, c5, ⟨c6, c7⟩, c8⟩, c9⟩ := hc
    have hand := and3 (p := s.perm) (by omega)
    rw [decide_eq_false c5] at hand
    have e1 : (s.at_ % 256 == 0) = true := by simpa using c1
    have e8 : IntKind.u64.wrap (s.data.size : Int) = s.data.size := by rw [IntKind.wrap_u64]; omega
    clear hT c1 c5
    go_enter Tryd.func86, Tryd.ntmps86
    go_wp2
    go_ret
    rw [HT.out]
    exact ⟨rfl, HB.out⟩
  · have hT : segB s beh = false := decide_eq_false hc
    have HT := Lib.hid hT
    have hw := seg_ways hc
    clear hT hc
    rcases hw with c1 | ⟨c1, c2 | ⟨c2, c3 | ⟨c3, c4 | ⟨c4, c5 | ⟨c5, c6 | ⟨c6, c7 | ⟨c7, c8 | ⟨c8, c9⟩⟩⟩⟩⟩⟩⟩⟩
    · obtain ⟨Q, hQ⟩ : ∃ Q, (bits .and .i64 s.perm 3 == 3) = Q := ⟨_, rfl⟩
      have e1 : (s.at_ % 256 == 0) = false := by simpa using c1
      clear c1
      go_enter Tryd.func86, Tryd.ntmps86
      go_wp2
      go_ret
      rw [HT.out]
      exact ⟨rfl, HB.out⟩
    · obtain ⟨Q, hQ⟩ : ∃ Q, (bits .and .i64 s.perm 3 == 3) = Q := ⟨_, rfl⟩
      have e1 : (s.at_ % 256 == 0) = true := by simpa using c1
      clear c1
      go_enter Tryd.func86, Tryd.ntmps86
      go_wp2
      go_ret
      rw [HT.out]
      exact ⟨rfl, HB.out⟩
    · obtain ⟨Q, hQ⟩ : ∃ Q, (bits .and .i64 s.perm 3 == 3) = Q := ⟨_, rfl⟩
      have e1 : (s.at_ % 256 == 0) = true := by simpa using c1
      clear c1
      go_enter Tryd.func86, Tryd.ntmps86
      go_wp2
      go_ret
      rw [HT.out]
      exact ⟨rfl, HB.out⟩
    · obtain ⟨Q, hQ⟩ : ∃ Q, (bits .and .i64 s.perm 3 == 3) = Q := ⟨_, rfl⟩
      have e1 : (s.at_ % 256 == 0) = true := by simpa using c1
      clear c1
      go_enter Tryd.func86, Tryd.ntmps86
      go_wp2
      go_ret
      rw [HT.out]
      exact ⟨rfl, HB.out⟩
    · obtain ⟨Q, hQ⟩ : ∃ Q, (bits .and .i64 s.perm 3 == 3) = Q := ⟨_, rfl⟩
      have e1 : (s.at_ % 256 == 0) = true := by simpa using c1
      clear c1
      go_enter Tryd.func86, Tryd.ntmps86
      go_wp2
      go_ret
      rw [HT.out]
      exact ⟨rfl, HB.out⟩
    · have hand := and3 (p := s.perm) (by omega)
      rw [decide_eq_true c6] at hand
      have e1 : (s.at_ % 256 == 0) = true := by simpa using c1
      clear c1 c6
      go_enter Tryd.func86, Tryd.ntmps86
      go_wp2
      go_ret
      rw [HT.out]
      exact ⟨rfl, HB.out⟩
    · have hand := and3 (p := s.perm) (by omega)
      rw [decide_eq_false c6] at hand
      have e1 : (s.at_ % 256 == 0) = true := by simpa using c1
      have e7 : decide (1 ≤ s.size) = false := decide_eq_false (by omega)
      clear c1 c6
      go_enter Tryd.func86, Tryd.ntmps86
      go_wp2
      go_ret
      rw [HT.out]
      exact ⟨rfl, HB.out⟩
    · have hand := and3 (p := s.perm) (by omega)
      rw [decide_eq_false c6] at hand
      have e1 : (s.at_ % 256 == 0) = true := by simpa using c1
      clear c1 c6
      go_enter Tryd.func86, Tryd.ntmps86
      go_wp2
      go_ret
      rw [HT.out]
      exact ⟨rfl, HB.out⟩
    · have hand := and3 (p := s.perm) (by omega)
      rw [decide_eq_false c6] at hand
      have e1 : (s.at_ % 256 == 0) = true := by simpa using c1
      have e8 : IntKind.u64.wrap (s.data.size : Int) = s.data.size := by rw [IntKind.wrap_u64]; omega
      have e9 : decide ((s.data.size : Int) ≤ s.size) = false := decide_eq_false (by omega)
      clear c1 c6
      go_enter Tryd.func86, Tryd.ntmps86
      go_wp2
      go_ret
      rw [HT.out]
      exact ⟨rfl, HB.out⟩
end Go.Proofs.YtajhehmkdlebbaaDoor
