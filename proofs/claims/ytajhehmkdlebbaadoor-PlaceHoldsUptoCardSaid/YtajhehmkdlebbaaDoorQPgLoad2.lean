/- page.Load: as the reference's. -/
import Derived.Test.YtajhehmkdlebbaaDoorQPgIt
import Derived.Test.YtajhehmkdlebbaaDoorQPgLd
import Derived.Test.YtajhehmkdlebbaaDoorCalm
import Derived.RangeFuncBox
import Derived.Sort.QuietIn
import Derived.Laws.BitsAllLaws
namespace Go.Proofs.YtajhehmkdlebbaaDoor
open Go.ChangeShapes Go.WideShapes Go.ChangeAt Go.RowKit Go.Deep Go.Maps Go.WideMaps
set_option maxRecDepth 100000
/-- what has come so far of a number that is loaded, place by place -/
def ldF (l : List Pg) (at_ perm : Int) (pre : List Nat) : Option Int × Nat := pre.foldl (fun s k => (s.1.bind fun v => (byteAt l at_ perm k).map fun b => v + 256 ^ s.2 * b, s.2 + 1)) (some 0, 0)
theorem ldF_snoc (l : List Pg) (at_ perm : Int) (pre : List Nat) (k : Nat) : ldF l at_ perm (pre ++ [k]) = ((ldF l at_ perm pre).1.bind fun v => (byteAt l at_ perm k).map fun b => v + 256 ^ (ldF l at_ perm pre).2 * b, (ldF l at_ perm pre).2 + 1) := by
  simp [ldF, List.foldl_append]
theorem ldF_range (l : List Pg) (at_ perm : Int) : ∀ n, ldF l at_ perm (List.range n) = (loadN l at_ perm n, n)
  | 0 => rfl
  | n + 1 => by rw [List.range_succ, ldF_snoc, ldF_range l at_ perm n]; rfl
theorem ldF_fold (l : List Pg) (at_ perm : Int) : ∀ (pre : List Nat) (s : Option Int × Nat), (pre.foldl (fun s k => (s.1.bind fun v => (byteAt l at_ perm k).map fun b => v + 256 ^ s.2 * b, s.2 + 1)) s).2 = s.2 + pre.length
  | [], s => rfl
  | k :: pre, s => by rw [List.foldl_cons, ldF_fold l at_ perm pre, List.length_cons]; omega
theorem ldF_len (l : List Pg) (at_ perm : Int) (pre : List Nat) : (ldF l at_ perm pre).2 = pre.length := by
  unfold ldF; rw [ldF_fold]; exact Nat.zero_add _
theorem pg_cases {l : List Pg} (h : RightP l) (at_ : Int) (k : Nat) :
    (pgI l at_ k = -1 ∧ ∀ perm, byteAt l at_ perm k = none) ∨
    ∃ i, ∃ hi : i < l.length, pgI l at_ k = i ∧ ∀ perm, byteAt l at_ perm k = if grantB l[i] perm then some (byteI (l[i]).data (toI at_ k % 256).toNat) else none := by
  have hix := ix_eq h (toI at_ k)
  by_cases hlow : toI at_ k < at_
  · exact .inl ⟨by unfold pgI; rw [if_pos hlow], fun perm => byteAt_low (T := toI at_ k) rfl hlow⟩
  · cases hx : idxF l (toI at_ k) with
    | none =>
      rw [hx] at hix
      exact .inl ⟨by unfold pgI; rw [if_neg hlow, hix]; rfl, fun perm => byteAt_far (T := toI at_ k) rfl hx⟩
    | some i =>
      rw [hx] at hix
      have hi := idxF_lt hx
      have hh := idxF_has hx hi
      have hm := right_mod h hi
      refine .inr ⟨i, hi, by unfold pgI ixI; rw [if_neg hlow, hix]; rfl, fun perm => ?_⟩
      rw [byteAt_some (T := toI at_ k) rfl (by omega) hx hi, show toI at_ k - (l[i]).at_ = toI at_ k % 256 by omega]
theorem load_or {V b : Int} {k : Nat} (hV : 0 ≤ V ∧ V < 256 ^ k) (hb : 0 ≤ b ∧ b < 256) (hk : k ≤ 7) : bits .or .u64 V (IntKind.u64.wrap (IntKind.u64.wrap b * 2 ^ (8 * k))) = V + 256 ^ k * b := by
  obtain ⟨v, rfl⟩ := Int.eq_ofNat_of_zero_le hV.1
  obtain ⟨c, rfl⟩ := Int.eq_ofNat_of_zero_le hb.1
  have hl := pow256_le hk
  have hp := pow256_pos k
  have h2 : (2 : Int) ^ (8 * k) = 256 ^ k := by rw [Int.pow_mul]; rfl
  have e1 : IntKind.u64.wrap (c : Int) = c := by rw [IntKind.wrap_u64]; omega
  have h3 : (c : Int) * 256 ^ k ≤ 255 * 256 ^ k := Int.mul_le_mul_of_nonneg_right (by omega) (Int.le_of_lt hp)
  have h4 : (0 : Int) ≤ c * 256 ^ k := Int.mul_nonneg (by omega) (Int.le_of_lt hp)
  have e2 : IntKind.u64.wrap ((c : Int) * 256 ^ k) = c * 256 ^ k := by rw [IntKind.wrap_u64]; omega
  rw [h2, e1, e2]
  have hc : (c : Int) * 256 ^ k = ((2 ^ (8 * k) * c : Nat) : Int) := by rw [Int.mul_comm, ← h2]; simp
  have hv : v < 2 ^ (8 * k) := by
    have := hV.2
    rw [← h2] at this
    exact_mod_cast this
  have hcl : 2 ^ (8 * k) * c < 18446744073709551616 := by have := hc; omega
  have hvl : v < 18446744073709551616 := by have := hV.2; omega
  rw [hc, u64_or_nat _ _ hvl hcl, Nat.or_comm, ← Nat.two_pow_add_eq_or_of_lt hv]
  rw [Int.mul_comm ((256 : Int) ^ k), hc]
  simp; omega
theorem kpB_setCell {lo hi : Nat} (W : World) {p : Addr} (v : Value) (h : p.block < lo) : KpB lo hi W (W.setCell p v) :=
  ⟨by simp [World.setCell], fun k h1 _ => Below.heap_setCell _ _ _ _ (by omega)⟩
theorem kpB_drew {lo hi : Nat} (W : World) : KpB lo hi W W.drew := ⟨Nat.le_refl _, fun _ _ _ => rfl⟩
theorem ldF_bd {l : List Pg} {at_ perm : Int} : ∀ {pre : List Nat} {V : Int}, (ldF l at_ perm pre).1 = some V → 0 ≤ V ∧ V < 256 ^ pre.length := by
  intro pre
  generalize hn : pre.length = n
  induction n generalizing pre with
  | zero => intro V h; obtain rfl := List.eq_nil_of_length_eq_zero hn; simp [ldF] at h; subst h; decide
  | succ n ih =>
    intro V h
    have hne : pre ≠ [] := fun e => by rw [e] at hn; cases hn
    obtain ⟨q, x, rfl⟩ : ∃ q x, pre = q ++ [x] := ⟨_, _, (List.dropLast_concat_getLast hne).symm⟩
    have hq : q.length = n := by simpa using hn
    rw [ldF_snoc, Option.bind_eq_some_iff] at h
    obtain ⟨u, hu, h⟩ := h
    rw [Option.map_eq_some_iff] at h
    obtain ⟨b, hb, rfl⟩ := h
    have h1 := ih hq hu
    have h2 := byteAt_bd hb
    rw [ldF_len, hq]
    have hp := pow256_pos n
    rw [Int.pow_succ]
    have h3 : 256 ^ n * b ≤ 256 ^ n * 255 := Int.mul_le_mul_of_nonneg_left (by omega) (Int.le_of_lt hp)
    have h4 : 0 ≤ (256 : Int) ^ n * b := Int.mul_nonneg (Int.le_of_lt hp) h2.1
    omega
attribute [local go_sem] Oper.semAt_some
set_option maxHeartbeats 2000000 in
theorem load_good {A : Option Addr} {cap : Nat} {L : List Pg} {w : World} {B : Nat} (at_ perm : Int) (N : Nat) (hN : 1 ≤ N ∧ N ≤ 8) (hR : rightB L = true)
    (hL : Mem w B A cap L) (hB : B ≤ w.heap.size) (hwf : ∀ p ∈ L, p.ok) (hlen : L.length ≤ 140737488351232) :
    CallsIn Fence.wide 10 Tryd.prog 44 #[.slice A L.length cap, .int .u64 at_, .int .i64 N, .int .i64 perm] w fun e w' => e = .returned (.tuple #[.int .u64 (loadV L at_ N perm), .int .i64 (loadE L at_ N perm)]) ∧ Below w.heap.size w w' := by
  have HWF := Lib.hid hwf
  have HR := Lib.hid hR
  have u0 : decide ((N : Int) < 1) = false := decide_eq_false (by omega)
  have u1 : decide (8 < (N : Int)) = false := decide_eq_false (by omega)
  clear hwf hR
  have k0 : Below w.heap.size w ((((w.alloc (.cells #[.slice A L.length cap] 32)).alloc (.cells #[.int .i64 perm] 3)).alloc (.cells #[.int .u64 0] 24)).alloc (.cells #[.int .i64 0] 50)) := ((((Below.refl _ _).alloc (Nat.le_refl _) _).alloc (by simp) _).alloc (by simp; omega) _).alloc (by simp; omega) _
  have m0 : ((((w.alloc (.cells #[.slice A L.length cap] 32)).alloc (.cells #[.int .i64 perm] 3)).alloc (.cells #[.int .u64 0] 24)).alloc (.cells #[.int .i64 0] 50)).cell? ⟨w.heap.size, 0, none⟩ = some (.slice A L.length cap) := by simp [go_sem]
  have m1 : ((((w.alloc (.cells #[.slice A L.length cap] 32)).alloc (.cells #[.int .i64 perm] 3)).alloc (.cells #[.int .u64 0] 24)).alloc (.cells #[.int .i64 0] 50)).cell? ⟨w.heap.size + 1, 0, none⟩ = some (.int .i64 perm) := by simp [go_sem]
  have m2 : ((((w.alloc (.cells #[.slice A L.length cap] 32)).alloc (.cells #[.int .i64 perm] 3)).alloc (.cells #[.int .u64 0] 24)).alloc (.cells #[.int .i64 0] 50)).cell? ⟨w.heap.size + 1 + 1, 0, none⟩ = some (.int .u64 0) := by simp [go_sem]
  have m3 : ((((w.alloc (.cells #[.slice A L.length cap] 32)).alloc (.cells #[.int .i64 perm] 3)).alloc (.cells #[.int .u64 0] 24)).alloc (.cells #[.int .i64 0] 50)).cell? ⟨w.heap.size + 1 + 1 + 1, 0, none⟩ = some (.int .i64 0) := by simp [go_sem]
  have f2 : ((((w.alloc (.cells #[.slice A L.length cap] 32)).alloc (.cells #[.int .i64 perm] 3)).alloc (.cells #[.int .u64 0] 24)).alloc (.cells #[.int .i64 0] 50)).frozen? ⟨w.heap.size + 1 + 1, 0, none⟩ = false := by simp [go_sem]
  have f3 : ((((w.alloc (.cells #[.slice A L.length cap] 32)).alloc (.cells #[.int .i64 perm] 3)).alloc (.cells #[.int .u64 0] 24)).alloc (.cells #[.int .i64 0] 50)).frozen? ⟨w.heap.size + 1 + 1 + 1, 0, none⟩ = false := by simp [go_sem]
  have M0 := Lib.hid m0
  have M1 := Lib.hid m1
  have M2 := Lib.hid m2
  have M3 := Lib.hid m3
  have F2 := Lib.hid f2
  have F3 := Lib.hid f3
  have K0 := Lib.hid k0
  clear k0 m0 m1 m2 m3 f2 f3
  refine callsIn_of_wp_marks Tryd.func44 rfl trivial ?_ rfl
  simp only [Tryd.ntmps44, List.size_toArray, List.length_cons, List.length_nil, Nat.reduceAdd, Nat.reduceSub, Array.replicate_succ, Array.replicate_zero, List.push_toArray, List.append_toArray, List.nil_append, List.cons_append]
  gi_wp2_with fail
  refine ⟨trivial, ?_⟩
  refine (callsIn_wide.2 (right_any (Sl.In.below hL (K0.out.mono hB)) (Nat.le_trans hB K0.out.size) HWF.out hlen)).mono ?_
  rintro e w1 ⟨rfl, hb1⟩
  rw [HR.out]
  have K1 := Lib.hid (K0.out.trans (hb1.mono K0.out.size))
  have hz1 : w.heap.size + 3 < w1.heap.size := by have := hb1.size; simp at this; omega
  have z0 : w.heap.size < w1.heap.size := by omega
  have c0 := (hb1.cell (p := ⟨w.heap.size, 0, none⟩) (by simp; omega)).trans M0.out
  have c1 := Lib.hid ((hb1.cell (p := ⟨w.heap.size + 1, 0, none⟩) (by simp)).trans M1.out)
  have c2 := Lib.hid ((hb1.cell (p := ⟨w.heap.size + 1 + 1, 0, none⟩) (by simp)).trans M2.out)
  have c3 := Lib.hid ((hb1.cell (p := ⟨w.heap.size + 1 + 1 + 1, 0, none⟩) (by simp)).trans M3.out)
  have g2 := Lib.hid ((hb1.frozen (p := ⟨w.heap.size + 1 + 1, 0, none⟩) (by simp)).trans F2.out)
  have g3 := Lib.hid ((hb1.frozen (p := ⟨w.heap.size + 1 + 1 + 1, 0, none⟩) (by simp)).trans F3.out)
  have K2 := Lib.hid ((K1.out.alloc K1.out.size (.cells #[.int .u64 0] 24)).alloc (by have := K1.out.size; simp; omega) (.cells #[.int .i64 0] 3))
  clear hb1
  gi_wp2_with fail
  refine ⟨trivial, ?_⟩
  refine (callsIn_wide.2 (places_any at_ N (Sl.In.below hL (K2.out.mono hB)) (Nat.le_trans hB K2.out.size) HWF.out hlen)).mono ?_
  rintro e w2 ⟨hT, rfl, hIt, hb2⟩
  have hIt2 := hIt.2.1
  have hIt1 := hIt.1
  have hlo : ((w1.alloc (.cells #[.int .u64 0] 24)).alloc (.cells #[.int .i64 0] 3)).heap.size = w1.heap.size + 2 := by simp
  have kk : Below w1.heap.size w1 ((w1.alloc (.cells #[.int .u64 0] 24)).alloc (.cells #[.int .i64 0] 3)) := ((Below.refl _ _).alloc (Nat.le_refl _) _).alloc (by simp) _
  have kv : ((w1.alloc (.cells #[.int .u64 0] 24)).alloc (.cells #[.int .i64 0] 3)).cell? ⟨w1.heap.size, 0, none⟩ = some (.int .u64 0) := by simp [go_sem]
  have kn : ((w1.alloc (.cells #[.int .u64 0] 24)).alloc (.cells #[.int .i64 0] 3)).cell? ⟨w1.heap.size + 1, 0, none⟩ = some (.int .i64 0) := by simp [go_sem]
  have fv : ((w1.alloc (.cells #[.int .u64 0] 24)).alloc (.cells #[.int .i64 0] 3)).frozen? ⟨w1.heap.size, 0, none⟩ = false := by simp [go_sem]
  have fn : ((w1.alloc (.cells #[.int .u64 0] 24)).alloc (.cells #[.int .i64 0] 3)).frozen? ⟨w1.heap.size + 1, 0, none⟩ = false := by simp [go_sem]
  rw [hlo] at hIt hIt1 hb2
  have kb := kk.trans (hb2.mono (by omega))
  have d0 := (kb.cell (p := ⟨w.heap.size, 0, none⟩) (by show w.heap.size < w1.heap.size; omega)).trans c0
  have d1 := (kb.cell (p := ⟨w.heap.size + 1, 0, none⟩) (by show w.heap.size + 1 < w1.heap.size; omega)).trans c1.out
  have d2 := (kb.cell (p := ⟨w.heap.size + 1 + 1, 0, none⟩) (by show w.heap.size + 1 + 1 < w1.heap.size; omega)).trans c2.out
  have d3 := (kb.cell (p := ⟨w.heap.size + 1 + 1 + 1, 0, none⟩) (by show w.heap.size + 1 + 1 + 1 < w1.heap.size; omega)).trans c3.out
  have q2 := (kb.frozen (p := ⟨w.heap.size + 1 + 1, 0, none⟩) (by show w.heap.size + 1 + 1 < w1.heap.size; omega)).trans g2.out
  have q3 := (kb.frozen (p := ⟨w.heap.size + 1 + 1 + 1, 0, none⟩) (by show w.heap.size + 1 + 1 + 1 < w1.heap.size; omega)).trans g3.out
  have d4 := (hb2.cell (p := ⟨w1.heap.size, 0, none⟩) (by show w1.heap.size < w1.heap.size + 2; omega)).trans kv
  have d5 := (hb2.cell (p := ⟨w1.heap.size + 1, 0, none⟩) (by show w1.heap.size + 1 < w1.heap.size + 2; omega)).trans kn
  have q4 := (hb2.frozen (p := ⟨w1.heap.size, 0, none⟩) (by show w1.heap.size < w1.heap.size + 2; omega)).trans fv
  have q5 := (hb2.frozen (p := ⟨w1.heap.size + 1, 0, none⟩) (by show w1.heap.size + 1 < w1.heap.size + 2; omega)).trans fn
  have K3 := K1.out.trans (kb.mono K1.out.size)
  clear kv kn fv fn kk kb c0
  gi_wp2
  refine wpIn_rangeFunc_ownG rfl (by omega) (gf := 95) (lb := #[.pointer (some ⟨w1.heap.size + 2 + 1, 0, none⟩), .pointer (some ⟨w1.heap.size + 2, 0, none⟩), .pointer (some ⟨hT, 0, none⟩)]) rfl trivial (enters_of Tryd.func95 (by kernel_rfl) rfl)
    (it_stops 9 (by omega) (by omega) hIt) KpB.trans (fun W l o o' hl _ _ _ => kpB_put (by omega)) (Below.refl _ _) (fun _ => rfl)
    (fun pre W => (∃ V, Hid ((ldF L at_ perm pre).1 = some V) ∧ (W.cell? ⟨w1.heap.size, 0, none⟩ = some (.int .u64 V) ∧ W.frozen? ⟨w1.heap.size, 0, none⟩ = false ∧ W.cell? ⟨w1.heap.size + 1, 0, none⟩ = some (.int .i64 (pre.length : Nat)) ∧ W.frozen? ⟨w1.heap.size + 1, 0, none⟩ = false ∧ W.cell? ⟨w.heap.size, 0, none⟩ = some (.slice A L.length cap) ∧ W.cell? ⟨w.heap.size + 1, 0, none⟩ = some (.int .i64 perm) ∧ W.cell? ⟨w.heap.size + 1 + 1, 0, none⟩ = some (.int .u64 0) ∧ W.frozen? ⟨w.heap.size + 1 + 1, 0, none⟩ = false ∧ W.cell? ⟨w.heap.size + 1 + 1 + 1, 0, none⟩ = some (.int .i64 0) ∧ W.frozen? ⟨w.heap.size + 1 + 1 + 1, 0, none⟩ = false)) ∧ Below w.heap.size w W)
    (fun c pre W => (c = .ret ∧ Hid ((ldF L at_ perm pre).1 = none) ∧ W.cell? ⟨w.heap.size + 1 + 1, 0, none⟩ = some (.int .u64 0) ∧ W.cell? ⟨w.heap.size + 1 + 1 + 1, 0, none⟩ = some (.int .i64 6)) ∧ Below w.heap.size w W)
    (OwnFrom.and (Own.from (fun s X Y row hs hg hr => by obtain ⟨V, hV, a1, a2, a3, a4, a5, a6, a7, a8, a9, a10⟩ := hs; exact ⟨V, hV, cell_kept a1 hg hr, (frozen_kept a1 hg hr).trans a2, cell_kept a3 hg hr, (frozen_kept a3 hg hr).trans a4, cell_kept a5 hg hr, cell_kept a6 hg hr, cell_kept a7 hg hr, (frozen_kept a7 hg hr).trans a8, cell_kept a9 hg hr, (frozen_kept a9 hg hr).trans a10⟩) _) (ownFrom_below (Nat.le_refl _) (by omega)))
    (fun c => OwnFrom.and (Own.from (fun s X Y row hs hg hr => by obtain ⟨hc, hV, a1, a2⟩ := hs; exact ⟨hc, hV, cell_kept a1 hg hr, cell_kept a2 hg hr⟩) _) (ownFrom_below (Nat.le_refl _) (by omega)))
    ⟨⟨0, rfl, d4, q4, d5, q5, d0, d1, d2, q2, d3, q3⟩, K3⟩
    (fun x => { tmps := #[.slice A L.length cap, .int .u64 at_, .int .i64 N, .int .i64 perm, .pointer (some ⟨w.heap.size, 0, none⟩), undef, undef, .pointer (some ⟨w.heap.size + 1, 0, none⟩), .pointer (some ⟨w.heap.size + 1 + 1, 0, none⟩), .pointer (some ⟨w.heap.size + 1 + 1 + 1, 0, none⟩), .pointer (some ⟨w1.heap.size, 0, none⟩), .pointer (some ⟨w1.heap.size + 1, 0, none⟩), .int .u64 (toI at_ x), .int .i64 (pgI L at_ x), .int .i64 N, .bool false, .bool false, .int .i64 N, .bool false, .bool false, .bool false, .slice A L.length cap, .bool true, .bool false, .bool false, .slice A L.length cap, .int .u64 at_, .int .i64 N, .func (.func 95) #[] #[.pointer (some ⟨w1.heap.size + 2 + 1, 0, none⟩), .pointer (some ⟨w1.heap.size + 2, 0, none⟩), .pointer (some ⟨hT, 0, none⟩)], .int .u64 (toI at_ x), .int .i64 (pgI L at_ x), undef, undef, undef, undef, undef, undef, undef, undef, undef, undef, undef, undef, undef, undef, undef, undef, undef, undef, undef, undef, undef, undef, undef, undef, undef, undef, undef, undef, undef, undef], defers := [] }) ?assign ?body ?done ?stop
  case assign =>
    intro l x W K hK
    gi_wp2
    exact hK
  case body =>
    rintro l pre x W ⟨⟨V, hV, a1, a2, a3, a4, a5, a6, a7, a8, a9, a10⟩, hBW⟩ hpl
    have hmx : Tryd.prog.follows .mixedOrders = true := by kernel_rfl
    have hLW := Sl.In.below hL (hBW.mono hB)
    rcases pg_cases (rightB_out HR.out) at_ x with ⟨hP, hby⟩ | ⟨i, hi, hP, hby⟩
    · have HX := Lib.hid (show (ldF L at_ perm (pre ++ [x])).1 = none by rw [ldF_snoc, hby perm]; cases (ldF L at_ perm pre).1 <;> rfl)
      rw [hP]
      clear hby hP
      gi_wp2
      refine wpIn_region_reads hmx (by kernel_rfl) (by kernel_rfl) ?_
      repeat (go_big_quiet_step (fail))
      refine wpQuiet_nil ?_
      gi_wp2
      exact ⟨((KeepsOthers.drew W).trans ((KeepsOthers.setCell _ _ _).trans (KeepsOthers.setCell _ _ _))).from _, ⟨rfl, HX.out, by simp [go_sem, a7], by simp [go_sem, a9]⟩, ((hBW.drew).setCell (p := ⟨w.heap.size + 1 + 1, 0, none⟩) (by show w.heap.size ≤ w.heap.size + 1 + 1; omega) _).setCell (p := ⟨w.heap.size + 1 + 1 + 1, 0, none⟩) (by show w.heap.size ≤ w.heap.size + 1 + 1 + 1; omega) _⟩
    · obtain ⟨b, off, rfl, hb, c0, c1, c2⟩ := Mem.pg hLW hi
      have hpi : IntKind.i64.wrap (i : Int) = i := IntWalk.i64_in _ (by omega)
      have i1 : (0 : Int) ≤ (i : Int) := by omega
      have i2 : (i : Int) < (L.length : Int) := by omega
      have i3 : decide ((i : Int) < 0) = false := decide_eq_false (by omega)
      rw [hP]
      cases hg : grantB L[i] perm
      · have HX := Lib.hid (show (ldF L at_ perm (pre ++ [x])).1 = none by rw [ldF_snoc, hby perm, hg]; cases (ldF L at_ perm pre).1 <;> rfl)
        have hne : (bits .and .i64 (L[i]).perm perm != perm) = true := by unfold grantB at hg; simp only [bne, hg]; rfl
        clear hby hP hg
        gi_wp2
        refine wpIn_region_reads hmx (by kernel_rfl) (by kernel_rfl) ?_
        repeat (go_big_quiet_step (fail))
        refine wpQuiet_nil ?_
        gi_wp2
        exact ⟨((KeepsOthers.drew W).trans ((KeepsOthers.setCell _ _ _).trans (KeepsOthers.setCell _ _ _))).from _, ⟨rfl, HX.out, by simp [go_sem, a7], by simp [go_sem, a9]⟩, ((hBW.drew).setCell (p := ⟨w.heap.size + 1 + 1, 0, none⟩) (by show w.heap.size ≤ w.heap.size + 1 + 1; omega) _).setCell (p := ⟨w.heap.size + 1 + 1 + 1, 0, none⟩) (by show w.heap.size ≤ w.heap.size + 1 + 1 + 1; omega) _⟩
      · have hne : (bits .and .i64 (L[i]).perm perm != perm) = false := by unfold grantB at hg; simp only [bne, hg]; rfl
        obtain ⟨d, hd⟩ := Int.eq_ofNat_of_zero_le (show 0 ≤ toI at_ x % 256 by omega)
        have hds : (L[i]).data.size = 256 := right_size (rightB_out HR.out) hi
        have hdl : d < (L[i]).data.size := by omega
        have HX := Lib.hid (show (ldF L at_ perm (pre ++ [x])).1 = some (V + 256 ^ pre.length * byteI (L[i]).data d) by rw [ldF_snoc, hby perm, hg, hV.out, ldF_len, hd]; rfl)
        have d1 : (0 : Int) ≤ (d : Int) := by omega
        have d2 : (d : Int) < 256 := by omega
        have hdt : (toI at_ x).tmod 256 = (d : Int) := by rw [Int.tmod_eq_emod_of_nonneg (by unfold toI; omega)]; exact hd
        have HD := Lib.hid hd
        clear hd
        have e1 : (0 : Int) ≤ (pre.length : Int) := by omega
        have e2 : (pre.length : Int) ≤ 7 := by omega
        clear hby hP hg
        gi_wp2
        refine wpIn_region_reads hmx (by kernel_rfl) (by kernel_rfl) ?_
        repeat (go_big_quiet_step (fail))
        refine wpQuiet_nil ?_
        gi_wp2
        refine wpIn_region_tail 14 hmx (by kernel_rfl) (by kernel_rfl) ?_
        simp only [List.take_succ_cons, List.take_zero, List.drop_succ_cons, List.drop_zero]
        repeat (go_big_quiet_step (fail))
        refine wpQuiet_nil ?_
        gi_wp2
        have hbl : IntKind.u64.wrap ((L[i]).data[d].toNat : Int) = byteI (L[i]).data d := by
          rw [IntKind.wrap_u64, byteI_at hdl]; have := byteI_bd (L[i]).data d; omega
        have hor := load_or (V := V) (b := byteI (L[i]).data d) (k := pre.length) (ldF_bd hV.out) (byteI_bd _ _) (by omega)
        have hwb : IntKind.u64.wrap (IntKind.u64.wrap ((L[i]).data[d].toNat : Int) * 2 ^ (8 * pre.length)) = IntKind.u64.wrap (IntKind.u64.wrap (byteI (L[i]).data d) * 2 ^ (8 * pre.length)) := by
          rw [byteI_at hdl]
        rw [hwb, hor]
        refine ⟨(((KeepsOthers.setCell W _ _).trans (KeepsOthers.setCell _ _ _)).trans ((KeepsOthers.drew _).trans (KeepsOthers.drew _))).from _, ((kpB_setCell W _ (by show w1.heap.size < w1.heap.size + 2; omega)).trans (kpB_setCell _ _ (by show w1.heap.size + 1 < w1.heap.size + 2; omega))).trans ((kpB_drew _).trans (kpB_drew _)), ⟨_, HX.out, ?_⟩, (((hBW.setCell (p := ⟨w1.heap.size, 0, none⟩) (by show w.heap.size ≤ w1.heap.size; omega) _).setCell (p := ⟨w1.heap.size + 1, 0, none⟩) (by show w.heap.size ≤ w1.heap.size + 1; omega) _).drew).drew⟩
        simp [go_sem, a1, a2, a3, a4, a5, a6, a7, a8, a9, a10]
  case done =>
    rintro D ys W hD rfl ⟨⟨V, hV, a1, a2, a3, a4, a5, a6, a7, a8, a9, a10⟩, hBW⟩ hK
    have hN0 : loadN L at_ perm N = some V := by
      have := hV.out
      rwa [ldF_range] at this
    have hVE : loadV L at_ N perm = V ∧ loadE L at_ N perm = 0 := by
      unfold loadV loadE
      rw [if_pos ⟨⟨by omega, by omega⟩, HR.out⟩, if_pos ⟨⟨by omega, by omega⟩, HR.out⟩, Int.toNat_natCast, hN0]
      exact ⟨rfl, rfl⟩
    have HVE := Lib.hid hVE
    clear hVE hN0
    gi_wp2
    have hs1 : ((W.setCell ⟨w.heap.size + 1 + 1, 0, none⟩ (.int .u64 V)).setCell ⟨w.heap.size + 1 + 1 + 1, 0, none⟩ (.int .i64 0)).cell? ⟨w.heap.size + 1 + 1, 0, none⟩ = some (.int .u64 V) := by simp [go_sem, a7]
    have hs2 : ((W.setCell ⟨w.heap.size + 1 + 1, 0, none⟩ (.int .u64 V)).setCell ⟨w.heap.size + 1 + 1 + 1, 0, none⟩ (.int .i64 0)).cell? ⟨w.heap.size + 1 + 1 + 1, 0, none⟩ = some (.int .i64 0) := by simp [go_sem, a9]
    have hK' := ((KeepsOthers.setCell W ⟨w.heap.size + 1 + 1, 0, none⟩ (.int .u64 V)).trans (KeepsOthers.setCell _ ⟨w.heap.size + 1 + 1 + 1, 0, none⟩ (.int .i64 0))).same D _ hK rfl
    refine ⟨by simp, .inl ⟨_, _, rfl, run_takeDeferred hK', ?_⟩⟩
    have hc1 := cell_kept hs1 (grownBy_putObj' _ D (.deferred none)) (fun r e => by cases e; exact ⟨_, hK', rfl⟩)
    have hc2 := cell_kept hs2 (grownBy_putObj' _ D (.deferred none)) (fun r e => by cases e; exact ⟨_, hK', rfl⟩)
    refine ⟨.tuple #[.int .u64 V, .int .i64 0], ?_, by rw [HVE.out.1, HVE.out.2], ((hBW.setCell (p := ⟨w.heap.size + 1 + 1, 0, none⟩) (by show w.heap.size ≤ w.heap.size + 1 + 1; omega) _).setCell (p := ⟨w.heap.size + 1 + 1 + 1, 0, none⟩) (by show w.heap.size ≤ w.heap.size + 1 + 1 + 1; omega) _).trans (belowK_b (w := w) (Nat.le_refl _) _ D _ _ (by omega) hK' rfl rfl)⟩
    simp [results, Tryd.f44, go_sem, hc1, hc2]
  case stop =>
    rintro D c pre W hD ⟨k, hk, rfl⟩ ⟨⟨rfl, hV, a1, a2⟩, hBW⟩ hK
    have hN0 : loadN L at_ perm N = none := by
      have := hV.out
      rw [ldF_range] at this
      exact loadN_none this hk
    have hVE : loadV L at_ N perm = 0 ∧ loadE L at_ N perm = 6 := by
      unfold loadV loadE
      rw [if_pos ⟨⟨by omega, by omega⟩, HR.out⟩, if_pos ⟨⟨by omega, by omega⟩, HR.out⟩, Int.toNat_natCast, hN0]
      exact ⟨rfl, rfl⟩
    gi_wp2
    refine ⟨by simp, .inl ⟨_, _, rfl, run_takeDeferred hK, ?_⟩⟩
    have hc1 := cell_kept a1 (grownBy_putObj' _ D (.deferred none)) (fun r e => by cases e; exact ⟨_, hK, rfl⟩)
    have hc2 := cell_kept a2 (grownBy_putObj' _ D (.deferred none)) (fun r e => by cases e; exact ⟨_, hK, rfl⟩)
    refine ⟨.tuple #[.int .u64 0, .int .i64 6], ?_, by rw [hVE.1, hVE.2], hBW.trans (belowK_b (w := w) (Nat.le_refl _) W D _ _ (by omega) hK rfl rfl)⟩
    simp [results, Tryd.f44, go_sem, hc1, hc2]
set_option maxHeartbeats 1000000 in
theorem load_bad {A : Option Addr} {cap : Nat} {L : List Pg} {w : World} {B : Nat} (at_ n perm : Int) (hc : ¬ ((1 ≤ n ∧ n ≤ 8) ∧ rightB L = true))
    (hL : Mem w B A cap L) (hB : B ≤ w.heap.size) (hwf : ∀ p ∈ L, p.ok) (hlen : L.length ≤ 140737488351232) :
    Calls Tryd.prog 44 #[.slice A L.length cap, .int .u64 at_, .int .i64 n, .int .i64 perm] w fun e w' => e = .returned (.tuple #[.int .u64 (loadV L at_ n perm), .int .i64 (loadE L at_ n perm)]) ∧ Below w.heap.size w w' := by
  have hV : loadV L at_ n perm = 0 := by unfold loadV; rw [if_neg hc]
  have hE : loadE L at_ n perm = 1 := by unfold loadE; rw [if_neg hc]
  have HV := Lib.hid hV
  have HE := Lib.hid hE
  have hcc : n < 1 ∨ (1 ≤ n ∧ 8 < n) ∨ ((1 ≤ n ∧ n ≤ 8) ∧ rightB L = false) := by
    by_cases c1 : 1 ≤ n
    · by_cases c2 : n ≤ 8
      · exact .inr (.inr ⟨⟨c1, c2⟩, by cases h : rightB L; rfl; exact absurd ⟨⟨c1, c2⟩, h⟩ hc⟩)
      · exact .inr (.inl ⟨c1, by omega⟩)
    · exact .inl (by omega)
  clear hc hV hE
  have HL := Lib.hid hL
  have HWF := Lib.hid hwf
  clear hL hwf
  rcases hcc with c | ⟨c, c'⟩ | ⟨⟨c, c'⟩, hR⟩
  · go_enter Tryd.func44, Tryd.ntmps44
    go_wp2
    refine bodyPost_ret (v := .tuple #[.int .u64 (loadV L at_ n perm), .int .i64 (loadE L at_ n perm)]) ?_ rfl ⟨rfl, ?_⟩
    · rw [HV.out, HE.out]; simp [results, Tryd.results44, go_sem]
    · exact ((((Below.refl _ _).alloc (Nat.le_refl _) _).alloc (by simp) _).alloc (by simp; omega) _).alloc (by simp; omega) _
  · go_enter Tryd.func44, Tryd.ntmps44
    go_wp2
    refine bodyPost_ret (v := .tuple #[.int .u64 (loadV L at_ n perm), .int .i64 (loadE L at_ n perm)]) ?_ rfl ⟨rfl, ?_⟩
    · rw [HV.out, HE.out]; simp [results, Tryd.results44, go_sem]
    · exact ((((Below.refl _ _).alloc (Nat.le_refl _) _).alloc (by simp) _).alloc (by simp; omega) _).alloc (by simp; omega) _
  · have HR := Lib.hid hR
    clear hR
    have k0 : Below w.heap.size w ((((w.alloc (.cells #[.slice A L.length cap] 32)).alloc (.cells #[.int .i64 perm] 3)).alloc (.cells #[.int .u64 0] 24)).alloc (.cells #[.int .i64 0] 50)) := ((((Below.refl _ _).alloc (Nat.le_refl _) _).alloc (by simp) _).alloc (by simp; omega) _).alloc (by simp; omega) _
    have m0 : ((((w.alloc (.cells #[.slice A L.length cap] 32)).alloc (.cells #[.int .i64 perm] 3)).alloc (.cells #[.int .u64 0] 24)).alloc (.cells #[.int .i64 0] 50)).cell? ⟨w.heap.size, 0, none⟩ = some (.slice A L.length cap) := by simp [go_sem]
    have m1 : ((((w.alloc (.cells #[.slice A L.length cap] 32)).alloc (.cells #[.int .i64 perm] 3)).alloc (.cells #[.int .u64 0] 24)).alloc (.cells #[.int .i64 0] 50)).cell? ⟨w.heap.size + 1, 0, none⟩ = some (.int .i64 perm) := by simp [go_sem]
    have m2 : ((((w.alloc (.cells #[.slice A L.length cap] 32)).alloc (.cells #[.int .i64 perm] 3)).alloc (.cells #[.int .u64 0] 24)).alloc (.cells #[.int .i64 0] 50)).cell? ⟨w.heap.size + 1 + 1, 0, none⟩ = some (.int .u64 0) := by simp [go_sem]
    have m3 : ((((w.alloc (.cells #[.slice A L.length cap] 32)).alloc (.cells #[.int .i64 perm] 3)).alloc (.cells #[.int .u64 0] 24)).alloc (.cells #[.int .i64 0] 50)).cell? ⟨w.heap.size + 1 + 1 + 1, 0, none⟩ = some (.int .i64 0) := by simp [go_sem]
    have f2 : ((((w.alloc (.cells #[.slice A L.length cap] 32)).alloc (.cells #[.int .i64 perm] 3)).alloc (.cells #[.int .u64 0] 24)).alloc (.cells #[.int .i64 0] 50)).frozen? ⟨w.heap.size + 1 + 1, 0, none⟩ = false := by simp [go_sem]
    have f3 : ((((w.alloc (.cells #[.slice A L.length cap] 32)).alloc (.cells #[.int .i64 perm] 3)).alloc (.cells #[.int .u64 0] 24)).alloc (.cells #[.int .i64 0] 50)).frozen? ⟨w.heap.size + 1 + 1 + 1, 0, none⟩ = false := by simp [go_sem]
    have M0 := Lib.hid m0
    have M1 := Lib.hid m1
    have M2 := Lib.hid m2
    have M3 := Lib.hid m3
    have F2 := Lib.hid f2
    have F3 := Lib.hid f3
    have K0 := Lib.hid k0
    clear k0 m0 m1 m2 m3 f2 f3
    go_enter Tryd.func44, Tryd.ntmps44
    go_wp2_with fail
    refine (right_any (Sl.In.below HL.out (K0.out.mono hB)) (Nat.le_trans hB K0.out.size) HWF.out hlen).mono ?_
    rintro e w1 ⟨rfl, hb1⟩
    rw [HR.out]
    have K1 := Lib.hid (K0.out.trans (hb1.mono K0.out.size))
    have c2 := (hb1.cell (p := ⟨w.heap.size + 1 + 1, 0, none⟩) (by simp)).trans M2.out
    have c3 := (hb1.cell (p := ⟨w.heap.size + 1 + 1 + 1, 0, none⟩) (by simp)).trans M3.out
    have g2 := (hb1.frozen (p := ⟨w.heap.size + 1 + 1, 0, none⟩) (by simp)).trans F2.out
    have g3 := (hb1.frozen (p := ⟨w.heap.size + 1 + 1 + 1, 0, none⟩) (by simp)).trans F3.out
    go_wp2
    refine bodyPost_ret (v := .tuple #[.int .u64 (loadV L at_ n perm), .int .i64 (loadE L at_ n perm)]) ?_ rfl ⟨rfl, ?_⟩
    · rw [HV.out, HE.out]; simp [results, Tryd.results44, go_sem, c2, c3]
    · exact (K1.out.setCell (p := ⟨w.heap.size + 1 + 1, 0, none⟩) (by show w.heap.size ≤ w.heap.size + 1 + 1; omega) _).setCell (p := ⟨w.heap.size + 1 + 1 + 1, 0, none⟩) (by show w.heap.size ≤ w.heap.size + 1 + 1 + 1; omega) _
theorem load_any {A : Option Addr} {cap : Nat} {L : List Pg} {w : World} {B : Nat} (at_ n perm : Int)
    (hL : Mem w B A cap L) (hB : B ≤ w.heap.size) (hwf : ∀ p ∈ L, p.ok) (hlen : L.length ≤ 140737488351232) :
    Calls Tryd.prog 44 #[.slice A L.length cap, .int .u64 at_, .int .i64 n, .int .i64 perm] w fun e w' => e = .returned (.tuple #[.int .u64 (loadV L at_ n perm), .int .i64 (loadE L at_ n perm)]) ∧ Below w.heap.size w w' := by
  by_cases hc : (1 ≤ n ∧ n ≤ 8) ∧ rightB L = true
  · obtain ⟨N, rfl⟩ := Int.eq_ofNat_of_zero_le (show 0 ≤ n by omega)
    exact callsIn_wide.1 (load_good at_ perm N (by omega) hc.2 hL hB hwf hlen)
  · exact load_bad at_ n perm hc hL hB hwf hlen
end Go.Proofs.YtajhehmkdlebbaaDoor
