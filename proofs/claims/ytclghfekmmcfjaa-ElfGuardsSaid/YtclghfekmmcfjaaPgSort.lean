/- slices.SortFunc at memory: the shelf's contract laid here. -/
import Derived.Test.YtclghfekmmcfjaaPgClone
import Derived.Shelf.SlSortCmp.WholeK
import Derived.Shelf.SlSortCmp.NoneTotal
import Derived.Shelf.SlGeneric
namespace Go.Proofs.Ytclghfekmmcfjaa
open Go.ChangeShapes Go.WideShapes Go.ChangeAt Go.RowKit Go.Deep Go.Maps Go.WideMaps Go.Shelf Go.Lib Go.Sort
set_option maxRecDepth 100000
def sortRen : Go.Shelf.Ren := ⟨fun | 6 => 57 | 14 => 70 | 15 => 71 | 20 => 79 | 21 => 80 | 22 => 81 | 23 => 82 | 24 => 83 | 25 => 84 | 26 => 85 | 27 => 86 | 28 => 87 | 29 => 88 | 46 => 90 | 47 => 91 | 48 => 92 | 49 => 93 | 50 => 94 | 57 => 95 | n => n, fun | 0 => 0 | 3 => 3 | 4 => 4 | 5 => 5 | 9 => 9 | 22 => 37 | 24 => 47 | 25 => 116 | 39 => 129 | 45 => 146 | 46 => 147 | 50 => 112 | 53 => 140 | 55 => 22 | 66 => 155 | 70 => 159 | 76 => 161 | 77 => 162 | n => n, fun n => n⟩
theorem sortLays : SlLaysF0.n6 Try.prog sortRen :=
  { mixed := by kernel_rfl
    f6 := ⟨Try.f57.name, by decide, by kernel_rfl⟩
    f14 := ⟨Try.f70.name, by decide, by kernel_rfl⟩
    f15 := by kernel_rfl
    f20 := ⟨Try.f79.name, by decide, by kernel_rfl⟩
    f21 := ⟨Try.f80.name, by decide, by kernel_rfl⟩
    f22 := ⟨Try.f81.name, by decide, by kernel_rfl⟩
    f23 := ⟨Try.f82.name, by decide, by kernel_rfl⟩
    f24 := ⟨Try.f83.name, by decide, by kernel_rfl⟩
    f25 := ⟨Try.f84.name, by decide, by kernel_rfl⟩
    f26 := ⟨Try.f85.name, by decide, by kernel_rfl⟩
    f27 := ⟨Try.f86.name, by decide, by kernel_rfl⟩
    f28 := by kernel_rfl
    f29 := by kernel_rfl
    f46 := ⟨Try.f90.name, by decide, by kernel_rfl⟩
    f47 := by kernel_rfl
    f48 := by kernel_rfl
    f49 := ⟨Try.f93.name, by decide, by kernel_rfl⟩
    f50 := ⟨Try.f94.name, by decide, by kernel_rfl⟩
    f57 := ⟨Try.f95.name, by decide, by kernel_rfl⟩
    t0 := by kernel_rfl
    a0 := fun _ => by kernel_rfl
    z0 := fun _ => by kernel_rfl
    v0 := fun _ => by kernel_rfl
    t3 := by kernel_rfl
    a3 := fun _ => by kernel_rfl
    z3 := fun _ => by kernel_rfl
    v3 := fun _ => by kernel_rfl
    t4 := by kernel_rfl
    a4 := fun _ => by kernel_rfl
    z4 := fun _ => by kernel_rfl
    v4 := fun _ => by kernel_rfl
    t5 := by kernel_rfl
    a5 := fun _ => by kernel_rfl
    z5 := fun _ => by kernel_rfl
    v5 := fun _ => by kernel_rfl
    t9 := by kernel_rfl
    a9 := fun _ => by kernel_rfl
    z9 := fun _ => by kernel_rfl
    v9 := fun _ => by kernel_rfl
    t22 := by kernel_rfl
    a22 := fun _ => by kernel_rfl
    z22 := fun _ => by kernel_rfl
    v22 := fun _ => by kernel_rfl
    t25 := by kernel_rfl
    a25 := fun _ => by kernel_rfl
    z25 := fun _ => by kernel_rfl
    v25 := fun _ => by kernel_rfl
    t39 := by kernel_rfl
    a39 := fun _ => by kernel_rfl
    z39 := fun _ => by kernel_rfl
    v39 := fun _ => by kernel_rfl
    t45 := by kernel_rfl
    a45 := fun _ => by kernel_rfl
    z45 := fun _ => by kernel_rfl
    v45 := fun _ => by kernel_rfl
    t46 := by kernel_rfl
    a46 := fun _ => by kernel_rfl
    z46 := fun _ => by kernel_rfl
    v46 := fun _ => by kernel_rfl
    t50 := by kernel_rfl
    a50 := fun _ => by kernel_rfl
    z50 := fun _ => by kernel_rfl
    v50 := fun _ => by kernel_rfl
    t53 := by kernel_rfl
    a53 := fun _ => by kernel_rfl
    z53 := fun _ => by kernel_rfl
    v53 := fun _ => by kernel_rfl
    t55 := by kernel_rfl
    a55 := fun _ => by kernel_rfl
    z55 := fun _ => by kernel_rfl
    v55 := fun _ => by kernel_rfl
    t66 := by kernel_rfl
    a66 := fun _ => by kernel_rfl
    z66 := fun _ => by kernel_rfl
    v66 := fun _ => by kernel_rfl
    t70 := by kernel_rfl
    a70 := fun _ => by kernel_rfl
    z70 := fun _ => by kernel_rfl
    v70 := fun _ => by kernel_rfl
    t76 := by kernel_rfl
    a76 := fun _ => by kernel_rfl
    z76 := fun _ => by kernel_rfl
    v76 := fun _ => by kernel_rfl
    t77 := by kernel_rfl
    a77 := fun _ => by kernel_rfl
    z77 := fun _ => by kernel_rfl
    v77 := fun _ => by kernel_rfl }
instance : Inhabited Pg := ⟨⟨0, 0, ByteArray.empty⟩⟩
def cmpPg (x y : Pg) : Int := if x.at_ < y.at_ then -1 else 1
theorem ltPg (x y : Pg) : ltOf cmpPg x y = decide (x.at_ < y.at_) := by
  unfold ltOf cmpPg
  by_cases h : x.at_ < y.at_ <;> simp [h]
theorem swoPg : SWO (ltOf cmpPg) where
  irrefl x := by rw [ltPg]; simp
  trans x y z h1 h2 := by rw [ltPg] at *; simp at *; omega
  ntrans x y z h1 h2 := by rw [ltPg] at *; simp at *; omega
set_option maxHeartbeats 1000000 in
theorem cmp_any (x y : Pg) (W : World) : Calls Try.prog 58 #[.agg #[.int .u64 x.at_, .int .i64 x.perm, .string x.data], .agg #[.int .u64 y.at_, .int .i64 y.perm, .string y.data]] W fun e w' => e = .returned (.int .i64 (cmpPg x y)) ∧ ∃ q os', w' = grow (W.drewN q) os' := by
  by_cases h : x.at_ < y.at_
  · have hc : cmpPg x y = -1 := by unfold cmpPg; rw [if_pos h]
    have HC := Go.Lib.hid hc
    clear hc
    go_enter Try.func58, Try.ntmps58
    go_wp2
    go_ret
    rw [HC.out]
    exact ⟨rfl, 0, _, by rw [alloc_eq_grow, alloc_eq_grow, grow_grow]; rfl⟩
  · have hc : cmpPg x y = 1 := by unfold cmpPg; rw [if_neg h]
    have HC := Go.Lib.hid hc
    clear hc
    go_enter Try.func58, Try.ntmps58
    go_wp2
    go_ret
    rw [HC.out]
    exact ⟨rfl, 0, _, by rw [alloc_eq_grow, alloc_eq_grow, grow_grow]; rfl⟩
theorem flatK_at (d : Array Pg) {k j : Nat} (hk : k < d.size) (hj : j < 3) : (flatK Pg.cells 3 d)[k * 3 + j]! = (d[k]!).cells[j]! := by
  rw [get_flatK _ _ _ _ (by omega)]
  rw [show (k * 3 + j) / 3 = k by omega, show (k * 3 + j) % 3 = j by omega]
set_option maxHeartbeats 1000000 in
theorem sort_any {w : World} {base g cap : Nat} {l : List Pg} (hown : w.ownsRow base 47 3 (.slice (some ⟨g, 0, none⟩) l.length cap) l.length (l.flatMap Pg.cells)) (hl : l.length ≤ 128) :
    Calls Try.prog 57 #[.slice (some ⟨g, 0, none⟩) l.length cap, .func (.func 58) #[] #[]] w fun e w' => e = .returned (.tuple #[]) ∧ ∃ l' : List Pg, l'.Perm l ∧ (∀ i j : Nat, ∀ hi : i < l'.length, ∀ hj : j < l'.length, i < j → ¬ (l'[j]).at_ < (l'[i]).at_) ∧ Mem w' w'.heap.size (some ⟨g, 0, none⟩) cap l' ∧ Go.RowKit.Below g w w' := by
  have hgl := hown.lt g rfl
  have hcap : l.length ≤ cap := by
    obtain ⟨_, ⟨e, _⟩ | ⟨g', cap', cur, e, _, _, h, _⟩⟩ := hown
    · cases e
    · cases e; exact h
  have hH : HoldsK Pg.cells 3 w g 0 l.toArray := by
    intro j hj
    rw [size_flatK, List.size_toArray] at hj
    rw [Nat.zero_add]
    refine ⟨?_, hown.frozenAt j⟩
    rw [hown.cellAt j (by omega)]
    have hk : j / 3 < l.length := by omega
    have h1 := flatK_at l.toArray (k := j / 3) (j := j % 3) (by simpa using hk) (by omega)
    rw [show j / 3 * 3 + j % 3 = j by omega] at h1
    rw [h1]
    have h2 := flat_at pgCells_len (List.getElem?_eq_getElem hk) (j := j % 3) (u := (l[j / 3]).cells[j % 3]!) (by
      rw [List.getElem!_eq_getElem?_getD, List.getElem?_eq_getElem (by rw [pgCells_len]; omega)]; rfl)
    rw [show j / 3 * 3 + j % 3 = j by omega] at h2
    rw [h2]
    have h3 : l.toArray[j / 3]! = l[j / 3] := by simp [hk]
    rw [h3]
    rfl
  have eg : ∀ args w, (callFunc 58 args).run Try.prog w = .ok (.enter 58 args) w := enters_of Try.func58 (by kernel_rfl) rfl
  have hcon := AnyQ.slices_SortFunc sortLays 3 (fun _ => by kernel_rfl) (fun _ => by kernel_rfl) Pg.cells pgCells_len Pg.one cmpPg swoPg 58 #[] g 0 cap l.toArray w eg (fun _ _ _ _ x y => cmp_any x y _) hH hgl.2 (by simp; omega)
  refine (show Calls Try.prog 57 _ _ _ from hcon).mono ?_
  rintro e w' ⟨rfl, d', n, os, hp, hs, rfl⟩
  refine ⟨rfl, d'.toList, ?_, ?_, ?_, ?_⟩
  · have := hp.2.2
    have e1 : d'.extract 0 l.toArray.size = d' := by rw [← hp.1, Array.extract_size]
    rw [e1, Array.extract_size] at this
    simpa using this
  · intro i j hi hj hij
    have hsz := hp.1
    simp only [List.size_toArray] at hsz
    simp only [Array.length_toList] at hi hj
    have := hs i j (Nat.zero_le _) hij (by simp; omega)
    rw [ltPg, getElem!_pos d' j (by omega), getElem!_pos d' i (by omega)] at this
    simpa using this
  · have hsz := hp.1
    have hh := holdsK_sortWorldK_c Pg.cells 3 w g 0 l.toArray d' n os hH hgl.2 hsz
    simp only [List.size_toArray] at hsz
    refine ⟨by simp; omega, fun k x hx => ⟨g, 0, rfl, lt_sortWorldK _ _ _ _ _ _ _ _ hgl.2, fun j u hu => ?_⟩⟩
    have hk : k < d'.size := by
      have := (List.getElem?_eq_some_iff.1 hx).1
      simpa using this
    have hj : j < 3 := by
      have := (List.getElem?_eq_some_iff.1 hu).1
      rwa [pgCells_len] at this
    have h1 := (hh (k * 3 + j) (by rw [size_flatK]; omega)).1
    rw [Nat.zero_add, flatK_at d' hk hj] at h1
    rw [Nat.zero_add, h1]
    have h2 : d'[k]! = x := by
      rw [getElem!_pos d' k hk]
      have : d'.toList[k]? = some d'[k] := by simp [hk]
      rw [this] at hx
      exact Option.some.inj hx
    rw [h2, List.getElem!_eq_getElem?_getD, hu]
    rfl
  · have h0 : Go.RowKit.Below g w (Sort.ahead w n) := ⟨rfl, rfl, rfl, Nat.le_refl _, fun _ _ => rfl⟩
    refine h0.trans ⟨rfl, rfl, rfl, size_sortWorldK_c Pg.cells 3 w g 0 n d' os, fun k hk => ?_⟩
    show ((w.heap.modify g (onCells _)) ++ os)[k]? = w.heap[k]?
    rw [Array.getElem?_append_left (by rw [Array.size_modify]; omega), Array.getElem?_modify, if_neg (by omega)]
end Go.Proofs.Ytclghfekmmcfjaa
