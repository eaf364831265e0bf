/- The document's example for images, at the head of all their statements: true. -/
import Derived.Test.YtclghfekmmcfjaaElWr
namespace Go.Proofs.Ytclghfekmmcfjaa
open Go.ChangeShapes Go.WideShapes Go.ChangeAt Go.RowKit Go.Deep Go.Shelf
set_option maxRecDepth 100000
def shSg : Sg := ⟨65536, 1, ⟨#[115, 0, 0, 0]⟩, 4⟩
theorem sh_imay : imayB 65536 [shSg] = true := by
  refine decide_eq_true ⟨by simp, fun k hk s hs => ?_, ?_⟩
  · obtain rfl : k = 0 := by simpa using hk
    obtain rfl : shSg = s := by simpa using hs
    exact ⟨⟨by decide, by decide, by decide, by decide, by decide, by decide⟩, by decide⟩
  · decide
theorem sh_ok : ∀ s ∈ [shSg], s.ok := by
  intro s hs
  obtain rfl : s = shSg := by simpa using hs
  exact ⟨by decide, by decide, by decide, by decide⟩
def shF : ByteArray := ⟨(fileAll 65536 [shSg]).toArray⟩
theorem sh_size : shF.size = 260 := by
  have : shF.size = (fileAll 65536 [shSg]).length := by rw [ba_size]; rfl
  rw [this, fileAll_len]; rfl
theorem sh_ext : shF.extract 256 260 = ⟨#[115, 0, 0, 0]⟩ := by
  have h := (has_data (e := 65536) (l := [shSg]) (k := 0) (by simp)).ext
  have e1 : upN (endN [shSg] 0) = 256 := rfl
  have e2 : ([shSg][0]).data.data.toList = [115, 0, 0, 0] := rfl
  rw [e1, e2] at h
  apply data_toList.1
  rw [ByteArray.toList_eq, ByteArray.toList_eq, ByteArray.data_extract, Array.toList_extract, List.extract_eq_take_drop]
  exact h
theorem sgs_new (w : World) (s : Sg) : Sgs (w.alloc (.cells #[.int .u64 s.at_, .int .i64 s.perm, .string s.data, .int .u64 s.size] 29)) (w.heap.size + 1) (some ⟨w.heap.size, 0, none⟩) 1 [s] := by
  refine ⟨Nat.le_refl _, fun k x hk => ⟨w.heap.size, 0, rfl, Nat.lt_succ_self _, fun j u hu => ?_⟩⟩
  obtain rfl : k = 0 := by have := (List.getElem?_eq_some_iff.1 hk).1; simpa using this
  obtain rfl : s = x := by simpa using hk
  rw [cell_of_row _ _ _ _ _ _ (heap_alloc_new w _)]
  simp only [Nat.zero_mul, Nat.zero_add]
  rw [← Array.getElem?_toList]
  exact hu
set_option maxHeartbeats 1000000 in
theorem ishown_any (w : World) : Calls Try.prog 17 #[] w fun e w' => e = .returned (.bool true) ∧ Below w.heap.size w w' := by
  have HS := Lib.hid (sgs_new w shSg)
  have HB0 : Hid (Below w.heap.size w (w.alloc (.cells #[.int .u64 shSg.at_, .int .i64 shSg.perm, .string shSg.data, .int .u64 shSg.size] 29))) := (Below.refl _ _).alloc (Nat.le_refl _) _
  go_enter Try.func17, Try.ntmps17
  go_wp2_with fail
  refine (write_good (A := some ⟨w.heap.size, 0, none⟩) (cap := 1) (L := [shSg]) (B := w.heap.size + 1) 65536 (by decide) sh_imay HS.out (by simp) sh_ok (by simp)).mono ?_
  rintro e w1 ⟨rfl, hb1⟩
  have hb : Below w.heap.size w w1 := HB0.out.trans (hb1.mono HB0.out.size)
  obtain ⟨S, hS⟩ : ∃ S : ByteArray, (⟨(fileAll 65536 [shSg]).toArray⟩ : ByteArray) = S := ⟨_, rfl⟩
  have h1 : (S.size : Int) = 260 := by rw [← hS]; exact congrArg _ sh_size
  have h2 : S.extract 256 260 = ⟨#[115, 0, 0, 0]⟩ := by rw [← hS]; exact sh_ext
  rw [hS]
  have h3 : S.extract 256 S.size = ⟨#[115, 0, 0, 0]⟩ := by rw [show S.size = 260 by omega]; exact h2
  have H3 := Lib.hid h3
  clear hb1 hS h2 h3
  go_wp2
  go_ret
  exact ⟨ret_bool (a := (S.extract 256 S.size).toList == [115, 0, 0, 0]) (by rw [H3.out, ByteArray.toList_eq]; rfl), hb⟩
end Go.Proofs.Ytclghfekmmcfjaa
