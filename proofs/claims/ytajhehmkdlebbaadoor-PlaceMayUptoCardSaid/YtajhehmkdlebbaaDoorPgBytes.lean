/- Bytes of the call's own: '[]byte(s)', 'copy(b[o:], t)', 'string(b)'. -/
import Derived.Test.YtajhehmkdlebbaaDoorPgClone
import Derived.Laws.IdiomStrings
import Derived.Laws.IdiomCopy
import Derived.Lib.LazyBuf
namespace Go.Proofs.YtajhehmkdlebbaaDoor
open Go.ChangeShapes Go.WideShapes Go.ChangeAt Go.RowKit Go.Deep Go.Maps Go.WideMaps
/-- block b begins with the bytes l, and they may be written -/
def BytesAt (w : World) (b : Nat) (l : List UInt8) : Prop := ∀ j (hj : j < l.length), w.cell? ⟨b, j, none⟩ = some (.int .u8 (l[j].toNat : Int)) ∧ w.frozen? ⟨b, j, none⟩ = false
theorem BytesAt.block {w w' : World} {b : Nat} {l : List UInt8} (h : BytesAt w b l) (hb : w'.heap[b]? = w.heap[b]?) : BytesAt w' b l := fun j hj =>
  ⟨(World.cell?_of_block (w := w) hb).trans (h j hj).1, (World.frozen?_of_block (w := w) hb).trans (h j hj).2⟩
theorem bytesAt_new (w : World) (d : ByteArray) (cap : Nat) (e : TypeId) : BytesAt (w.alloc (.cells (bytesRow d cap) e ((bytesRow d cap).size, (bytesRow d cap).size + 1))) w.heap.size d.data.toList := by
  intro j hj
  have hg := heap_alloc_new w (.cells (bytesRow d cap) e ((bytesRow d cap).size, (bytesRow d cap).size + 1))
  have hs : d.data.toList.length ≤ (bytesRow d cap).size := by simp [bytesRow]
  constructor
  · rw [cell_of_row _ _ _ _ _ _ hg]
    have hj' : j < d.data.size := by simpa using hj
    unfold bytesRow
    rw [Array.getElem?_append_left (by simpa using hj')]
    simp only [Array.getElem?_map, Array.getElem?_eq_getElem hj', Option.map_some, Array.getElem_toList]
  · unfold World.frozen?
    simp only [hg]
    simp
    omega
def u8L (t : List UInt8) : List Value := t.map fun x => Value.int .u8 (x.toNat : Int)
theorem u8L_len (t : List UInt8) : (u8L t).length = t.length := by simp [u8L]
theorem splice_at {l t : List UInt8} {o : Nat} (h : o + t.length ≤ l.length) (j : Nat) : (l.take o ++ t ++ l.drop (o + t.length))[j]? = if o ≤ j ∧ j < o + t.length then t[j - o]? else l[j]? := by
  have := spl_at (d := ⟨l.toArray⟩) (o := o) (t := t) (by rw [ba_size]; simpa using h) j
  simpa [spl] using this
theorem bytesAt_copy {w : World} {b o : Nat} {l t : List UInt8} (h : BytesAt w b l) (ho : o + t.length ≤ l.length) : BytesAt (w.setCells b o (u8L t)) b (l.take o ++ t ++ l.drop (o + t.length)) := by
  intro j hj
  have hto : (l.take o).length = o := by rw [List.length_take]; omega
  have hlen : (l.take o ++ t ++ l.drop (o + t.length)).length = l.length := by simp; omega
  have hjl : j < l.length := by rw [hlen] at hj; exact hj
  have hsp := splice_at ho j
  rw [List.getElem?_eq_getElem hj, List.getElem?_eq_getElem hjl] at hsp
  have hfr : (w.setCells b o (u8L t)).frozen? ⟨b, j, none⟩ = false := (World.frozen?_setCells b _ _ _ _).trans (h j hjl).2
  refine ⟨?_, hfr⟩
  by_cases h1 : o ≤ j ∧ j < o + t.length
  · have := World.cell?_setCells_in b (u8L t) o w (fun q hq => by rw [u8L_len] at hq; rw [(h (o + q) (by omega)).1]; rfl) (j - o) (by rw [u8L_len]; omega)
    rw [show o + (j - o) = j by omega] at this
    rw [if_pos h1, List.getElem?_eq_getElem (by omega)] at hsp
    rw [this, Option.some.inj hsp]
    simp only [u8L, List.getElem_map]
  · rw [if_neg h1] at hsp
    rw [World.cell?_setCells_out b _ _ _ _ (fun _ _ => by rw [u8L_len]; simp only; omega), (h j hjl).1, Option.some.inj hsp]
theorem run_copy_min {P : Program} (w : World) (dT sT ty elem : TypeId) (b o dLen dCap : Nat) (t : ByteArray) {l : List UInt8}
    (hu : P.underlying dT = some (.slice elem)) (hz : ∀ w, (Go.sizeOf elem).run P w = .ok 1 w) (hb : BytesAt w b l) (ho : o + dLen ≤ l.length) :
    (Builtin.copy_ #[dT, sT] ty #[.slice (some ⟨b, o, none⟩) dLen dCap, .string t]).run P w = .ok (goInt (Nat.min t.size dLen)) (w.setCells b o (u8L (t.data.toList.take dLen))) := by
  have hst := run_storeCells_cells (P := P) b o (u8L (t.data.toList.take dLen)) 0 w (fun j hj => by
      rw [u8L_len, List.length_take] at hj
      rw [Nat.add_zero, (hb (o + j) (by omega)).1]; rfl) (fun j hj => by
      rw [u8L_len, List.length_take] at hj
      rw [Nat.add_zero]; exact (hb (o + j) (by omega)).2) (by
    intro v hv
    obtain ⟨x, _, rfl⟩ := List.mem_map.1 hv
    rfl)
  simp [Builtin.copy_, run_underlying hu, Builtin.lenOf, Builtin.firstCells, hz]
  have htk : List.take (Nat.min t.size dLen) (List.map (fun b : UInt8 => Value.int IntKind.u8 (b.toNat : Int)) t.data.toList) = u8L (t.data.toList.take dLen) := by
    rw [u8L, List.map_take, List.take_eq_take_iff, List.length_map, ← ba_size]
    have hm : Nat.min t.size dLen = min t.size dLen := rfl
    rw [hm]; omega
  rw [htk]
  simp only [Nat.add_zero] at hst
  rw [hst]
  rfl
theorem run_bytes_str {P : Program} (w : World) (src dst e : TypeId) (b cap : Nat) (l : List UInt8) (hs : P.underlying src = some (.slice e)) (he : P.underlying e = some (.int .u8)) (hd : P.underlying dst = some .string) (hb : BytesAt w b l) (n : Nat) (hn : n = l.length) :
    (convert src dst (.slice (some ⟨b, 0, none⟩) n cap)).run P w = .ok (.string ⟨l.toArray⟩) w := by
  subst hn
  exact run_convert_bytes_back w src dst e ⟨b, 0, none⟩ cap l hs he hd (fun j hj => by
    have : (⟨b, 0, none⟩ : Addr).add j = ⟨b, j, none⟩ := by unfold Addr.add; split <;> simp [*]
    rw [this]; exact (hb j hj).1)
end Go.Proofs.YtajhehmkdlebbaaDoor
