/- page.Fill, page.Store. -/
import Derived.Test.YtajhehmkdlebbaaDoorQPgSet
namespace Go.Proofs.YtajhehmkdlebbaaDoor
open Go.ChangeShapes Go.WideShapes Go.ChangeAt Go.RowKit Go.Deep Go.Maps Go.WideMaps
set_option maxRecDepth 100000
theorem MemV.of {w : World} {B : Nat} {A : Option Addr} {cap : Nat} {L : List Pg} (hL : Mem w B A cap L) (hA : A = none → cap = 0) (hB : B ≤ w.heap.size) : MemV w (.slice A L.length cap) L := ⟨A, cap, rfl, hL.more hB, hA⟩
theorem MemV.below {w w' : World} {v : Value} {L : List Pg} (h : MemV w v L) (hb : Below w.heap.size w w') : MemV w' v L := by
  obtain ⟨A, cap, rfl, h1, h2⟩ := h
  exact ⟨A, cap, rfl, (Sl.In.below h1 hb).more hb.size, h2⟩
noncomputable def fillE (l : List Pg) (at_ : Int) (s : ByteArray) : Int := if rightB l = true then (if (loadN l at_ 0 s.size).isSome then 0 else 8) else 1
noncomputable def fillX (l : List Pg) (at_ : Int) (s : ByteArray) : List Pg := if rightB l = true ∧ (loadN l at_ 0 s.size).isSome = true then wrL l at_ s s.size else l
def bytesV (v : Int) (n : Nat) : ByteArray := ⟨((List.range n).map fun i => UInt8.ofNat ((v / 256 ^ i) % 256).toNat).toArray⟩
noncomputable def storeX (l : List Pg) (at_ n v : Int) : List Pg := if ((1 ≤ n ∧ n ≤ 8) ∧ rightB l = true) ∧ (loadN l at_ 2 n.toNat).isSome = true then wrL l at_ (bytesV v n.toNat) n.toNat else l
theorem bytesV_size (v : Int) (n : Nat) : (bytesV v n).size = n := by rw [ba_size]; simp [bytesV]
end Go.Proofs.YtajhehmkdlebbaaDoor
