/- Maps of the call's own: small laws. -/
import Derived.Test.YtdchffghgajbfaaDoorK3
import Derived.Test.YtdchffghgajbfaaDoorP0
import Derived.Test.YtdchffghgajbfaaDoorA2
import Derived.Maps.OwnSet
import Derived.Sort.KeysCollected
import Derived.KernelRfl
namespace Go.Proofs.YtdchffghgajbfaaDoor
open Go.RowKit Go.Maps Go.WideMaps

theorem strLaw : Keyed Tryd.prog 9 := string_keyed Tryd.underlying9
theorem key_of (t : List UInt8) (s : ByteArray) (hs : s = mkB t) (h : t.length ≤ maxLen) : keyOf Tryd.prog 9 (.string s) = some (.string t) := by
  have := keyOf_string_mk (P := Tryd.prog) (k := 9) Tryd.underlying9 (s := s) (by rw [hs, ← data_len, mkB_data]; exact h)
  rw [hs, mkB_data] at this
  rw [hs]; exact this
theorem ownsMap_move {w w' : World} {b n : Nat} {D : DataW Unit} {R : Value → Option (DataW Unit × List MemPlace)} (h : w.ownsMap Tryd.prog 9 R b n D) (hb : w'.heap[b]? = w.heap[b]?) : w'.ownsMap Tryd.prog 9 R b n D := by
  obtain ⟨es, clock, h1, h2⟩ := h
  exact ⟨es, clock, hb.trans h1, h2⟩
theorem ownsMap_lt {w : World} {b n : Nat} {D : DataW Unit} {R : Value → Option (DataW Unit × List MemPlace)} (h : w.ownsMap Tryd.prog 9 R b n D) : b < w.heap.size := by
  obtain ⟨es, clock, h1, _⟩ := h
  exact (Array.getElem?_eq_some_iff.1 h1).1
theorem ownsMap_size {w : World} {b n : Nat} {D : DataW Unit} {R : Value → Option (DataW Unit × List MemPlace)} (h : w.ownsMap Tryd.prog 9 R b n D) : Maps.size D ≤ n := by
  obtain ⟨es, clock, _, _, h3, rfl⟩ := h
  show ((es.toList.map _).foldr DataW.insert []).length ≤ n
  rw [length_sorted, List.length_map, Array.length_toList]; exact h3
theorem grown_below {w0 w w' : World} (hb : Below w0.heap.size w0 w) (hg : w.grownBy w' (some w0.heap.size)) : Below w0.heap.size w0 w' := hb.grown hg hb.size (fun j hj => by cases hj; exact Nat.le_refl _)
end Go.Proofs.YtdchffghgajbfaaDoor
