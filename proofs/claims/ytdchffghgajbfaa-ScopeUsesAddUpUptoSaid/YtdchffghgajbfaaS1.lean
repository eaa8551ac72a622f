/- slices.Clone, slices.IndexFunc, slices.DeleteFunc at events; the closure of Since. -/
import Derived.Test.YtdchffghgajbfaaA2
import Derived.Test.YtdchffghgajbfaaE
import Derived.Deep.DeepFit
namespace Go.Proofs.Ytdchffghgajbfaa
open Go.RowKit

/-- the first place at which a predicate holds, -1 where there is none -/
def idxFn {α : Type} (p : α → Bool) (xs : List α) : Int := match xs.findIdx? p with
  | some i => i
  | none => -1
theorem idxFn_some {α : Type} {p : α → Bool} {xs : List α} {k : Nat} (hk : k < xs.length) (h : ∀ x ∈ xs.take k, p x = false) (hp : p xs[k] = true) : idxFn p xs = k := by
  unfold idxFn
  have : xs.findIdx? p = some k := by
    rw [List.findIdx?_eq_some_iff_getElem]
    refine ⟨hk, hp, fun j hj => ?_⟩
    have := h xs[j] (by rw [List.mem_take_iff_getElem]; exact ⟨j, by omega, rfl⟩)
    simp [this]
  rw [this]
theorem idxFn_none {α : Type} {p : α → Bool} {xs : List α} (h : ∀ x ∈ xs, p x = false) : idxFn p xs = -1 := by
  unfold idxFn
  rw [List.findIdx?_eq_none_iff.2 h]

def evOut (path : ByteArray) (x : Ev) : Bool := !underB x.path path

end Go.Proofs.Ytdchffghgajbfaa
