/- scope: In. -/
import Derived.Test.YtdchffghgajbfaaU4
namespace Go.Proofs.Ytdchffghgajbfaa
open Go.RowKit

theorem valid_val (s : ScV) (b : Bool) (hb : Hid (validS s = b)) (w : World) : Calls Try.prog 10 #[.agg #[.int .i64 s.kind, .int .i64 s.arg]] w fun e w' => e = .returned (.bool b) ∧ Below w.heap.size w w' := by
  have := valid_any s w
  rw [hb.out] at this; exact this
theorem validS_kinds {k a : Int} (h : validS ⟨k, a⟩ = true) : k = 0 ∨ k = 1 ∨ k = 2 ∨ k = 3 ∨ k = 4 ∨ k = 5 := by
  unfold validS at h
  split at h
  · cases h
  · simp only at *; omega
end Go.Proofs.Ytdchffghgajbfaa
