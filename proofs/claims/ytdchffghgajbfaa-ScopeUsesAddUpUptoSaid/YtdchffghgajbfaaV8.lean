/- scope: Print. -/
import Derived.Test.YtdchffghgajbfaaV7
namespace Go.Proofs.Ytdchffghgajbfaa
open Go.RowKit

def PrintPost (t : ByteArray) (n : Int) (w : World) (e : Ending) (w' : World) : Prop := e = .returned (.tuple #[.string t, .int .i64 n]) ∧ Below w.heap.size w w'
theorem dig_enc {a : Int} (h : 0 ≤ a ∧ a < 10) : Utf8.encode (48 + a) = digB a := by
  have : a = 0 ∨ a = 1 ∨ a = 2 ∨ a = 3 ∨ a = 4 ∨ a = 5 ∨ a = 6 ∨ a = 7 ∨ a = 8 ∨ a = 9 := by omega
  rcases this with rfl | rfl | rfl | rfl | rfl | rfl | rfl | rfl | rfl | rfl <;> decide
end Go.Proofs.Ytdchffghgajbfaa
