/- scope: kindOf, In. -/
import Derived.Test.YtdchffghgajbfaaU3
import Derived.Laws.EntriesVeiled
namespace Go.Proofs.Ytdchffghgajbfaa
open Go.RowKit

def KindPost (t : ByteArray) (f : FuncId) (w : World) (e : Ending) (w' : World) : Prop := e = .returned (.agg #[.string t, .func (.func f) #[] #[]]) ∧ Below w.heap.size w w'
end Go.Proofs.Ytdchffghgajbfaa
