/- Plain facts about names and their bytes. -/
import Derived.Laws.RangeAny
namespace Go.Proofs.YtdchffghgajbfaaDoor

def plainC (c : Int) : Bool := (decide (97 ≤ c) && decide (c ≤ 122)) || (decide (48 ≤ c) && decide (c ≤ 57))
def okC (c : Int) : Bool := plainC c || c == 45
def okB (b : UInt8) : Bool := okC (b.toNat : Int)
/-- 'label.Name' in plain words. -/
def nameL (l : List UInt8) : Bool := decide (1 ≤ l.length) && decide (l.length ≤ 32) && !(l.head? == some 45) && !(l.getLast? == some 45) && l.all okB
theorem plainC_high (c : Int) (h : 128 ≤ c) : okC c = false := by
  unfold okC plainC
  simp only [Bool.or_eq_false_iff, Bool.and_eq_false_iff, decide_eq_false_iff_not, beq_eq_false_iff_ne]
  omega
end Go.Proofs.YtdchffghgajbfaaDoor
