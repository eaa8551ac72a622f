/- The scope's functions by their answers, their arguments written out. -/
import Derived.Test.YtdchffghgajbfaaX1
import Derived.Test.YtdchffghgajbfaaX2
import Derived.Test.YtdchffghgajbfaaV9
namespace Go.Proofs.Ytdchffghgajbfaa
open Go.RowKit

/-- the object with other lists -/
def ObjV.re (o : ObjV) (L : Option Addr) (n m : Nat) : ObjV := { o with labels := .slice L n m }
theorem own_val (o : ObjV) (A : Option Addr) (c : Nat) (ls : List LabV) (B0 : Option Addr) (m0 : Nat) (hl : o.labels = .slice B0 ls.length m0) (w : World) (h : ObjFit w o A ls) :
    Calls Try.prog 6 #[.agg #[.string o.path, .string o.name, .slice B0 ls.length m0, .int .i64 o.prio, .int .i64 o.dl, .slice A o.parts.length c, .int .i64 o.ver]] w fun e w' =>
      ∃ (L : Option Addr) (m : Nat) (B : Option Addr) (c : Nat), e = .returned (.agg #[.string o.path, .string o.name, .slice L ls.length m, .int .i64 o.prio, .int .i64 o.dl, .slice B o.parts.length c, .int .i64 o.ver]) ∧ ObjFit w' (o.re L ls.length m) B ls ∧ Below w.heap.size w w' := by
  have := own_any o A c ls w h
  unfold ObjV.val at this
  rw [hl] at this
  refine this.mono fun e w' hp => ?_
  obtain ⟨L, m, B, c, R, rfl, hparts, hlr, hb⟩ := hp
  exact ⟨L, m, B, c, rfl, ⟨hparts.row.2.1.mono fun _ _ => trivial, ⟨L, m, rfl, hlr.mono fun _ _ => trivial⟩, h.n64, h.n24, h.n32⟩, hb⟩
end Go.Proofs.Ytdchffghgajbfaa
