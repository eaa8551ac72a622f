/- A region that draws its order and whose calls only make memory: one walk of the text's own order. Derived/Deep/Quiet.lean's theorem at the class of the worlds that hold all that w holds. -/
import Derived.Test.YtdchffghgajbfaaDoorK2
import Derived.WalkKit
import Derived.Deep.QuietTactic
import Derived.BigQuiet
namespace Go.Proofs.YtdchffghgajbfaaDoor
open Go.RowKit

/-- a world that holds all that W holds -/
structure BW (W : World) where
  w : World
  h : Below W.heap.size W w
instance (W : World) : Nonempty (BW W) := ⟨⟨W, Below.refl _ _⟩⟩
section
variable {P : Program} {W : World}
theorem BW.cell (W : World) : ∀ (x : BW W) (b o : Nat), b < W.heap.size → x.w.cell? ⟨b, o, none⟩ = W.cell? ⟨b, o, none⟩ := fun x b o hb => x.h.cell (p := ⟨b, o, none⟩) hb
theorem BW.frozen (W : World) : ∀ (x : BW W) (b o : Nat), b < W.heap.size → x.w.frozen? ⟨b, o, none⟩ = W.frozen? ⟨b, o, none⟩ := fun x b o hb => x.h.frozen (p := ⟨b, o, none⟩) hb
theorem below_drew1 (W : World) : Below W.heap.size W { W with drawn := W.drawn + 1 } := ⟨rfl, rfl, rfl, Nat.le_refl _, fun _ _ => rfl⟩
theorem wp_region_pure {id : Nat} {Q : Exit → Act → World → Prop} {a : Act} {w : World} {l : List Oper} (hm : P.follows .mixedOrders = true) (hB : Region.lexB .any l.toArray = true)
    (h : wpQuiet P l.toArray (fun w' => ∃ x : BW w, w' = x.w) (fun a' => ∀ w', (∃ x : BW w, w' = x.w) → Q .normal a' w') l a) : (Code.region id l.toArray true).wp P Q a w :=
  wp_region_quiet (C := fun w' => ∃ x : BW w, w' = x.w) hm hB ⟨⟨_, below_drew1 w⟩, rfl⟩ (by simpa using h)
/-- a call that only makes memory -/
theorem Calls.pure_of {f : FuncId} {args : Array Value} {x : BW W} {v : Value} (h : Calls P f args x.w fun e w' => e = .returned v ∧ Below x.w.heap.size x.w w') :
    Calls P f args x.w fun e w'' => e = .returned v ∧ ∃ y : BW W, w'' = y.w :=
  h.mono fun _ w' ⟨he, hb⟩ => ⟨he, ⟨w', x.h.trans (hb.mono x.h.size)⟩, rfl⟩
end
end Go.Proofs.YtdchffghgajbfaaDoor
