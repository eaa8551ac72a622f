/- The texts out of the row's list; the witness's world of the scope laws. -/
import Derived.Test.YtdchffghgajbfaaR5
namespace Go.Proofs.Ytdchffghgajbfaa
open Go.ChangeShapes Go.WideShapes Go.ChangeAt Go.RowKit Go.Deep

theorem array6 {α : Type} {cs : Array α} (h : cs.toList.length = 6) : ∃ c0 c1 c2 c3 c4 c5, cs = #[c0, c1, c2, c3, c4, c5] := by
  obtain ⟨l⟩ := cs
  match l, h with
  | [c0, c1, c2, c3, c4, c5], _ => exact ⟨c0, c1, c2, c3, c4, c5, rfl⟩
theorem list6 {α : Type} {l : List α} (h : l.length = 6) : ∃ c0 c1 c2 c3 c4 c5, l = [c0, c1, c2, c3, c4, c5] := by
  match l, h with
  | [c0, c1, c2, c3, c4, c5], _ => exact ⟨c0, c1, c2, c3, c4, c5, rfl⟩
/-- of what is read no part is too heavy -/
theorem small_arg {H : Type} {ts : List TypeId} {ds : List (DataW H)} (h : (DataW.weightsEach Try.prog ts ds).all (· ≤ reachBytes) = true) (i : Nat) (hi : i < ts.length) (hi' : i < ds.length) : Small Try.prog ts[i] ds[i] :=
  small_each (fun n hn => by have := List.all_eq_true.1 h n hn; simpa using this) i hi hi'
end Go.Proofs.Ytdchffghgajbfaa
