/- scope: names, the kinds' functions, In, Of. -/
import Derived.Test.YtdchffghgajbfaaU1
import Derived.Test.YtdchffghgajbfaaS1
import Derived.Deep.RegionHeld3
import Derived.Deep.RegionLaw
import Derived.Deep.DeepCutAuto
namespace Go.Proofs.Ytdchffghgajbfaa
open Go.RowKit

/-- no part has more amounts than can be counted -/
def PartsOk (ps : List PartV) : Prop := ∀ p ∈ ps, p.req.length ≤ 1152921504606846976 ∧ p.lim.length ≤ 1152921504606846976
def namesOne (p : PartV) : Bool := decide (((p.req.length : Int) + p.lim.length) > 0)
theorem idxFn_any {α : Type} (p : α → Bool) (xs : List α) : decide (idxFn p xs ≥ 0) = xs.any p := by
  unfold idxFn
  cases h : xs.findIdx? p with
  | none =>
    rw [List.findIdx?_eq_none_iff] at h
    have : xs.any p = false := by rw [List.any_eq_false]; intro x hx; simp [h x hx]
    rw [this]; rfl
  | some i =>
    have hi := List.findIdx?_eq_some_iff_getElem.1 h
    obtain ⟨h1, h2, _⟩ := hi
    have : xs.any p = true := List.any_eq_true.2 ⟨xs[i], List.getElem_mem _, h2⟩
    rw [this]; simp
/-- an object's value: its seven fields -/
structure ObjV where
  path : ByteArray
  name : ByteArray
  labels : Value
  prio : Int
  dl : Int
  parts : List PartV
  ver : Int
def ObjV.val (o : ObjV) (A : Option Addr) (c : Nat) : Value := .agg #[.string o.path, .string o.name, o.labels, .int .i64 o.prio, .int .i64 o.dl, .slice A o.parts.length c, .int .i64 o.ver]
end Go.Proofs.Ytdchffghgajbfaa
