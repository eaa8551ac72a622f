/- scope.Of. -/
import Derived.Test.YtdchffghgajbfaaU7
namespace Go.Proofs.Ytdchffghgajbfaa
open Go.RowKit

def ScV.cells (s : ScV) : List Value := [.int .i64 s.kind, .int .i64 s.arg]
def kSc : Kn ScV := Kn.enc ScV.cells 2 (by omega) (fun _ => rfl) (fun x u hu => by simp [ScV.cells] at hu; rcases hu with rfl | rfl <;> rfl)
theorem kSc_plain : kSc.Plain := Kn.plain_enc
/-- the scope of a kind that an object of this priority is asked for -/
def scopeK (prio : Int) (k : Nat) : ScV := ⟨k, if k = 5 then prio else 0⟩
def ofS (o : ObjV) (k : Nat) : List ScV := ((List.range k).map (scopeK o.prio)).filter (inS o.prio o.dl o.parts)
theorem ofS_step {o : ObjV} {k : Nat} (hk : k < 6) (b : Bool) (hb : inS o.prio o.dl o.parts (scopeK o.prio k) = b) : ofS o (k + 1) = ofS o k ++ (if b then [scopeK o.prio k] else []) := by
  unfold ofS
  rw [List.range_succ, List.map_append, List.filter_append]
  congr 1
  cases b <;> simp [hb]
structure ScAt (w : World) (p : Nat) (k a : Int) : Prop where
  s0 : w.cell? ⟨p, 0, none⟩ = some (.int .i64 k)
  s1 : w.cell? ⟨p, 1, none⟩ = some (.int .i64 a)
def OfPost (o : ObjV) (w : World) (e : Ending) (w' : World) : Prop :=
  ∃ A c, e = .returned (.slice A (ofS o 6).length c) ∧ Own kSc 42 w.heap.size (fun _ => True) w' (.slice A (ofS o 6).length c) (ofS o 6) ∧ Below w.heap.size w w'
end Go.Proofs.Ytdchffghgajbfaa
