/- own: the same object in other lists: what is handed in, what is told. -/
import Derived.Test.YtdchffghgajbfaaV5
namespace Go.Proofs.Ytdchffghgajbfaa
open Go.RowKit

structure LabV where
  key : ByteArray
  val : ByteArray
def LabV.cells (l : LabV) : List Value := [.string l.key, .string l.val]
def kLab : Kn LabV := Kn.enc LabV.cells 2 (by omega) (fun _ => rfl) (fun x u hu => by simp [LabV.cells] at hu; rcases hu with rfl | rfl <;> rfl)
theorem kLab_plain : kLab.Plain := Kn.plain_enc
theorem labElem : Elem Try.prog 22 92 kLab 32 :=
  Elem.mk_ (z := .agg #[.string ⟨#[]⟩, .string ⟨#[]⟩]) Try.underlying22 (by kernel_rfl) rfl (by omega)
/-- an object whose lists are none of them too long to be laid anew -/
structure ObjFit (w : World) (o : ObjV) (A : Option Addr) (ls : List LabV) : Prop where
  row : Row kPart (fun _ => True) w A o.parts
  lab : ∃ B m, o.labels = .slice B ls.length m ∧ Row kLab (fun _ => True) w B ls
  n64 : o.parts.length * 64 ≤ 140737488351232
  n24 : ∀ p ∈ o.parts, p.req.length * 24 ≤ 140737488351232 ∧ p.lim.length * 24 ≤ 140737488351232
  n32 : ls.length * 32 ≤ 140737488351232
theorem ObjFit.below {w w' : World} {o : ObjV} {A : Option Addr} {ls : List LabV} (h : ObjFit w o A ls) (hb : Below w.heap.size w w') : ObjFit w' o A ls :=
  ⟨h.row.below hb, let ⟨B, m, h1, h2⟩ := h.lab; ⟨B, m, h1, h2.below hb⟩, h.n64, h.n24, h.n32⟩
theorem ObjFit.ok {w : World} {o : ObjV} {A : Option Addr} {ls : List LabV} (h : ObjFit w o A ls) : ObjOk w o A (fun _ => True) :=
  ⟨let ⟨B, m, h1, _⟩ := h.lab; ⟨B, _, m, h1⟩, h.row, by have := h.n64; omega, fun p hp => by have := h.n24 p hp; omega⟩
/-- the parts of a list of the call's own: their lists lie in blocks that are not the list's own -/
structure PartsAt (base : Nat) (w : World) (lv : Value) (L : List PartV) (R : Nat → Prop) : Prop where
  own : Own kPart 33 base R w lv L
  low : ∀ k, R k → base ≤ k ∧ k < w.heap.size ∧ lv.ownBlock ≠ some k
theorem PartsAt.below {base : Nat} {w w' : World} {lv : Value} {L : List PartV} {R : Nat → Prop} (h : PartsAt base w lv L R) (hb : Below w.heap.size w w') : PartsAt base w' lv L R :=
  ⟨h.own.below hb, fun k hk => ⟨(h.low k hk).1, Nat.lt_of_lt_of_le (h.low k hk).2.1 hb.size, (h.low k hk).2.2⟩⟩
theorem PartsAt.app {base : Nat} {w w' : World} {lv lv' : Value} {L L' : List PartV} {R S : Nat → Prop} (h : PartsAt base w lv L R) (hS : ∀ k, S k → base ≤ k ∧ k < w.heap.size ∧ lv.ownBlock ≠ some k) (ha : Appended kPart 33 base (fun k => R k ∨ S k) w w' lv lv' L') : PartsAt base w' lv' L' (fun k => R k ∨ S k) := by
  have hall : ∀ k, (R k ∨ S k) → base ≤ k ∧ k < w.heap.size ∧ lv.ownBlock ≠ some k := fun k hk => hk.elim (h.low k) (hS k)
  refine ⟨ha.own, fun k hk => ?_⟩
  obtain ⟨h1, h2, h3⟩ := hall k hk
  refine ⟨h1, Nat.lt_of_lt_of_le h2 ha.grown.size, ?_⟩
  rcases ha.at_ with e | e
  · rw [e]; exact h3
  · rw [e]; intro e2
    have := Option.some.inj e2
    omega
theorem PartsAt.row {base : Nat} {w : World} {A : Option Addr} {n c : Nat} {L : List PartV} {R : Nat → Prop} (h : PartsAt base w (.slice A n c) L R) : n = L.length ∧ Row kPart (fun k => base ≤ k) w A L ∧ L.length ≤ c ∧ c ≤ maxLen := by
  obtain ⟨A', c', hv, h1, h2, h3⟩ := h.own.row
  cases hv
  exact ⟨rfl, h3.mono fun k hk => hk.elim (fun hk => (h.low k hk).1) (fun e => (h.own.block_lt k e).1), h1, h2⟩
end Go.Proofs.Ytdchffghgajbfaa
