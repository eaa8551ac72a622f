/- One book behind a script (printed by mksums.py). -/
import Derived.Test.YtalkdddeiebfmaaGreatDoorJ68
import Derived.Test.YtalkdddeiebfmaaGreatDoorJ73
namespace Go.Proofs.YtalkdddeiebfmaaGreatDoor
open Go.RowKit

structure SoloB (wb : World) (bb g b1 b2 : Nat) : Prop where
  lo : ∀ i, (i = bb ∨ ledB g b1 b2 i) → wb.heap.size ≤ i
  ml : Ml wb
  tx : TextsAt wb
  sg : 1 < wb.heap.size
  st : 0 < wb.heap.size
/-- a book in memory behind some steps -/
structure Solo (wb w : World) (N bb g b1 b2 m : Nat) (A : Option Addr) (n c : Nat) (R : Nat → Prop) (st : (Pl → Int) × (ByteArray → Int) × List ObjM) : Prop where
  b : IsBook w N bb g b1 b2 m A n c R st.1 st.2.1 st.2.2
  inv : BookInv st.1 st.2.1 st.2.2
  below : Below wb.heap.size wb w
  lo : wb.heap.size ≤ N
  low : N ≤ w.heap.size
section
variable {wb w w' : World} {N bb g b1 b2 m n c : Nat} {A : Option Addr} {R P : Nat → Prop} {st : (Pl → Int) × (ByteArray → Int) × List ObjM} {x : OpM} {d : OpAd}
theorem Solo.then_ (k : Solo wb w N bb g b1 b2 m A n c R st) (hb : Below w.heap.size w w') : Solo wb w' N bb g b1 b2 m A n c R st := ⟨k.b.below hb, k.inv, k.below.trans (hb.mono k.below.size), k.lo, Nat.le_trans k.low hb.size⟩
theorem Solo.stepIn (k : Solo wb w N bb g b1 b2 m A n c R st) (s : SoloB wb bb g b1 b2) (hr : OpRows P wb x d) (hP : ∀ k, P k → k < wb.heap.size) (hf : OpFit x) (hm : m ≤ 2400000000000) : StepIn w x d P N bb g b1 b2 m A n c R st.1 st.2.1 st.2.2 :=
  have hr := hr.below k.below
  have h1 := k.lo
  ⟨s.ml.below k.below, s.tx.below k.below, hr.l1, hr.p1, hf.o, k.b, fun i hi => ⟨by have := hP i hi; omega, fun e => by have := hP i hi; have := s.lo i (.inl e); omega, fun e => by have := hP i hi; have := s.lo i (.inr e); omega⟩, k.low,
    ⟨by have := s.sg; omega, fun e => by have := s.sg; have := s.lo _ (.inl e); omega, fun e => by have := s.sg; have := s.lo _ (.inr e); omega⟩,
    ⟨by have := s.st; omega, fun e => by have := s.st; have := s.lo _ (.inl e); omega, fun e => by have := s.st; have := s.lo _ (.inr e); omega⟩, hm⟩
theorem Solo.on (k : Solo wb w N bb g b1 b2 m A n c R st) (s : SoloB wb bb g b1 b2) (hf : ObjMFit x.o) {e : Ending} (hp : StepPost N bb g b1 b2 m A n c R (stepV st.1 st.2.1 st.2.2 x) w e w') :
    e = .returned (.bool true) ∧ ∃ A2 n2 c3 R2, Solo wb w' N bb g b1 b2 (m + 60000000000) A2 n2 c3 R2 (stepV st.1 st.2.1 st.2.2 x).2 := by
  obtain ⟨he, ⟨A2, n2, c3, R2, hb, ho, hR⟩, ht⟩ := hp
  have hi := k.inv.step hf
  rw [hi.1] at he
  refine ⟨he, A2, n2, c3, R2, hb, hi.2, k.below.trans (ht.below k.below.size fun i hi => ?_), k.lo, Nat.le_trans k.low ht.size⟩
  rcases hi with hi | hi | hi
  · exact s.lo i (.inl hi)
  · exact s.lo i (.inr (.inr hi))
  · have := (k.b.list.own.block_lt _ hi).1; have := k.lo; omega
end
end Go.Proofs.YtalkdddeiebfmaaGreatDoor
