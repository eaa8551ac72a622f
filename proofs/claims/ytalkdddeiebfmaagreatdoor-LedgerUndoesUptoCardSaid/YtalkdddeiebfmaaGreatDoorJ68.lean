/- LedgerUndoes: two books of one history (printed by mkundo.py). -/
import Derived.Test.YtalkdddeiebfmaaGreatDoorJ65
import Derived.Test.YtalkdddeiebfmaaGreatDoorJ67
namespace Go.Proofs.YtalkdddeiebfmaaGreatDoor
open Go.RowKit

/-- what a script makes of a book -/
def runV (l : List OpM) : (Pl → Int) × (ByteArray → Int) × List ObjM := l.foldl (fun st x => (stepV st.1 st.2.1 st.2.2 x).2) (Z0, C0, [])
theorem runV_snoc (l : List OpM) (x : OpM) : runV (l ++ [x]) = (stepV (runV l).1 (runV l).2.1 (runV l).2.2 x).2 := by
  unfold runV
  rw [List.foldl_append]
  rfl
/-- two books in memory -/
structure Pair (wb w : World) (N bb g b1 b2 cb h c1 c2 m m' : Nat) (A : Option Addr) (n c : Nat) (R : Nat → Prop) (A' : Option Addr) (n' c' : Nat) (R' : Nat → Prop) (st st' : (Pl → Int) × (ByteArray → Int) × List ObjM) : Prop where
  bk : IsBook w N bb g b1 b2 m A n c R st.1 st.2.1 st.2.2
  ck : IsBook w N cb h c1 c2 m' A' n' c' R' st'.1 st'.2.1 st'.2.2
  ap : ∀ k, (R k ∨ (Value.slice A n c).ownBlock = some k) → ¬ (R' k ∨ (Value.slice A' n' c').ownBlock = some k)
  below : Below wb.heap.size wb w
  lo : wb.heap.size ≤ N
  low : N ≤ w.heap.size
section
variable {wb w w' : World} {N bb g b1 b2 cb h c1 c2 m m' n c n' c' M : Nat} {A A' : Option Addr} {R R' P : Nat → Prop} {st st' : (Pl → Int) × (ByteArray → Int) × List ObjM} {x : OpM} {d : OpAd}
theorem Pair.swap (k : Pair wb w N bb g b1 b2 cb h c1 c2 m m' A n c R A' n' c' R' st st') : Pair wb w N cb h c1 c2 bb g b1 b2 m' m A' n' c' R' A n c R st' st := ⟨k.ck, k.bk, fun i h1 h2 => k.ap i h2 h1, k.below, k.lo, k.low⟩
theorem Pair.then_ (k : Pair wb w N bb g b1 b2 cb h c1 c2 m m' A n c R A' n' c' R' st st') (hb : Below w.heap.size w w') : Pair wb w' N bb g b1 b2 cb h c1 c2 m m' A n c R A' n' c' R' st st' := ⟨k.bk.below hb, k.ck.below hb, k.ap, k.below.trans (hb.mono k.below.size), k.lo, Nat.le_trans k.low hb.size⟩
theorem Pair.stepIn (k : Pair wb w N bb g b1 b2 cb h c1 c2 m m' A n c R A' n' c' R' st st') (s : UndB wb bb g b1 b2 cb h c1 c2) (hr : OpRows P wb x d) (hP : ∀ k, P k → k < wb.heap.size) (hf : OpFit x) (hm : m ≤ 2400000000000) : StepIn w x d P N bb g b1 b2 m A n c R st.1 st.2.1 st.2.2 :=
  have hr := hr.below k.below
  have h1 := k.lo
  ⟨s.ml.below k.below, s.tx.below k.below, hr.l1, hr.p1, hf.o, k.bk, fun i hi => ⟨by have := hP i hi; omega, fun e => by have := hP i hi; have := s.lo i (.inl (.inl e)); omega, fun e => by have := hP i hi; have := s.lo i (.inl (.inr e)); omega⟩, k.low,
    ⟨by have := s.sg; omega, fun e => by have := s.sg; have := s.lo _ (.inl (.inl e)); omega, fun e => by have := s.sg; have := s.lo _ (.inl (.inr e)); omega⟩,
    ⟨by have := s.st; omega, fun e => by have := s.st; have := s.lo _ (.inl (.inl e)); omega, fun e => by have := s.st; have := s.lo _ (.inl (.inr e)); omega⟩, hm⟩
theorem Pair.on (k : Pair wb w N bb g b1 b2 cb h c1 c2 m m' A n c R A' n' c' R' st st') (s : UndB wb bb g b1 b2 cb h c1 c2) {e : Ending} (hp : StepPost N bb g b1 b2 m A n c R (stepV st.1 st.2.1 st.2.2 x) w e w') :
    e = .returned (.bool (stepV st.1 st.2.1 st.2.2 x).1) ∧ ∃ A2 n2 c3 R2, Pair wb w' N bb g b1 b2 cb h c1 c2 (m + 60000000000) m' A2 n2 c3 R2 A' n' c' R' (stepV st.1 st.2.1 st.2.2 x).2 st' := by
  obtain ⟨he, ⟨A2, n2, c3, R2, hb, ho, hR⟩, ht⟩ := hp
  have h1 := k.lo
  refine ⟨he, A2, n2, c3, R2, hb, k.ck.turn ht (fun e => ?_) (fun i hi e => ?_) (fun i hi e => ?_), fun i h2 h3 => ?_, k.below.trans (ht.below k.below.size fun i hi => ?_), k.lo, Nat.le_trans k.low ht.size⟩
  · rcases e with e | e | e
    · exact s.bc e.symm
    · exact (s.ab _ e).2.1 rfl
    · have := (k.bk.list.own.block_lt _ e).1; have := k.ck.blo; omega
  · rcases e with e | e | e
    · exact s.bh i hi e
    · exact (s.ab i e).2.2 hi
    · have := (k.bk.list.own.block_lt _ e).1; have := (k.ck.llo i hi).1; omega
  · have h2 : N ≤ i := e.elim (fun e => (k.ck.list.low i e).1) (fun e => (k.ck.list.own.block_lt i e).1)
    rcases hi with hi | hi | hi
    · have := k.bk.blo; omega
    · have := (k.bk.llo i (.inr hi)).1; omega
    · exact k.ap i (.inr hi) e
  · have h4 : i < w.heap.size := h3.elim (fun e => (k.ck.list.low i e).2.1) (fun e => (k.ck.list.own.block_lt i e).2)
    have h5 : (R i ∨ (Value.slice A n c).ownBlock = some i) ∨ w.heap.size ≤ i := by
      rcases h2 with h2 | h2
      · rcases hR i h2 with e | e | e
        · exact .inl (.inl e)
        · exact .inl (.inr e)
        · exact .inr e
      · rcases ho i h2 with e | e
        · exact .inl (.inr e)
        · exact .inr e
    rcases h5 with h5 | h5
    · exact k.ap i h5 h3
    · omega
  · rcases hi with hi | hi | hi
    · exact s.lo i (.inl (.inl hi))
    · exact s.lo i (.inl (.inr (.inr hi)))
    · have := (k.bk.list.own.block_lt _ hi).1; omega
theorem Pair.und (k : Pair wb w N bb g b1 b2 cb h c1 c2 m m' A n c R A' n' c' R' st st) (hM : m ≤ M) (hM' : m' ≤ M) : Und wb w bb g b1 b2 cb h c1 c2 M st.1 st.2.1 st.1 st.2.1 none [] none [] :=
  ⟨k.bk.cells.1, k.ck.cells.1, k.bk.led.mono hM, k.ck.led.mono hM', Row.nil _ _ _ _, Row.nil _ _ _ _, k.below⟩
end
end Go.Proofs.YtalkdddeiebfmaaGreatDoor
