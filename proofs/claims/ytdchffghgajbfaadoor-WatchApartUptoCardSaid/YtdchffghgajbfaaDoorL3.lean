/- pushed: what it holds on to. -/
import Derived.Test.YtdchffghgajbfaaDoorL2
import Derived.Test.YtdchffghgajbfaaDoorH4
namespace Go.Proofs.YtdchffghgajbfaaDoor
open Go.RowKit

/-- a Pushed at block pb: its hub (of a history), its list -/
structure PInv (w : World) (pb gh : Nat) (first : Int) (wr : World) (ps : List (List Ev)) (d : Nat) (F : Nat → Prop) (vL : Value) (all : List Ev) : Prop where
  blk : wr.heap[pb]? = some (.cells #[.pointer (some ⟨gh, 0, none⟩), .int .i64 first, vL] 38 (0, 0))
  hub : IsHub F wr gh (hubOf first ps d)
  lo : ∀ b, F b → w.heap.size ≤ b ∧ b < wr.heap.size ∧ b ≠ pb ∧ vL.ownBlock ≠ some b
  own : Own kEvent 41 w.heap.size (fun _ => True) wr vL all
  pbl : w.heap.size ≤ pb
  bel : Below w.heap.size w wr
structure PdAt (w : World) (pb gh : Nat) (first : Int) (vL : Value) : Prop where
  c0 : w.cell? ⟨pb, 0, none⟩ = some (.pointer (some ⟨gh, 0, none⟩))
  c1 : w.cell? ⟨pb, 1, none⟩ = some (.int .i64 first)
  c2 : w.cell? ⟨pb, 2, none⟩ = some vL
  fz : ∀ j, w.frozen? ⟨pb, j, none⟩ = false
theorem pdAt {w : World} {pb gh : Nat} {first : Int} {vL : Value} (hg : w.heap[pb]? = some (.cells #[.pointer (some ⟨gh, 0, none⟩), .int .i64 first, vL] 38 (0, 0))) : PdAt w pb gh first vL :=
  ⟨(cell_of_row _ _ _ _ _ _ hg).trans rfl, (cell_of_row _ _ _ _ _ _ hg).trans rfl, (cell_of_row _ _ _ _ _ _ hg).trans rfl, fun j => by simp [World.frozen?, hg]⟩
theorem own_ev_ne {base : Nat} {P : Nat → Prop} {w : World} {v : Value} {xs : List Ev} (h : Own kEvent 41 base P w v xs) {b : Nat} {o : Obj} (hb : w.heap[b]? = some o) (ho : ∀ cur, o ≠ .cells cur 41 (0, 0)) : v.ownBlock ≠ some b := by
  intro e
  obtain ⟨cs, ⟨_, h1⟩, _⟩ := h
  rcases h1 with ⟨rfl, _⟩ | ⟨g, cap, cur, rfl, _, hc, _⟩
  · cases e
  · have : g = b := Option.some.inj e
    subst this
    exact ho cur (Option.some.inj (hb.symm.trans hc))
section
variable {w wr w' : World} {pb gh : Nat} {first : Int} {ps ps' : List (List Ev)} {d d' : Nat} {F : Nat → Prop} {vL v' : Value} {all l : List Ev}
theorem PInv.lt (h : PInv w pb gh first wr ps d F vL all) : pb < wr.heap.size := (Array.getElem?_eq_some_iff.1 h.blk).1
theorem PInv.below (h : PInv w pb gh first wr ps d F vL all) (hb : Below wr.heap.size wr w') : PInv w pb gh first w' ps d F vL all :=
  ⟨(hb.block pb h.lt).trans h.blk, h.hub.below hb, fun b hF => ⟨(h.lo b hF).1, Nat.lt_of_lt_of_le (h.lo b hF).2.1 hb.size, (h.lo b hF).2.2⟩, h.own.below hb, h.pbl, h.bel.trans (hb.mono h.bel.size)⟩
theorem PInv.push {n m : Int} (h : PInv w pb gh first wr ps d F vL all) (hp : PushPost F gh (hubOf first ps' d', n) wr (.returned (.int .i64 m)) w') :
    PInv w pb gh first w' ps' d' (fun b => ((F b ∧ b < wr.heap.size) ∨ wr.heap.size ≤ b) ∧ b < w'.heap.size) vL all := by
  obtain ⟨_, hk, ht⟩ := hp
  have hpb := h.lt
  have hob : ∀ k, vL.ownBlock = some k → k < wr.heap.size := fun k hk => (h.own.block_lt k hk).2
  refine ⟨(ht.block pb hpb fun hF => (h.lo pb hF).2.2.1 rfl).trans h.blk, hk.bound, ?_, ?_, h.pbl, ?_⟩
  · rintro b ⟨hb | hb, hlt⟩
    · have := h.lo b hb.1; exact ⟨this.1, hlt, this.2.2⟩
    · exact ⟨Nat.le_trans h.bel.size hb, hlt, by omega, fun e => by have := hob b e; omega⟩
  · refine Own.plain kEvent_plain ((Own.plain (Q := fun _ => False) kEvent_plain h.own).move fun k hk hlt => ?_)
    rcases hk with hk | hk
    · exact ht.block k hlt fun hF => (h.lo k hF).2.2.2 hk
    · exact hk.elim
  · exact h.bel.trans (ht.below h.bel.size fun k hF => (h.lo k hF).1)
theorem PInv.app_blk (h : PInv w pb gh first wr ps d F vL all) (ha : Appended kEvent 41 w.heap.size (fun _ => True) wr w' vL v' (all ++ l)) :
    w'.heap[pb]? = some (.cells #[.pointer (some ⟨gh, 0, none⟩), .int .i64 first, vL] 38 (0, 0)) :=
  (ha.grown.block pb h.lt fun e => own_ev_ne h.own h.blk (by intro cur e; injection e with e1 e2; revert e2; decide) e.symm).trans h.blk
theorem PInv.app (h : PInv w pb gh first wr ps d F vL all) (ha : Appended kEvent 41 w.heap.size (fun _ => True) wr w' vL v' (all ++ l)) :
    PInv w pb gh first (w'.setCell ⟨pb, 2, none⟩ v') ps d F v' (all ++ l) := by
  have hpb := h.lt
  have hblk : w'.heap[pb]? = some (.cells #[.pointer (some ⟨gh, 0, none⟩), .int .i64 first, vL] 38 (0, 0)) :=
    (ha.grown.block pb hpb fun e => own_ev_ne h.own h.blk (by intro cur e; injection e with e1 e2; revert e2; decide) e.symm).trans h.blk
  have hsz := ha.grown.size
  have hpb' : pb < w'.heap.size := by omega
  have hne : v'.ownBlock ≠ some pb := own_ev_ne ha.own hblk (by intro cur e; injection e with e1 e2; revert e2; decide)
  refine ⟨by simp [World.setCell, Array.getElem?_modify, hblk], ?_, ?_, ?_, h.pbl, ?_⟩
  · refine h.hub.move fun b hF hlt => ?_
    have := h.lo b hF
    rw [Below.heap_setCell _ _ _ _ this.2.2.1]
    exact ha.grown.block b hlt fun e => this.2.2.2 e.symm
  · intro b hF
    have := h.lo b hF
    refine ⟨this.1, by simp [World.setCell]; omega, this.2.2.1, fun e => ?_⟩
    rcases ha.at_ with h1 | h1
    · rw [h1] at e; exact this.2.2.2 e
    · rw [h1] at e; have : wr.heap.size = b := Option.some.inj e
      omega
  · refine Own.plain kEvent_plain ((Own.plain (Q := fun _ => False) kEvent_plain ha.own).move fun k hk hlt => ?_)
    rcases hk with hk | hk
    · exact Below.heap_setCell _ _ _ _ fun e => hne (by rw [hk, e])
    · exact hk.elim
  · exact (ha.below h.bel h.bel.size fun k hk => (h.own.block_lt k hk).1).setCell h.pbl _
end
/-- what pushed answers: it is too far, or it has its hub, of a history -/
structure PdOk (w : World) (pb gh : Nat) (first : Int) (wr : World) (ps : List (List Ev)) (d : Nat) (F : Nat → Prop) (vL : Value) : Prop where
  inv : PInv w pb gh first wr ps d F vL ps.flatten
  hist : HistOk first ps d
  few : ps.length ≤ 400
  small : ∀ l ∈ ps, l.length ≤ 128
  far : first ≤ 576460752303423488
  right : ∀ l ∈ ps, ∀ e ∈ l, rightE e = true
def PushedPost (v : Int) (w : World) (e : Ending) (w' : World) : Prop :=
  (e = .returned (.tuple #[.pointer none, .bool true]) ∧ Below w.heap.size w w') ∨
  ∃ pb gh ps d F vL, e = .returned (.tuple #[.pointer (some ⟨pb, 0, none⟩), .bool true]) ∧ PdOk w pb gh (max v 0) w' ps d F vL
end Go.Proofs.YtdchffghgajbfaaDoor
