/- Lists of objects of the call's own. -/
import Derived.Test.YtalkdddeiebfmaaGreatDoorJ28
namespace Go.Proofs.YtalkdddeiebfmaaGreatDoor
open Go.RowKit

/-- a list of the call's own: what its elements look into lies in blocks that are not the list's own -/
structure ListAt {α : Type} (d : Kn α) (e base : Nat) (w : World) (lv : Value) (L : List α) (R : Nat → Prop) : Prop where
  own : Own d e base R w lv L
  low : ∀ k, R k → base ≤ k ∧ k < w.heap.size ∧ lv.ownBlock ≠ some k
section
variable {α : Type} {d : Kn α} {e base : Nat} {w w' : World} {lv lv' : Value} {L L' : List α} {R S : Nat → Prop}
theorem ListAt.nil (d : Kn α) (e base : Nat) (w : World) : ListAt d e base w (.slice none 0 0) [] (fun _ => False) := ⟨Own.nil _ _ _ _ _, fun _ h => h.elim⟩
theorem ListAt.move (h : ListAt d e base w lv L R) (hs : w.heap.size ≤ w'.heap.size) (hm : ∀ k, R k ∨ lv.ownBlock = some k → k < w.heap.size → w'.heap[k]? = w.heap[k]?) : ListAt d e base w' lv L R :=
  ⟨h.own.move fun k hk hl => hk.elim (fun hk => hm k (.inr hk) hl) (fun hk => hm k (.inl hk) hl), fun k hk => ⟨(h.low k hk).1, Nat.lt_of_lt_of_le (h.low k hk).2.1 hs, (h.low k hk).2.2⟩⟩
theorem ListAt.below (h : ListAt d e base w lv L R) (hb : Below w.heap.size w w') : ListAt d e base w' lv L R := h.move hb.size fun k _ hk => hb.block k hk
theorem ListAt.turn {T : Nat → Prop} (h : ListAt d e base w lv L R) (ht : Turn T w w') (hT : ∀ k, T k → ¬ (R k ∨ lv.ownBlock = some k)) : ListAt d e base w' lv L R := h.move ht.size fun k hk hl => ht.block k hl fun hh => hT k hh hk
theorem ListAt.app (h : ListAt d e base w lv L R) (hS : ∀ k, S k → base ≤ k ∧ k < w.heap.size ∧ lv.ownBlock ≠ some k) (ha : Appended d e base (fun k => R k ∨ S k) w w' lv lv' L') : ListAt d e base w' lv' L' (fun k => R k ∨ S k) := by
  have hall : ∀ k, (R k ∨ S k) → base ≤ k ∧ k < w.heap.size ∧ lv.ownBlock ≠ some k := fun k hk => hk.elim (h.low k) (hS k)
  refine ⟨ha.own, fun k hk => ?_⟩
  obtain ⟨h1, h2, h3⟩ := hall k hk
  refine ⟨h1, Nat.lt_of_lt_of_le h2 ha.grown.size, ?_⟩
  rcases ha.at_ with e | e
  · rw [e]; exact h3
  · rw [e]; intro e2
    have := Option.some.inj e2
    omega
theorem ListAt.row {A : Option Addr} {n c : Nat} (h : ListAt d e base w (.slice A n c) L R) : n = L.length ∧ Row d (fun k => base ≤ k) w A L ∧ L.length ≤ c ∧ c ≤ maxLen := by
  obtain ⟨A', c', hv, h1, h2, h3⟩ := h.own.row
  cases hv
  exact ⟨rfl, h3.mono fun k hk => hk.elim (fun hk => (h.low k hk).1) (fun e => (h.own.block_lt k e).1), h1, h2⟩
end
/-- an object of the call's own -/
theorem own_objM (o : ObjM) (L0 : Option Addr) (m0 : Nat) (B0 : Option Addr) (c0 : Nat) (w : World) (h : ObjFit w (o.at_ L0 m0) B0 o.ls) :
    Calls Tryz.prog 10 #[.agg #[.string o.path, .string o.name, .slice L0 o.ls.length m0, .int .i64 o.prio, .int .i64 o.dl, .slice B0 o.parts.length c0, .int .i64 o.ver]] w fun e w' =>
      ∃ (L : Option Addr) (m : Nat) (B : Option Addr) (c : Nat), e = .returned (.agg #[.string o.path, .string o.name, .slice L o.ls.length m, .int .i64 o.prio, .int .i64 o.dl, .slice B o.parts.length c, .int .i64 o.ver]) ∧
        kObj.R (fun k => w.heap.size ≤ k ∧ k < w'.heap.size) w' o [.string o.path, .string o.name, .slice L o.ls.length m, .int .i64 o.prio, .int .i64 o.dl, .slice B o.parts.length c, .int .i64 o.ver] ∧ Below w.heap.size w w' := by
  refine (own_any (o.at_ L0 m0) B0 c0 o.ls w h).mono fun e w' hp => ?_
  obtain ⟨L, m, B, c, R, rfl, hparts, hlr, hb⟩ := hp
  obtain ⟨-, hr, h1, h2⟩ := hparts.row
  refine ⟨L, m, B, c, rfl, ?_, hb⟩
  exact ⟨[_], _, rfl, rfl, [_], _, rfl, rfl, [_], _, rfl, ⟨L, m, rfl, hlr.lt⟩, [_], _, rfl, rfl, [_], _, rfl, rfl, [_], _, rfl, ⟨_, rfl, B, c, rfl, h1, h2, hr.lt⟩, rfl⟩
end Go.Proofs.YtalkdddeiebfmaaGreatDoor
