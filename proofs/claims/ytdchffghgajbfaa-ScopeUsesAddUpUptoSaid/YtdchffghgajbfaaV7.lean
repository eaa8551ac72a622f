/- The lists of scopes: alike; all that are valid. -/
import Derived.Test.YtdchffghgajbfaaV5
namespace Go.Proofs.Ytdchffghgajbfaa
open Go.RowKit

theorem sc_at {P : Nat → Prop} {w : World} {A : Option Addr} {xs : List ScV} (h : Row kSc P w A xs) (i : Nat) (hi : i < xs.length) : ∃ a, A = some a ∧ w.cell? (a.add (i * 2)) = some (.int .i64 xs[i].kind) ∧ w.cell? ⟨(a.add (i * 2)).block, (a.add (i * 2)).off + 1, none⟩ = some (.int .i64 xs[i].arg) := by
  obtain ⟨a, cs, hA, hP, hr, hc⟩ := h.at_ i hi
  obtain rfl : cs = xs[i].cells := hr
  exact ⟨a, hA, hc 0 _ rfl, by rw [← add_off _ _ 1 (by omega)]; exact hc 1 _ rfl⟩
theorem scAt_new (w : World) (k a : Int) : ScAt (w.alloc (.cells #[.int .i64 k, .int .i64 a] 42)) w.heap.size k a := by
  have hg := heap_alloc_new w (.cells #[.int .i64 k, .int .i64 a] 42)
  exact ⟨(cell_of_row _ _ _ _ _ _ hg).trans rfl, (cell_of_row _ _ _ _ _ _ hg).trans rfl⟩
theorem ScAt.below {w w' : World} {p : Nat} {k a : Int} (h : ScAt w p k a) (hb : Below w.heap.size w w') : ScAt w' p k a := by
  have hl := World.block_lt_of_cell? w _ h.s0
  exact ⟨(hb.cell (p := ⟨p, 0, none⟩) hl).trans h.s0, (hb.cell (p := ⟨p, 1, none⟩) hl).trans h.s1⟩
structure ScsAt (b0 : Nat) (w0 wr : World) (lv : Value) (M L : List ScV) : Prop where
  own : Own kSc 42 b0 (fun _ => True) wr lv M
  below : Below b0 w0 wr
  eq : M = L
theorem ScsAt.mono_below {b0 : Nat} {w0 wr w' : World} {lv : Value} {M L : List ScV} (h : ScsAt b0 w0 wr lv M L) (hb : Below wr.heap.size wr w') (h0 : b0 ≤ wr.heap.size) : ScsAt b0 w0 w' lv M L := ⟨h.own.below hb, h.below.trans (hb.mono h0), h.eq⟩
theorem ScsAt.app {b0 : Nat} {w0 wr wx w' : World} {lv lv' : Value} {M L zs : List ScV} {x : ScV} (h : ScsAt b0 w0 wr lv M L) (hx : Below wr.heap.size wr wx) (h0 : b0 ≤ wr.heap.size) (hz : zs = M ++ [x]) (ha : Appended kSc 42 b0 (fun _ => True) wx w' lv lv' zs) : ScsAt b0 w0 w' lv' zs (L ++ [x]) :=
  ⟨ha.own, ha.below (h.below.trans (hx.mono h0)) (Nat.le_trans h0 hx.size) (fun q hq => (h.own.block_lt q hq).1), by rw [hz, h.eq]⟩
def ScopesPost (w : World) (e : Ending) (w' : World) : Prop := ∃ A c, e = .returned (.slice A 15 c) ∧ Own kSc 42 w.heap.size (fun _ => True) w' (.slice A 15 c) allS ∧ Below w.heap.size w w'
end Go.Proofs.Ytdchffghgajbfaa
