/- scope.Within. -/
import Derived.Test.YtdchffghgajbfaaU6
import Derived.Test.YtdchffghgajbfaaG1
namespace Go.Proofs.Ytdchffghgajbfaa
open Go.RowKit

instance : DecidableEq ScV := fun a b => decidable_of_iff (a.kind = b.kind ∧ a.arg = b.arg) (by cases a; cases b; simp)
def eqSc (x y : ScV) : Bool := x.kind == y.kind && x.arg == y.arg
theorem eqSc_iff (x y : ScV) : eqSc x y = decide (x = y) := by
  obtain ⟨a1, a2⟩ := x
  obtain ⟨b1, b2⟩ := y
  rw [Bool.eq_iff_iff]
  simp [eqSc]
theorem run_eqSc (x y : ScV) (W : World) : (Op.equalIn 10000 42 (.agg #[.int .i64 x.kind, .int .i64 x.arg]) (.agg #[.int .i64 y.kind, .int .i64 y.arg])).run Try.prog W = .ok (eqSc x y) W := by
  refine eqf_struct Try.underlying42 (by kernel_rfl) ?_
  refine eqf_more (by rfl) (by go_simp; rfl) (by go_simp; rfl) (by go_simp) ?_
  exact eqf_end (by rfl) (by go_simp; rfl) (by go_simp; rfl) (by go_simp)
theorem run_eqlSc (x y : ScV) (b : Bool) (hb : eqSc x y = b) (W : World) : (binOp .eql 42 (.agg #[.int .i64 x.kind, .int .i64 x.arg]) (.agg #[.int .i64 y.kind, .int .i64 y.arg])).run Try.prog W = .ok (.bool b) W := by
  rw [run_eql_struct, run_eqSc, hb]; rfl
theorem run_neqSc (x y : ScV) (b : Bool) (hb : eqSc x y = b) (W : World) : (binOp .neq 42 (.agg #[.int .i64 x.kind, .int .i64 x.arg]) (.agg #[.int .i64 y.kind, .int .i64 y.arg])).run Try.prog W = .ok (.bool (!b)) W := by
  rw [run_neq_struct, run_eqSc, hb]; rfl
def withinS (a b : ScV) : Bool := validS a && validS b && (decide (a = b) || b.kind == 0)
/-- two scopes' boxes -/
structure TwoSc (w : World) (p q : Nat) (a b : ScV) : Prop where
  x0 : w.cell? ⟨p, 0, none⟩ = some (.int .i64 a.kind)
  x1 : w.cell? ⟨p, 1, none⟩ = some (.int .i64 a.arg)
  y0 : w.cell? ⟨q, 0, none⟩ = some (.int .i64 b.kind)
  y1 : w.cell? ⟨q, 1, none⟩ = some (.int .i64 b.arg)
theorem TwoSc.below {w w' : World} {p q : Nat} {a b : ScV} (h : TwoSc w p q a b) (hb : Below w.heap.size w w') : TwoSc w' p q a b :=
  ⟨(hb.cell (p := ⟨p, 0, none⟩) (World.block_lt_of_cell? w _ h.x0)).trans h.x0, (hb.cell (p := ⟨p, 1, none⟩) (World.block_lt_of_cell? w _ h.x1)).trans h.x1, (hb.cell (p := ⟨q, 0, none⟩) (World.block_lt_of_cell? w _ h.y0)).trans h.y0, (hb.cell (p := ⟨q, 1, none⟩) (World.block_lt_of_cell? w _ h.y1)).trans h.y1⟩
theorem twoSc (w : World) (a b : ScV) : TwoSc ((w.alloc (.cells #[.int .i64 a.kind, .int .i64 a.arg] 42)).alloc (.cells #[.int .i64 b.kind, .int .i64 b.arg] 42)) w.heap.size (w.heap.size + 1) a b := by
  have h1 := heap_alloc_new w (.cells #[.int .i64 a.kind, .int .i64 a.arg] 42)
  have h2 : Below (w.alloc (.cells #[.int .i64 a.kind, .int .i64 a.arg] 42)).heap.size (w.alloc (.cells #[.int .i64 a.kind, .int .i64 a.arg] 42)) ((w.alloc (.cells #[.int .i64 a.kind, .int .i64 a.arg] 42)).alloc (.cells #[.int .i64 b.kind, .int .i64 b.arg] 42)) := (Below.refl _ _).alloc (Nat.le_refl _) _
  have h3 := heap_alloc_new (w.alloc (.cells #[.int .i64 a.kind, .int .i64 a.arg] 42)) (.cells #[.int .i64 b.kind, .int .i64 b.arg] 42)
  have hs : (w.alloc (.cells #[.int .i64 a.kind, .int .i64 a.arg] 42)).heap.size = w.heap.size + 1 := by simp
  rw [hs] at h3
  exact ⟨(h2.cell (p := ⟨w.heap.size, 0, none⟩) (by rw [hs]; exact Nat.lt_succ_self _)).trans ((cell_of_row _ _ _ _ _ _ h1).trans rfl), (h2.cell (p := ⟨w.heap.size, 1, none⟩) (by rw [hs]; exact Nat.lt_succ_self _)).trans ((cell_of_row _ _ _ _ _ _ h1).trans rfl), (cell_of_row _ _ _ _ _ _ h3).trans rfl, (cell_of_row _ _ _ _ _ _ h3).trans rfl⟩
end Go.Proofs.Ytdchffghgajbfaa
