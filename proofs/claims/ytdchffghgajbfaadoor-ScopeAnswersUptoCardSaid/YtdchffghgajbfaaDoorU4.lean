/- scope: kindOf, In. -/
import Derived.Test.YtdchffghgajbfaaDoorU3
import Derived.Laws.EntriesVeiled
namespace Go.Proofs.YtdchffghgajbfaaDoor
open Go.RowKit

def KindPost (t : ByteArray) (f : FuncId) (w : World) (e : Ending) (w' : World) : Prop := e = .returned (.agg #[.string t, .func (.func f) #[] #[]]) ∧ Below w.heap.size w w'
theorem kindOf0 (w : World) (ht : TextsAt w) : Calls Tryd.prog 65 #[.int .i64 0] w (KindPost (textK 0) 95 w) := by
  obtain ⟨t0, t1, t2, t3, t4, t5⟩ := ht
  have hl := World.block_lt_of_cell? w _ t0
  go_enter Tryd.func65, Tryd.ntmps65
  go_wp2
  exact bodyPost_ret (v := .agg #[.string ⟨#[97, 108, 108]⟩, .func (.func 95) #[] #[]]) (by simp [results, Tryd.results65, go_sem]) rfl ⟨rfl, (Below.refl _ _).alloc (Nat.le_refl _) _⟩
theorem kindOf1 (w : World) (ht : TextsAt w) : Calls Tryd.prog 65 #[.int .i64 1] w (KindPost (textK 1) 89 w) := by
  obtain ⟨t0, t1, t2, t3, t4, t5⟩ := ht
  have hl := World.block_lt_of_cell? w _ t0
  go_enter Tryd.func65, Tryd.ntmps65
  go_wp2
  exact bodyPost_ret (v := .agg #[.string ⟨#[98, 101, 115, 116]⟩, .func (.func 89) #[] #[]]) (by simp [results, Tryd.results65, go_sem]) rfl ⟨rfl, (Below.refl _ _).alloc (Nat.le_refl _) _⟩
theorem kindOf2 (w : World) (ht : TextsAt w) : Calls Tryd.prog 65 #[.int .i64 2] w (KindPost (textK 2) 91 w) := by
  obtain ⟨t0, t1, t2, t3, t4, t5⟩ := ht
  have hl := World.block_lt_of_cell? w _ t0
  go_enter Tryd.func65, Tryd.ntmps65
  go_wp2
  exact bodyPost_ret (v := .agg #[.string ⟨#[110, 111, 116, 98, 101, 115, 116]⟩, .func (.func 91) #[] #[]]) (by simp [results, Tryd.results65, go_sem]) rfl ⟨rfl, (Below.refl _ _).alloc (Nat.le_refl _) _⟩
theorem kindOf3 (w : World) (ht : TextsAt w) : Calls Tryd.prog 65 #[.int .i64 3] w (KindPost (textK 3) 92 w) := by
  obtain ⟨t0, t1, t2, t3, t4, t5⟩ := ht
  have hl := World.block_lt_of_cell? w _ t0
  go_enter Tryd.func65, Tryd.ntmps65
  go_wp2
  exact bodyPost_ret (v := .agg #[.string ⟨#[101, 110, 100, 115]⟩, .func (.func 92) #[] #[]]) (by simp [results, Tryd.results65, go_sem]) rfl ⟨rfl, (Below.refl _ _).alloc (Nat.le_refl _) _⟩
theorem kindOf4 (w : World) (ht : TextsAt w) : Calls Tryd.prog 65 #[.int .i64 4] w (KindPost (textK 4) 93 w) := by
  obtain ⟨t0, t1, t2, t3, t4, t5⟩ := ht
  have hl := World.block_lt_of_cell? w _ t0
  go_enter Tryd.func65, Tryd.ntmps65
  go_wp2
  exact bodyPost_ret (v := .agg #[.string ⟨#[110, 111, 116, 101, 110, 100, 115]⟩, .func (.func 93) #[] #[]]) (by simp [results, Tryd.results65, go_sem]) rfl ⟨rfl, (Below.refl _ _).alloc (Nat.le_refl _) _⟩
theorem kindOf5 (w : World) (ht : TextsAt w) : Calls Tryd.prog 65 #[.int .i64 5] w (KindPost (textK 5) 94 w) := by
  obtain ⟨t0, t1, t2, t3, t4, t5⟩ := ht
  have hl := World.block_lt_of_cell? w _ t0
  go_enter Tryd.func65, Tryd.ntmps65
  go_wp2
  exact bodyPost_ret (v := .agg #[.string ⟨#[112, 114, 105, 111, 114, 105, 116, 121, 61]⟩, .func (.func 94) #[] #[]]) (by simp [results, Tryd.results65, go_sem]) rfl ⟨rfl, (Below.refl _ _).alloc (Nat.le_refl _) _⟩
end Go.Proofs.YtdchffghgajbfaaDoor
