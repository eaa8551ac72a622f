/- The texts out of the row's list; the witness's world of the scope laws. -/
import Derived.Test.YtdchffghgajbfaaDoorR5
namespace Go.Proofs.YtdchffghgajbfaaDoor
open Go.ChangeShapes Go.WideShapes Go.ChangeAt Go.RowKit Go.Deep

theorem array6 {α : Type} {cs : Array α} (h : cs.toList.length = 6) : ∃ c0 c1 c2 c3 c4 c5, cs = #[c0, c1, c2, c3, c4, c5] := by
  obtain ⟨l⟩ := cs
  match l, h with
  | [c0, c1, c2, c3, c4, c5], _ => exact ⟨c0, c1, c2, c3, c4, c5, rfl⟩
theorem list6 {α : Type} {l : List α} (h : l.length = 6) : ∃ c0 c1 c2 c3 c4 c5, l = [c0, c1, c2, c3, c4, c5] := by
  match l, h with
  | [c0, c1, c2, c3, c4, c5], _ => exact ⟨c0, c1, c2, c3, c4, c5, rfl⟩
set_option maxRecDepth 100000 in
theorem texts_of_laid {W : World} (h : laidMet Tryd.prog [("bursar/scope.texts", Rows.laid_bursar_scope_texts)] W) : TextsAt W := by
  obtain ⟨ps, ⟨g, t, cs, fuel, p, q, hg, ht, hvar, hd, _, _⟩, _⟩ := h
  have hg0 : Tryd.prog.globalNamed "bursar/scope.texts" = some 1 := by kernel_rfl
  have ht0 : (Tryd.prog.globals[1]?).map (·.type) = some 107 := by kernel_rfl
  obtain rfl := Option.some.inj (hg0.symm.trans hg)
  obtain rfl := Option.some.inj (ht0.symm.trans ht)
  obtain ⟨xs, n, _, hx, hl, hxl, hf⟩ := DataW.trod_array Tryd.underlying107 hd
  have c1 : Tryd.prog.cellsOf 9 = 1 := by kernel_rfl
  have c6 : Tryd.prog.cellsOf 107 = 6 := by kernel_rfl
  rw [c6] at hl
  obtain ⟨v0, v1, v2, v3, v4, v5, rfl⟩ := array6 hl
  obtain ⟨a0, a1, a2, a3, a4, a5, rfl⟩ := list6 hxl
  rw [c1] at hf
  have g0 : DataW.trod _ Tryd.prog W _ _ _ n 9 [v0] = some a0 := hf 0 (by omega)
  have g1 : DataW.trod _ Tryd.prog W _ _ _ n 9 [v1] = some a1 := hf 1 (by omega)
  have g2 : DataW.trod _ Tryd.prog W _ _ _ n 9 [v2] = some a2 := hf 2 (by omega)
  have g3 : DataW.trod _ Tryd.prog W _ _ _ n 9 [v3] = some a3 := hf 3 (by omega)
  have g4 : DataW.trod _ Tryd.prog W _ _ _ n 9 [v4] = some a4 := hf 4 (by omega)
  have g5 : DataW.trod _ Tryd.prog W _ _ _ n 9 [v5] = some a5 := hf 5 (by omega)
  obtain ⟨s0, e0, z0, _⟩ := DataW.trod_string Tryd.underlying9 g0
  obtain ⟨s1, e1, z1, _⟩ := DataW.trod_string Tryd.underlying9 g1
  obtain ⟨s2, e2, z2, _⟩ := DataW.trod_string Tryd.underlying9 g2
  obtain ⟨s3, e3, z3, _⟩ := DataW.trod_string Tryd.underlying9 g3
  obtain ⟨s4, e4, z4, _⟩ := DataW.trod_string Tryd.underlying9 g4
  obtain ⟨s5, e5, z5, _⟩ := DataW.trod_string Tryd.underlying9 g5
  cases e0; cases e1; cases e2; cases e3; cases e4; cases e5
  subst z0; subst z1; subst z2; subst z3; subst z4; subst z5
  have hx' : (Rows.laid_bursar_scope_texts : DataW Unit) = _ := congrArg Prod.fst hx
  unfold Rows.laid_bursar_scope_texts at hx'
  simp only [List.map_cons, List.map_nil, DataW.agg.injEq, List.cons.injEq, DataW.lit.injEq, Lit.string.injEq, and_true] at hx'
  obtain ⟨h0, h1, h2, h3, h4, h5⟩ := hx'
  have q0 : s0 = ⟨#[97, 108, 108]⟩ := bytes_inj h0.symm
  have q1 : s1 = ⟨#[98, 101, 115, 116]⟩ := bytes_inj h1.symm
  have q2 : s2 = ⟨#[110, 111, 116, 98, 101, 115, 116]⟩ := bytes_inj h2.symm
  have q3 : s3 = ⟨#[101, 110, 100, 115]⟩ := bytes_inj h3.symm
  have q4 : s4 = ⟨#[110, 111, 116, 101, 110, 100, 115]⟩ := bytes_inj h4.symm
  have q5 : s5 = ⟨#[112, 114, 105, 111, 114, 105, 116, 121, 61]⟩ := bytes_inj h5.symm
  subst q0; subst q1; subst q2; subst q3; subst q4; subst q5
  have hcell := fun i => World.var?_cell hg0 hvar i
  exact ⟨hcell 0, hcell 1, hcell 2, hcell 3, hcell 4, hcell 5⟩

/-- the settled world, the texts holding what their initialiser lays -/
noncomputable def textsWorld (os : Os) : World :=
  let w0 := World.holding Tryd.prog os ⟨#[], #[], []⟩
  { w0 with heap := w0.heap.modify 1 fun
    | .cells _ t frozen => .cells #[.string ⟨#[97, 108, 108]⟩, .string ⟨#[98, 101, 115, 116]⟩, .string ⟨#[110, 111, 116, 98, 101, 115, 116]⟩, .string ⟨#[101, 110, 100, 115]⟩, .string ⟨#[110, 111, 116, 101, 110, 100, 115]⟩, .string ⟨#[112, 114, 105, 111, 114, 105, 116, 121, 61]⟩] t frozen
    | o => o }
theorem texts_met (os : Os) (args : Array Value) : laidMet Tryd.prog [("bursar/scope.texts", Rows.laid_bursar_scope_texts)] ((textsWorld os).forCall (fun _ _ => 0) ⟨#[], args, []⟩).memory :=
  laidMet_of_run' 8 (by kernel_rfl) (by kernel_rfl)
/-- of what is read no part is too heavy -/
theorem small_arg {H : Type} {ts : List TypeId} {ds : List (DataW H)} (h : (DataW.weightsEach Tryd.prog ts ds).all (· ≤ reachBytes) = true) (i : Nat) (hi : i < ts.length) (hi' : i < ds.length) : Small Tryd.prog ts[i] ds[i] :=
  small_each (fun n hn => by have := List.all_eq_true.1 h n hn; simpa using this) i hi hi'
end Go.Proofs.YtdchffghgajbfaaDoor
