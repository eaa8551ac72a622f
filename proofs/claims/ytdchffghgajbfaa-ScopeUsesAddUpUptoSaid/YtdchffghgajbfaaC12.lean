/- Proved here: the statement of the law ScopeUsesAddUp: (its second form) it returns true and its arguments read afterwards as before. Condition: that of the given row (what is read is of bulk at most 1048576), and none beyond. -/
import Derived.Test.YtdchffghgajbfaaR7
import Derived.Test.YtdchffghgajbfaaW12
namespace Go.Proofs.Ytdchffghgajbfaa.CScopeUsesAddUp
open Go.ChangeShapes Go.WideShapes Go.ChangeAt Go.RowKit Go.Deep

theorem fewParts {H : Type} {w : World} {v : Value} {x : DataW H} {o : ObjV} {A : Option Addr} {c : Nat} {ls : List LabV} {B : Option Addr} {m : Nat} {D2 D5 : DataW H} (h : ObjRead w v x o A c ls B m D2 D5) (hk : Rows.uptoBulk x ≤ 1048576) : o.parts.length ≤ 1048576 := by
  have h5 : Rows.uptoBulk D5 ≤ 1048576 := by
    rw [h.dat] at hk
    simp only [Rows.uptoBulk, Rows.uptoBulkAll] at hk
    omega
  exact Nat.le_trans (len_le_sum (wt := wtP) (fun p => by unfold wtP; omega) _) (Nat.le_trans (h.rp.bulk wtP rPart_bulk) h5)
set_option maxRecDepth 100000 in
theorem contract (H : Type) (enc : TypeId × Value → H) (W : World) (base : Nat) (args : Array Value) (ds gs : List (DataW H)) (before : List MemPlace)
    (hval : ∀ (j : Nat) t v, Try.f3.params[j]? = some t → args[j]? = some v → Value.okWide Try.prog W .any base t v)
    (hW : DataW.Whole enc Try.prog Try.f3.params.toList Rows.scopeUsesAddUpSpec.vars false W args.toList ds gs before) (_hL : laidMetH Try.prog Rows.scopeUsesAddUpUptoRow.laid W) (_hsh : W.ShapedOpen Try.prog) (hwt : (DataW.weightsEach Try.prog (Try.f3.params.toList ++ (OpenSpec.ofChange Rows.scopeUsesAddUpSpec).bare.plain.varTypes Try.prog) (ds ++ gs)).all (· ≤ reachBytes) = true) (hk : Rows.uptoBulkAll (ds ++ gs) ≤ 1048576) :
    Calls Try.prog 3 args W fun e W' => ∃ v, e = .returned v ∧ Rows.scopeUsesAddUpSpec.post enc Try.prog Try.f3 false true false false W args v W' := by
  have hW' := hW
  obtain ⟨p, q, hA0, hV, rfl, hfz, hnd⟩ := hW
  have hA : DataW.TrodAll enc Try.prog W 0 (fun _ => true) true Try.f3.params.toList args.toList ds p := hA0
  rw [Try.params3] at hA hval
  obtain ⟨v0, vs0, d0, ds0, p0, q0, hargs, rfl, rfl, h0, hA⟩ := trodAll_cons hA
  obtain ⟨v1, vs1, d1, ds1, p1, q1, rfl, rfl, rfl, h1, hA⟩ := trodAll_cons hA
  obtain ⟨rfl, rfl, rfl⟩ := trodAll_nil hA
  obtain rfl : args = #[v0, v1] := Array.ext' hargs
  obtain ⟨o0, A0, c0, ls0, B0, m0, D20, D50, hob0⟩ := open_object (hval 0 25 v0 rfl rfl) h0
  have hfit0 := hob0.fit (show Small Try.prog 25 d0 from small_arg hwt 0 (of_decide_eq_true (by kernel_rfl)) (by simp))
  obtain rfl := hob0.val
  obtain ⟨o1, A1, c1, ls1, B1, m1, D21, D51, hob1⟩ := open_object (hval 1 25 v1 rfl rfl) h1
  have hfit1 := hob1.fit (show Small Try.prog 25 d1 from small_arg hwt 1 (of_decide_eq_true (by kernel_rfl)) (by simp))
  obtain rfl := hob1.val
  simp only [List.cons_append, Rows.uptoBulkAll] at hk
  refine (sua_walk o0 o1 A0 A1 c0 c1 ls0 ls1 W hfit0 hfit1 (hob0.few (by omega)).1 (hob1.few (by omega)).1 (hob0.few (by omega)).2 (hob1.few (by omega)).2 (fewParts hob0 (by omega)) (fewParts hob1 (by omega))).mono fun e W' ⟨he, hb⟩ => ?_
  subst he
  exact ⟨_, rfl, post_law hW' rfl rfl rfl (by kernel_rfl) hb⟩

theorem reads (os : Os) {H : Type} (enc : TypeId × Value → H) : ∃ places, DataW.whole enc Try.prog ((World.holding Try.prog os ⟨#[], #[], []⟩).forCall (fun _ _ => 0) ⟨#[], #[.agg #[.string ⟨#[]⟩, .string ⟨#[]⟩, .slice none 0 0, .int .i64 0, .int .i64 0, .slice none 0 0, .int .i64 0], .agg #[.string ⟨#[]⟩, .string ⟨#[]⟩, .slice none 0 0, .int .i64 0, .int .i64 0, .slice none 0 0, .int .i64 0]], []⟩).memory Try.f3.params.toList Rows.scopeUsesAddUpSpec.vars false (#[.agg #[.string ⟨#[]⟩, .string ⟨#[]⟩, .slice none 0 0, .int .i64 0, .int .i64 0, .slice none 0 0, .int .i64 0], .agg #[.string ⟨#[]⟩, .string ⟨#[]⟩, .slice none 0 0, .int .i64 0, .int .i64 0, .slice none 0 0, .int .i64 0]] : Array Value).toList 8 =
    some ([.agg [.lit (.string []), .lit (.string []), .nil, .lit (.int .i64 0), .lit (.int .i64 0), .nil, .lit (.int .i64 0)], .agg [.lit (.string []), .lit (.string []), .nil, .lit (.int .i64 0), .lit (.int .i64 0), .nil, .lit (.int .i64 0)]], [], places) :=
  ⟨[], by kernel_rfl⟩

set_option maxRecDepth 100000 in
theorem lifted (os : Os) (started : os.Started) (H : Type) (enc : TypeId × Value → H) (F : Stop.Interp) :
    ReturnsInHanded {} Try.checked os 3 .any ((Rows.OpenSpec.upto Rows.scopeUsesAddUpSpec).preRow enc Try.prog Try.f3 Rows.scopeUsesAddUpUptoRow.domain false Rows.scopeUsesAddUpUptoRow.laid) (((Rows.OpenSpec.upto Rows.scopeUsesAddUpSpec).at F).post enc Try.prog Try.f3 false true false false) := by
  obtain ⟨places, hx⟩ := reads os enc
  refine returnsInHanded_of_row (C := Try.checked) (s := Rows.OpenSpec.upto Rows.scopeUsesAddUpSpec) own_knob started (by kernel_rfl) Try.func3
    (witness_row_at (enc := enc) (C := Try.checked) false (World.holding Try.prog os ⟨#[], #[], []⟩) _ rfl (by kernel_rfl) (by kernel_rfl) (by kernel_rfl)
      (OpenSpec.preRow_of_cond 8 hx (by kernel_rfl) (fun k hk => by cases hk; kernel_rfl) (by kernel_rfl) (laidMet_of_run' 8 (by kernel_rfl) (by kernel_rfl)))) ?_
  intro W base args ds gs before hval hW _ hcond hwt hL hsh _
  exact contract H enc W base args ds gs before hval hW hL hsh hwt (bulk_bound (hcond _ rfl))

theorem said : Rows.ScopeUsesAddUpUptoSaid :=
  OpenClaim.holds_of_cond 3 Try.f3 rfl rfl rfl rfl rfl rfl rfl ⟨rfl, rfl, rfl, rfl, rfl⟩ rfl rfl rfl rfl rfl (by kernel_rfl) Try.func3 (by kernel_rfl)
    (of_decide_eq_true (by kernel_rfl)) (by unfold Func.isWrapper; first | (rw [if_pos (by decide +kernel)]; kernel_rfl) | (rw [if_neg (by decide +kernel)]; exact ⟨rfl, rfl⟩))
    (fun os started H enc _ F => by rw [OpenClaim.pre_eq_preRow]; exact lifted os started H enc F)

theorem proved : Rows.ScopeUsesAddUpUptoSaid := said
end Go.Proofs.Ytdchffghgajbfaa.CScopeUsesAddUp
