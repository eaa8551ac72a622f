/- Proved here: the tied card of the law LedgerUndoes: (its second form) it returns true and its arguments read afterwards as before. Condition: that of the given row (what is read is of bulk at most 1048576), and none beyond. -/
import Derived.Test.YtalkdddeiebfmaaGreatDoorJF
import Derived.Test.YtalkdddeiebfmaaGreatDoorJ69
import Derived.Test.YtalkdddeiebfmaaGreatDoorJ76
namespace Go.Proofs.YtalkdddeiebfmaaGreatDoor.CLedgerUndoes
open Go.ChangeShapes Go.WideShapes Go.ChangeAt Go.RowKit Go.Deep

set_option maxRecDepth 100000 in
theorem contract (H : Type) (enc : TypeId × Value → H) (W : World) (base : Nat) (args : Array Value) (ds gs : List (DataW H)) (before : List MemPlace)
    (hval : ∀ (j : Nat) t v, Tryz.f7.params[j]? = some t → args[j]? = some v → Value.okWide Tryz.prog W .any base t v)
    (hW : DataW.Whole enc Tryz.prog Tryz.f7.params.toList Rows.ledgerUndoesSpec.vars false W args.toList ds gs before) (hL : laidMetH Tryz.prog Rows.ledgerUndoesUptoRow.laid W) (hsh : W.ShapedOpen Tryz.prog) (hwt : (DataW.weightsEach Tryz.prog (Tryz.f7.params.toList ++ (OpenSpec.ofChange Rows.ledgerUndoesSpec).bare.plain.varTypes Tryz.prog) (ds ++ gs)).all (· ≤ reachBytes) = true) (hk : Rows.uptoBulkAll (ds ++ gs) ≤ 1048576) :
    Calls Tryz.prog 7 args W fun e W' => ∃ v, e = .returned v ∧ Rows.ledgerUndoesSpec.post enc Tryz.prog Tryz.f7 false true false false W args v W' := by
  have hW' := hW
  have hml : Ml W := ml_of_shape hsh
  have htx : TextsAt W := texts_of_laid3 hL
  obtain ⟨p, q, hA0, hV, rfl, hfz, hnd⟩ := hW
  have hA : DataW.TrodAll enc Tryz.prog W 0 (fun _ => true) true Tryz.f7.params.toList args.toList ds p := hA0
  rw [Tryz.params7] at hA hval
  obtain ⟨v0, vs0, d0, ds0, p0, q0, hargs, rfl, rfl, h0, hA⟩ := trodAll_cons hA
  obtain ⟨v1, vs1, d1, ds1, p1, q1, rfl, rfl, rfl, h1, hA⟩ := trodAll_cons hA
  obtain ⟨v2, vs2, d2, ds2, p2, q2, rfl, rfl, rfl, h2, hA⟩ := trodAll_cons hA
  obtain ⟨rfl, rfl, rfl⟩ := trodAll_nil hA
  obtain rfl : args = #[v0, v1, v2] := Array.ext' hargs
  obtain ⟨xs0, A0, c0, rfl, hl0, hr0, hq0⟩ := open_kr Tryz.underlying55 dec_ops17 (hval 0 55 v0 rfl rfl) h0
  have hsm0 := (show Small Tryz.prog 55 d0 from small_arg hwt 0 (of_decide_eq_true (by kernel_rfl)) (by simp))
  obtain ⟨o1, L1, m1, B1, k1, rfl, hl1, hp1, hq1⟩ := open_objM (hval 1 26 v1 rfl rfl) h1
  have hsm1 := (show Small Tryz.prog 26 d1 from small_arg hwt 1 (of_decide_eq_true (by kernel_rfl)) (by simp))
  obtain ⟨o2, L2, m2, B2, k2, rfl, hl2, hp2, hq2⟩ := open_objM (hval 2 26 v2 rfl rfl) h2
  have hsm2 := (show Small Tryz.prog 26 d2 from small_arg hwt 2 (of_decide_eq_true (by kernel_rfl)) (by simp))
  simp only [List.cons_append, Rows.uptoBulkAll] at hk
  refine (ledgerUndoes_any xs0 _ rfl A0 c0 _ o1 o2 L1 m1 B1 k1 L2 m2 B2 k2 W hml htx hr0 (rOps_all hq0 hsm0 (by omega)) (objfit_row (rObj_fit hq1 hsm1 (by omega)) hl1 hp1) (objfit_row (rObj_fit hq2 hsm2 (by omega)) hl2 hp2) (rObj_fit hq1 hsm1 (by omega)) (rObj_fit hq2 hsm2 (by omega)) (rOps_more hq0 (by omega)).1).mono fun e W' ⟨he, hb⟩ => ?_
  subst he
  exact ⟨_, rfl, post_law hW' rfl rfl rfl (by kernel_rfl) hb⟩

theorem reads (os : Os) {H : Type} (enc : TypeId × Value → H) : ∃ places, DataW.whole enc Tryz.prog ((laidWorld os).forCall (fun _ _ => 0) ⟨#[], #[.slice none 0 0, .agg #[.string ⟨#[]⟩, .string ⟨#[]⟩, .slice none 0 0, .int .i64 0, .int .i64 0, .slice none 0 0, .int .i64 0], .agg #[.string ⟨#[]⟩, .string ⟨#[]⟩, .slice none 0 0, .int .i64 0, .int .i64 0, .slice none 0 0, .int .i64 0]], []⟩).memory Tryz.f7.params.toList Rows.ledgerUndoesSpec.vars false (#[.slice none 0 0, .agg #[.string ⟨#[]⟩, .string ⟨#[]⟩, .slice none 0 0, .int .i64 0, .int .i64 0, .slice none 0 0, .int .i64 0], .agg #[.string ⟨#[]⟩, .string ⟨#[]⟩, .slice none 0 0, .int .i64 0, .int .i64 0, .slice none 0 0, .int .i64 0]] : Array Value).toList 8 =
    some ([.nil, .agg [.lit (.string []), .lit (.string []), .nil, .lit (.int .i64 0), .lit (.int .i64 0), .nil, .lit (.int .i64 0)], .agg [.lit (.string []), .lit (.string []), .nil, .lit (.int .i64 0), .lit (.int .i64 0), .nil, .lit (.int .i64 0)]], [], places) :=
  ⟨[], by kernel_rfl⟩

set_option maxRecDepth 100000 in
theorem lifted (os : Os) (started : os.Started) (H : Type) (enc : TypeId × Value → H) (F : Stop.Interp) :
    ReturnsInHanded {} Tryz.checked os 7 .any ((Rows.OpenSpec.upto Rows.ledgerUndoesSpec).preRow enc Tryz.prog Tryz.f7 Rows.ledgerUndoesUptoRow.domain false Rows.ledgerUndoesUptoRow.laid) (((Rows.OpenSpec.upto Rows.ledgerUndoesSpec).at F).post enc Tryz.prog Tryz.f7 false true false false) := by
  obtain ⟨places, hx⟩ := reads os enc
  refine returnsInHanded_of_row (C := Tryz.checked) (s := Rows.OpenSpec.upto Rows.ledgerUndoesSpec) own_knob started (by kernel_rfl) Tryz.func7
    (witness_row_at (enc := enc) (C := Tryz.checked) false (laidWorld os) _ rfl (by kernel_rfl) (by kernel_rfl) (by kernel_rfl)
      (OpenSpec.preRow_of_cond 8 hx (by kernel_rfl) (fun k hk => by cases hk; kernel_rfl) (by kernel_rfl) (laid_met os _))) ?_
  intro W base args ds gs before hval hW _ hcond hwt hL hsh _
  exact contract H enc W base args ds gs before hval hW hL hsh hwt (bulk_bound (hcond _ rfl))

theorem said : Rows.LedgerUndoesUptoSaid :=
  OpenClaim.holds_of_cond 7 Tryz.f7 rfl rfl rfl rfl rfl rfl rfl ⟨rfl, rfl, rfl, rfl, rfl⟩ rfl rfl rfl rfl rfl (by kernel_rfl) Tryz.func7 (by kernel_rfl)
    (of_decide_eq_true (by kernel_rfl)) (by unfold Func.isWrapper; first | (rw [if_pos (by decide +kernel)]; kernel_rfl) | (rw [if_neg (by decide +kernel)]; exact ⟨rfl, rfl⟩))
    (fun os started H enc _ F => by rw [OpenClaim.pre_eq_preRow]; exact lifted os started H enc F)

theorem plain (f : FuncId) (fn : Func) (hf : Tryz.pinned.checked.prog.funcNamed "bursar/bursarlaw17.LedgerUndoes" = some f) (hfn : Tryz.pinned.checked.prog.funcs[f]? = some fn) :
    false = Tryz.pinned.checked.prog.looks [] ∧ ∀ (j : Nat) t, fn.params[j]? = some t → Tryz.pinned.checked.prog.wantsStandIn t = false := by
  obtain rfl : f = 7 := Option.some.inj ((show Tryz.prog.funcNamed "bursar/bursarlaw17.LedgerUndoes" = some 7 by kernel_rfl).symm.trans hf) |>.symm
  obtain rfl : fn = Tryz.f7 := (Option.some.inj (Tryz.func7.symm.trans hfn)).symm
  refine ⟨by kernel_rfl, fun j t ht => ?_⟩
  rw [Tryz.params7] at ht
  exact stands_all (l := [55, 26, 26]) (by kernel_rfl) t (Array.mem_of_getElem? ht)

theorem card : Rows.LedgerUndoesUptoCardSaid :=
  Claim7.holds_tied_plain_at .later [] _ _ _ _ said (fun _ h => by cases h) (by kernel_rfl) (fun _ h => by cases h) ledgerUndoesUpto_row_tie rfl ⟨rfl, rfl⟩ (by kernel_rfl) rfl plain (by kernel_rfl)
end Go.Proofs.YtalkdddeiebfmaaGreatDoor.CLedgerUndoes
