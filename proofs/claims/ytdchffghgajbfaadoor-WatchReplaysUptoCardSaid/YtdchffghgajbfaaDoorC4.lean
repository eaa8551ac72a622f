/- Proved here: the tied card of the law WatchReplays: (its second form) it returns true and its arguments read afterwards as before. Condition: that of the given row (what is read is of bulk at most 1048576), and none beyond. -/
import Derived.Test.YtdchffghgajbfaaDoorR4
import Derived.Test.YtdchffghgajbfaaDoorW4
namespace Go.Proofs.YtdchffghgajbfaaDoor.CWatchReplays
open Go.ChangeShapes Go.WideShapes Go.ChangeAt Go.RowKit Go.Deep

set_option maxRecDepth 100000 in
theorem contract (H : Type) (enc : TypeId × Value → H) (W : World) (base : Nat) (args : Array Value) (ds gs : List (DataW H)) (before : List MemPlace)
    (hval : ∀ (j : Nat) t v, Tryd.f11.params[j]? = some t → args[j]? = some v → Value.okWide Tryd.prog W .any base t v)
    (hW : DataW.Whole enc Tryd.prog Tryd.f11.params.toList Rows.watchReplaysSpec.vars false W args.toList ds gs before) (hL : laidMetH Tryd.prog Rows.watchReplaysUptoRow.laid W) (hsh : W.ShapedOpen Tryd.prog) (hk : Rows.uptoBulkAll (ds ++ gs) ≤ 1048576) :
    Calls Tryd.prog 11 args W fun e W' => ∃ v, e = .returned v ∧ Rows.watchReplaysSpec.post enc Tryd.prog Tryd.f11 false true false false W args v W' := by
  have hW' := hW
  have henv : Env W := env_of_laid hsh hL
  obtain ⟨p, q, hA0, hV, rfl, hfz, hnd⟩ := hW
  have hA : DataW.TrodAll enc Tryd.prog W 0 (fun _ => true) true Tryd.f11.params.toList args.toList ds p := hA0
  rw [Tryd.params11] at hA hval
  obtain ⟨v0, vs0, d0, ds0, p0, q0, hargs, rfl, rfl, h0, hA⟩ := trodAll_cons hA
  obtain ⟨v1, vs1, d1, ds1, p1, q1, rfl, rfl, rfl, h1, hA⟩ := trodAll_cons hA
  obtain ⟨v2, vs2, d2, ds2, p2, q2, rfl, rfl, rfl, h2, hA⟩ := trodAll_cons hA
  obtain ⟨v3, vs3, d3, ds3, p3, q3, rfl, rfl, rfl, h3, hA⟩ := trodAll_cons hA
  obtain ⟨rfl, rfl, rfl⟩ := trodAll_nil hA
  obtain rfl : args = #[v0, v1, v2, v3] := Array.ext' hargs
  obtain ⟨n0, rfl, _, _, w0⟩ := open_int Tryd.underlying3 (hval 0 3 v0 rfl rfl) h0
  have hn0 := i64_of_wf w0
  obtain ⟨s1, rfl, _, _, z1⟩ := Go.ChangeMaps.open_string Tryd.underlying9 (hval 1 9 v1 rfl rfl) h1
  obtain ⟨xs2, A2, c2, rfl, hl2, hr2, ww2⟩ := open_knW Tryd.underlying84 dec_strsW (hval 2 84 v2 rfl rfl) h2
  obtain ⟨xs3, A3, c3, rfl, hl3, hr3, ww3⟩ := open_knW Tryd.underlying29 dec_eventsW (hval 3 29 v3 rfl rfl) h3
  simp only [List.cons_append, Rows.uptoBulkAll] at hk
  refine (watchReplays_arg n0 s1 A2 A3 c2 c3 _ _ xs2 xs3 W henv hr2 hr3 (by omega) (by omega)).mono fun e W' ⟨he, hb⟩ => ?_
  subst he
  exact ⟨_, rfl, post_law hW' rfl rfl rfl (by kernel_rfl) hb⟩

theorem reads (os : Os) {H : Type} (enc : TypeId × Value → H) : ∃ places, DataW.whole enc Tryd.prog ((laidWorld os).forCall (fun _ _ => 0) ⟨#[], #[.int .i64 0, .string ⟨#[]⟩, .slice none 0 0, .slice none 0 0], []⟩).memory Tryd.f11.params.toList Rows.watchReplaysSpec.vars false (#[.int .i64 0, .string ⟨#[]⟩, .slice none 0 0, .slice none 0 0] : Array Value).toList 8 =
    some ([.lit (.int .i64 0), .lit (.string []), .nil, .nil], [], places) :=
  ⟨[], by kernel_rfl⟩

set_option maxRecDepth 100000 in
theorem lifted (os : Os) (started : os.Started) (H : Type) (enc : TypeId × Value → H) (F : Stop.Interp) :
    ReturnsInHanded {} Tryd.checked os 11 .any ((Rows.OpenSpec.upto Rows.watchReplaysSpec).preRow enc Tryd.prog Tryd.f11 Rows.watchReplaysUptoRow.domain false Rows.watchReplaysUptoRow.laid) (((Rows.OpenSpec.upto Rows.watchReplaysSpec).at F).post enc Tryd.prog Tryd.f11 false true false false) := by
  obtain ⟨places, hx⟩ := reads os enc
  refine returnsInHanded_of_row (C := Tryd.checked) (s := Rows.OpenSpec.upto Rows.watchReplaysSpec) own_knob started (by kernel_rfl) Tryd.func11
    (witness_row_at (enc := enc) (C := Tryd.checked) false (laidWorld os) _ rfl (by kernel_rfl) (by kernel_rfl) (by kernel_rfl)
      (OpenSpec.preRow_of_cond 8 hx (by kernel_rfl) (fun k hk => by cases hk; kernel_rfl) (by kernel_rfl) (laid_met os _))) ?_
  intro W base args ds gs before hval hW _ hcond _ hL hsh _
  exact contract H enc W base args ds gs before hval hW hL hsh (bulk_bound (hcond _ rfl))

theorem said : Rows.WatchReplaysUptoSaid :=
  OpenClaim.holds_of_cond 11 Tryd.f11 rfl rfl rfl rfl rfl rfl rfl ⟨rfl, rfl, rfl, rfl, rfl⟩ rfl rfl rfl rfl rfl (by kernel_rfl) Tryd.func11 (by kernel_rfl)
    (of_decide_eq_true (by kernel_rfl)) (by unfold Func.isWrapper; first | (rw [if_pos (by decide +kernel)]; kernel_rfl) | (rw [if_neg (by decide +kernel)]; exact ⟨rfl, rfl⟩))
    (fun os started H enc _ F => by rw [OpenClaim.pre_eq_preRow]; exact lifted os started H enc F)

theorem plain (f : FuncId) (fn : Func) (hf : Tryd.pinned.checked.prog.funcNamed "bursar/bursarlaw22.WatchReplays" = some f) (hfn : Tryd.pinned.checked.prog.funcs[f]? = some fn) :
    false = Tryd.pinned.checked.prog.looks [] ∧ ∀ (j : Nat) t, fn.params[j]? = some t → Tryd.pinned.checked.prog.wantsStandIn t = false := by
  obtain rfl : f = 11 := Option.some.inj ((show Tryd.prog.funcNamed "bursar/bursarlaw22.WatchReplays" = some 11 by kernel_rfl).symm.trans hf) |>.symm
  obtain rfl : fn = Tryd.f11 := (Option.some.inj (Tryd.func11.symm.trans hfn)).symm
  refine ⟨by kernel_rfl, fun j t ht => ?_⟩
  rw [Tryd.params11] at ht
  exact stands_all (l := [3, 9, 84, 29]) (by kernel_rfl) t (Array.mem_of_getElem? ht)

theorem card : Rows.WatchReplaysUptoCardSaid :=
  Claim7.holds_tied_plain_at .later [] _ _ _ _ said (fun _ h => by cases h) (by kernel_rfl) (fun _ h => by cases h) watchReplaysUpto_row_tie rfl ⟨rfl, rfl⟩ (by kernel_rfl) rfl plain (by kernel_rfl)
end Go.Proofs.YtdchffghgajbfaaDoor.CWatchReplays
