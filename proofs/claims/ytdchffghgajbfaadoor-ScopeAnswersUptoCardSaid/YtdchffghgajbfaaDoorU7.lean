/- scope.Within. -/
import Derived.Test.YtdchffghgajbfaaDoorU6
import Derived.Test.YtdchffghgajbfaaDoorG1
namespace Go.Proofs.YtdchffghgajbfaaDoor
open Go.RowKit

instance : DecidableEq ScV := fun a b => decidable_of_iff (a.kind = b.kind ∧ a.arg = b.arg) (by cases a; cases b; simp)
def eqSc (x y : ScV) : Bool := x.kind == y.kind && x.arg == y.arg
theorem eqSc_iff (x y : ScV) : eqSc x y = decide (x = y) := by
  obtain ⟨a1, a2⟩ := x
  obtain ⟨b1, b2⟩ := y
  rw [Bool.eq_iff_iff]
  simp [eqSc]
theorem run_eqSc (x y : ScV) (W : World) : (Op.equalIn 10000 54 (.agg #[.int .i64 x.kind, .int .i64 x.arg]) (.agg #[.int .i64 y.kind, .int .i64 y.arg])).run Tryd.prog W = .ok (eqSc x y) W := by
  refine eqf_struct Tryd.underlying54 (by kernel_rfl) ?_
  refine eqf_more (by rfl) (by go_simp; rfl) (by go_simp; rfl) (by go_simp) ?_
  exact eqf_end (by rfl) (by go_simp; rfl) (by go_simp; rfl) (by go_simp)
theorem run_eqlSc (x y : ScV) (b : Bool) (hb : eqSc x y = b) (W : World) : (binOp .eql 54 (.agg #[.int .i64 x.kind, .int .i64 x.arg]) (.agg #[.int .i64 y.kind, .int .i64 y.arg])).run Tryd.prog W = .ok (.bool b) W := by
  rw [run_eql_struct, run_eqSc, hb]; rfl
theorem run_neqSc (x y : ScV) (b : Bool) (hb : eqSc x y = b) (W : World) : (binOp .neq 54 (.agg #[.int .i64 x.kind, .int .i64 x.arg]) (.agg #[.int .i64 y.kind, .int .i64 y.arg])).run Tryd.prog W = .ok (.bool (!b)) W := by
  rw [run_neq_struct, run_eqSc, hb]; rfl
def withinS (a b : ScV) : Bool := validS a && validS b && (decide (a = b) || b.kind == 0)
/-- two scopes' boxes -/
structure TwoSc (w : World) (p q : Nat) (a b : ScV) : Prop where
  x0 : w.cell? ⟨p, 0, none⟩ = some (.int .i64 a.kind)
  x1 : w.cell? ⟨p, 1, none⟩ = some (.int .i64 a.arg)
  y0 : w.cell? ⟨q, 0, none⟩ = some (.int .i64 b.kind)
  y1 : w.cell? ⟨q, 1, none⟩ = some (.int .i64 b.arg)
theorem TwoSc.below {w w' : World} {p q : Nat} {a b : ScV} (h : TwoSc w p q a b) (hb : Below w.heap.size w w') : TwoSc w' p q a b :=
  ⟨(hb.cell (p := ⟨p, 0, none⟩) (World.block_lt_of_cell? w _ h.x0)).trans h.x0, (hb.cell (p := ⟨p, 1, none⟩) (World.block_lt_of_cell? w _ h.x1)).trans h.x1, (hb.cell (p := ⟨q, 0, none⟩) (World.block_lt_of_cell? w _ h.y0)).trans h.y0, (hb.cell (p := ⟨q, 1, none⟩) (World.block_lt_of_cell? w _ h.y1)).trans h.y1⟩
theorem twoSc (w : World) (a b : ScV) : TwoSc ((w.alloc (.cells #[.int .i64 a.kind, .int .i64 a.arg] 54)).alloc (.cells #[.int .i64 b.kind, .int .i64 b.arg] 54)) w.heap.size (w.heap.size + 1) a b := by
  have h1 := heap_alloc_new w (.cells #[.int .i64 a.kind, .int .i64 a.arg] 54)
  have h2 : Below (w.alloc (.cells #[.int .i64 a.kind, .int .i64 a.arg] 54)).heap.size (w.alloc (.cells #[.int .i64 a.kind, .int .i64 a.arg] 54)) ((w.alloc (.cells #[.int .i64 a.kind, .int .i64 a.arg] 54)).alloc (.cells #[.int .i64 b.kind, .int .i64 b.arg] 54)) := (Below.refl _ _).alloc (Nat.le_refl _) _
  have h3 := heap_alloc_new (w.alloc (.cells #[.int .i64 a.kind, .int .i64 a.arg] 54)) (.cells #[.int .i64 b.kind, .int .i64 b.arg] 54)
  have hs : (w.alloc (.cells #[.int .i64 a.kind, .int .i64 a.arg] 54)).heap.size = w.heap.size + 1 := by simp
  rw [hs] at h3
  exact ⟨(h2.cell (p := ⟨w.heap.size, 0, none⟩) (by rw [hs]; exact Nat.lt_succ_self _)).trans ((cell_of_row _ _ _ _ _ _ h1).trans rfl), (h2.cell (p := ⟨w.heap.size, 1, none⟩) (by rw [hs]; exact Nat.lt_succ_self _)).trans ((cell_of_row _ _ _ _ _ _ h1).trans rfl), (cell_of_row _ _ _ _ _ _ h3).trans rfl, (cell_of_row _ _ _ _ _ _ h3).trans rfl⟩
set_option maxRecDepth 100000 in
theorem within_any (a b : ScV) (w : World) : Calls Tryd.prog 27 #[a.val, b.val] w fun e w' => e = .returned (.bool (withinS a b)) ∧ Below w.heap.size w w' := by
  have htb := twoSc w a b
  have hbw : Below w.heap.size w ((w.alloc (.cells #[.int .i64 a.kind, .int .i64 a.arg] 54)).alloc (.cells #[.int .i64 b.kind, .int .i64 b.arg] 54)) := ((Below.refl _ _).alloc (Nat.le_refl _) _).alloc (by simp) _
  unfold ScV.val
  obtain ⟨W, hW⟩ : ∃ W, ((w.alloc (.cells #[.int .i64 a.kind, .int .i64 a.arg] 54)).alloc (.cells #[.int .i64 b.kind, .int .i64 b.arg] 54)) = W := ⟨_, rfl⟩
  rw [hW] at htb hbw
  have HBW := Lib.hid hbw
  have HTB := Lib.hid htb
  obtain ⟨x0, x1, y0, y1⟩ := htb
  have htb := True.intro
  have T1 := True.intro
  clear hbw
  cases hva : validS a
  · have HA := Lib.hid hva
    have hres := Lib.hid (show withinS a b = false by unfold withinS; rw [hva]; rfl)
    go_enter Tryd.func27, Tryd.ntmps27
    go_upto_region 1 with fail
    clear hW htb
    go_wp2_with (first
        | (go_at_call 28; have T2 := T1; clear T1; refine (valid_val a _ HA _).mono ?_; rintro e w1 ⟨rfl, hb1⟩; have HB1 := Lib.hid hb1; have HT1 := Lib.hid (HTB.out.below hb1); obtain ⟨x0, x1, y0, y1⟩ := HT1.out; clear hb1))
    go_ret
    exact ⟨by rw [hres.out]; rfl, HBW.out.trans (HB1.out.mono HBW.out.size)⟩
  · have HA := Lib.hid hva
    cases hvb : validS b
    · have HB := Lib.hid hvb
      have hres := Lib.hid (show withinS a b = false by unfold withinS; rw [hva, hvb]; rfl)
      go_enter Tryd.func27, Tryd.ntmps27
      go_upto_region 1 with fail
      clear hW htb
      go_wp2_with (first
          | (go_at_call 28; have T2 := T1; clear T1; refine (valid_val a _ HA _).mono ?_; rintro e w1 ⟨rfl, hb1⟩; have HB1 := Lib.hid hb1; have HT1 := Lib.hid (HTB.out.below hb1); obtain ⟨x0, x1, y0, y1⟩ := HT1.out; clear hb1)
          | (go_at_call 28; have T3 := T2; clear T2; refine (valid_val b _ HB _).mono ?_; rintro e w2 ⟨rfl, hb2⟩; have HB2 := Lib.hid (HB1.out.trans (hb2.mono HB1.out.size)); have HT2 := Lib.hid (HT1.out.below hb2); obtain ⟨x0, x1, y0, y1⟩ := HT2.out; clear hb2))
      go_ret
      exact ⟨by rw [hres.out]; rfl, HBW.out.trans (HB2.out.mono HBW.out.size)⟩
    · have HB := Lib.hid hvb
      cases hq : eqSc a b
      · have hrun := run_eqlSc a b false hq
        have hres := Lib.hid (show withinS a b = (b.kind == 0) by unfold withinS; rw [hva, hvb, ← eqSc_iff, hq]; rfl)
        go_enter Tryd.func27, Tryd.ntmps27
        go_upto_region 1 with fail
        clear hW htb
        go_wp2_with (first
            | (go_at_call 28; have T2 := T1; clear T1; refine (valid_val a _ HA _).mono ?_; rintro e w1 ⟨rfl, hb1⟩; have HB1 := Lib.hid hb1; have HT1 := Lib.hid (HTB.out.below hb1); obtain ⟨x0, x1, y0, y1⟩ := HT1.out; clear hb1)
            | (go_at_call 28; have T3 := T2; clear T2; refine (valid_val b _ HB _).mono ?_; rintro e w2 ⟨rfl, hb2⟩; have HB2 := Lib.hid (HB1.out.trans (hb2.mono HB1.out.size)); have HT2 := Lib.hid (HT1.out.below hb2); obtain ⟨x0, x1, y0, y1⟩ := HT2.out; clear hb2))
        go_ret
        exact ⟨by rw [hres.out]; rfl, HBW.out.trans (HB2.out.mono HBW.out.size)⟩
      · have hrun := run_eqlSc a b true hq
        have hres := Lib.hid (show withinS a b = true by unfold withinS; rw [hva, hvb, ← eqSc_iff, hq]; rfl)
        go_enter Tryd.func27, Tryd.ntmps27
        go_upto_region 1 with fail
        clear hW htb
        go_wp2_with (first
            | (go_at_call 28; have T2 := T1; clear T1; refine (valid_val a _ HA _).mono ?_; rintro e w1 ⟨rfl, hb1⟩; have HB1 := Lib.hid hb1; have HT1 := Lib.hid (HTB.out.below hb1); obtain ⟨x0, x1, y0, y1⟩ := HT1.out; clear hb1)
            | (go_at_call 28; have T3 := T2; clear T2; refine (valid_val b _ HB _).mono ?_; rintro e w2 ⟨rfl, hb2⟩; have HB2 := Lib.hid (HB1.out.trans (hb2.mono HB1.out.size)); have HT2 := Lib.hid (HT1.out.below hb2); obtain ⟨x0, x1, y0, y1⟩ := HT2.out; clear hb2))
        go_ret
        exact ⟨by rw [hres.out]; rfl, HBW.out.trans (HB2.out.mono HBW.out.size)⟩
end Go.Proofs.YtdchffghgajbfaaDoor
