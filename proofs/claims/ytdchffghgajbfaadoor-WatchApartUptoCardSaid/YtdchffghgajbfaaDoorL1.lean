/- Layer 22's law: same, one, behind, right. -/
import Derived.Test.YtdchffghgajbfaaDoorH1
import Derived.Test.YtdchffghgajbfaaDoorS1
import Derived.Test.YtdchffghgajbfaaDoorQ
import Derived.Test.YtdchffghgajbfaaDoorG1
namespace Go.Proofs.YtdchffghgajbfaaDoor
open Go.RowKit

instance : DecidableEq Ev := fun a b => decidable_of_iff (a.ver = b.ver ∧ a.kind = b.kind ∧ a.gone = b.gone ∧ a.path = b.path ∧ a.name = b.name) (by cases a; cases b; simp)

def markE : Ev := ⟨77, 0, false, ⟨#[]⟩, ⟨#[109, 97, 114, 107]⟩⟩
/-- what the law's walks want of the package-level variables -/
structure Env (w : World) : Prop where
  ml : Ml w
  mark : EvAt w ⟨0, 0, none⟩ markE
theorem EvAt.below {w w' : World} {a : Addr} {x : Ev} (h : EvAt w a x) (hb : Below w.heap.size w w') : EvAt w' a x := by
  have hl := World.block_lt_of_cell? w _ h.c0
  exact ⟨(hb.cell hl).trans h.c0, (hb.cell (p := ⟨a.block, a.off + 1, none⟩) hl).trans h.c1, (hb.cell (p := ⟨a.block, a.off + 2, none⟩) hl).trans h.c2, (hb.cell (p := ⟨a.block, a.off + 3, none⟩) hl).trans h.c3, (hb.cell (p := ⟨a.block, a.off + 4, none⟩) hl).trans h.c4⟩
theorem Env.below {w w' : World} (h : Env w) (hb : Below w.heap.size w w') : Env w' := ⟨h.ml.below hb, h.mark.below hb⟩
theorem Env.low {w : World} (h : Env w) : 2 < w.heap.size ∧ 0 < w.heap.size := ⟨h.ml.low, World.block_lt_of_cell? w _ h.mark.c0⟩
theorem Env.belowB {w w' : World} {B : Nat} (h : Env w) (hb : Below B w w') (h1 : 2 < B) (h2 : 0 < B) : Env w' :=
  ⟨h.ml.belowB hb h1, ⟨(hb.cell (p := ⟨0, 0, none⟩) h2).trans h.mark.c0, (hb.cell (p := ⟨0, 1, none⟩) h2).trans h.mark.c1, (hb.cell (p := ⟨0, 2, none⟩) h2).trans h.mark.c2, (hb.cell (p := ⟨0, 3, none⟩) h2).trans h.mark.c3, (hb.cell (p := ⟨0, 4, none⟩) h2).trans h.mark.c4⟩⟩

theorem one_any (v : Int) (gone : Bool) (path name : ByteArray) (w : World) : Calls Tryd.prog 52 #[.int .i64 v, .bool gone, .string path, .string name] w fun e w' =>
    e = .returned (.agg #[.int .i64 v, .int .i64 3, .bool gone, .string path, .string name]) ∧ Below w.heap.size w w' := by
  go_enter Tryd.func52, Tryd.ntmps52
  go_wp2
  exact bodyPost_ret (v := .agg #[.int .i64 v, .int .i64 3, .bool gone, .string path, .string name]) (by simp [results, Tryd.results52, go_sem]) rfl ⟨rfl, (Below.refl _ _).alloc (Nat.le_refl _) _⟩

theorem flat_ev (P : Nat → Prop) (w : World) (xs : List Ev) : Flat kEvent P w xs (xs.flatMap Ev.cells) := by
  induction xs with
  | nil => exact Flat.nil _ _ _
  | cons x xs ih => exact Flat.append (Flat.single (cs := x.cells) rfl) ih

theorem behind_any (A : Option Addr) (c : Nat) (P : Nat → Prop) (xs : List Ev) (w : World) (he : Env w) (hr : Row kEvent P w A xs) (hb : (xs.length + 1) * 56 ≤ 140737488355328) :
    Calls Tryd.prog 46 #[.slice A xs.length c] w (CloneEv w (xs ++ [markE])) := by
  have hm := he.low.2
  go_enter Tryd.func46, Tryd.ntmps46
  go_wp2_with (first
    | (at_builtin; refine wpList_app_plain evElem kEvent_plain w.heap.size rfl (.tmp 4) (.tmp 5) rfl (v := .slice none 0 0) (R := fun _ => True) rfl (Own.nil kEvent 41 w.heap.size _ w) rfl rfl hr (by simp; omega) (by omega) ?_; intro A1 c1 w1 happ
       have hb1 := happ.below (Below.refl w.heap.size w) (Nat.le_refl _) (fun k hk => (ownBlock_none hk).elim)
       obtain ⟨c0, c1', c2, c3, c4⟩ := (he.below hb1).mark
       have HA1 := Lib.hid (show Own kEvent 41 w.heap.size (fun _ => True) w1 (.slice A1 xs.length c1) xs by simpa using happ.own)
       have HB1 := Lib.hid hb1
       clear happ hb1)
    | (at_builtin; refine wpList_app_plain evElem kEvent_plain w.heap.size rfl (.tmp 7) (.tmp 9) rfl (v := .slice A1 xs.length c1) (xs := xs) (ys := [markE]) rfl (HA1.out.alloc _) rfl rfl (Row.newOnePlain (cs := markE.cells) kEvent_plain rfl) (by simpa using hb) (by have := HB1.out.size; simp; omega) ?_; intro A2 c2' w2 happ2
       have HA2 := Lib.hid happ2; clear happ2))
  go_ret
  exact CloneEv.mk_ (v := .slice A2 (xs.length + 1) c2') HA2.out.own (HA2.out.below (HB1.out.alloc HB1.out.size _) (by have := HB1.out.size; simp; omega) (fun k hk => (HA1.out.block_lt k hk).1))

def evEqB (x y : Ev) : Bool := x.ver == y.ver && (x.kind == y.kind && (x.gone == y.gone && (x.path.toList == y.path.toList && x.name.toList == y.name.toList)))
theorem evEqB_iff (x y : Ev) : evEqB x y = decide (x = y) := by
  obtain ⟨a1, a2, a3, a4, a5⟩ := x
  obtain ⟨b1, b2, b3, b4, b5⟩ := y
  rw [Bool.eq_iff_iff]
  simp only [evEqB, Bool.and_eq_true, beq_iff_eq, decide_eq_true_eq, Ev.mk.injEq, toList_eq]
  constructor
  · rintro ⟨h1, h2, h3, h4, h5⟩; exact ⟨h1, h2, h3, bytes_inj h4, bytes_inj h5⟩
  · rintro ⟨h1, h2, h3, h4, h5⟩; exact ⟨h1, h2, h3, by rw [h4], by rw [h5]⟩
theorem run_eqEv (x y : Ev) (W : World) : (Op.equalIn 10000 41 (.agg #[.int .i64 x.ver, .int .i64 x.kind, .bool x.gone, .string x.path, .string x.name]) (.agg #[.int .i64 y.ver, .int .i64 y.kind, .bool y.gone, .string y.path, .string y.name])).run Tryd.prog W = .ok (evEqB x y) W := by
  refine eqf_struct Tryd.underlying41 (by kernel_rfl) ?_
  refine eqf_more (by rfl) (by go_simp; rfl) (by go_simp; rfl) (by go_simp) ?_
  refine eqf_more (by rfl) (by go_simp; rfl) (by go_simp; rfl) (by go_simp) ?_
  refine eqf_more (by rfl) (by go_simp; rfl) (by go_simp; rfl) (by go_simp) ?_
  refine eqf_more (by rfl) (by go_simp; rfl) (by go_simp; rfl) (by go_simp) ?_
  exact eqf_end (by rfl) (by go_simp; rfl) (by go_simp; rfl) (by go_simp)
theorem run_neqEv (x y : Ev) (b : Bool) (hb : evEqB x y = b) (W : World) : (binOp .neq 41 (.agg #[.int .i64 x.ver, .int .i64 x.kind, .bool x.gone, .string x.path, .string x.name]) (.agg #[.int .i64 y.ver, .int .i64 y.kind, .bool y.gone, .string y.path, .string y.name])).run Tryd.prog W = .ok (.bool (!b)) W := by
  rw [run_neq_struct, run_eqEv, hb]; rfl

set_option maxRecDepth 100000 in
theorem same_any (A B : Option Addr) (c d : Nat) (P Q : Nat → Prop) (xs ys : List Ev) (w : World) (hx : Row kEvent P w A xs) (hy : Row kEvent Q w B ys) (hlx : xs.length ≤ 9223372036854775807) :
    Calls Tryd.prog 23 #[.slice A xs.length c, .slice B ys.length d] w fun e w' => e = .returned (.bool (decide (xs = ys))) ∧ Below w.heap.size w w' := by
  by_cases hl : xs.length = ys.length
  · have hl1 : ((xs.length : Int) != ys.length) = false := by simp [hl]
    have HL := Lib.hid hl
    clear hl
    go_enter Tryd.func23, Tryd.ntmps23
    go_wp2
    go_loopw [5] (fun i wr => ∃ k : Nat, i = .int .i64 k ∧ k ≤ xs.length ∧ Below w.heap.size w wr ∧ Hid (xs.take k = ys.take k)) (fun i _ => xs.length - (intOf i).toNat)
    case atStart => exact ⟨0, rfl, Nat.zero_le _, Below.refl _ _, by simp [Hid]⟩
    case round =>
      obtain ⟨k, rfl, hk, hbr, HT⟩ := hrel
      by_cases hlt : k < xs.length
      · have hlty : k < ys.length := by rw [← HL.out]; exact hlt
        obtain ⟨a, rfl, _, l0, l1, l2, l3, l4⟩ := ev_at (hx.below hbr) k hlt
        obtain ⟨b, rfl, _, m0, m1, m2, m3, m4⟩ := ev_at (hy.below hbr) k hlty
        have hx1 : (k : Int) < (xs.length : Int) := by omega
        have hy1 : (k : Int) < (ys.length : Int) := by omega
        have hk0 : (0 : Int) ≤ (k : Int) := by omega
        cases he : evEqB xs[k] ys[k]
        · have hrun := run_neqEv xs[k] ys[k] false he
          have hne := Lib.hid (show decide (xs = ys) = false by
            rw [evEqB_iff] at he
            simp only [decide_eq_false_iff_not] at he ⊢
            rintro rfl; exact he rfl)
          clear he
          go_wp2
          go_quiet (fail)
          go_wp2
          go_ret
          exact ⟨by rw [hne.out]; rfl, below_drewN hbr _⟩
        · have hrun := run_neqEv xs[k] ys[k] true he
          have hne := Lib.hid (show xs.take (k + 1) = ys.take (k + 1) by
            rw [evEqB_iff] at he
            have e : xs[k] = ys[k] := of_decide_eq_true he
            rw [List.take_succ_eq_append_getElem hlt, List.take_succ_eq_append_getElem hlty, HT.out, e])
          clear he
          go_wp2
          go_quiet (fail)
          go_wp2
          go_roundw
          case rel => exact ⟨k + 1, by go_num, hlt, below_drewN hbr _, hne⟩
          case measure => simp [intOf]; omega
      · have hee := Lib.hid (show decide (xs = ys) = true by
          have := HT.out
          rw [List.take_of_length_le (by omega), List.take_of_length_le (by rw [← HL.out]; omega)] at this
          simpa using this)
        go_wp2
        go_ret
        exact ⟨by rw [hee.out]; rfl, hbr⟩
  · have hl1 : ((xs.length : Int) != ys.length) = true := by simp; omega
    have hne := Lib.hid (show decide (xs = ys) = false by simp; intro e; exact hl (by rw [e]))
    clear hl
    go_enter Tryd.func23, Tryd.ntmps23
    go_wp2
    go_ret
    exact ⟨by rw [hne.out]; rfl, Below.refl _ _⟩

set_option maxRecDepth 100000 in
theorem lright_any (x : Ev) (w : World) (hm : Ml w) :
    Calls Tryd.prog 59 #[.agg #[.int .i64 x.ver, .int .i64 x.kind, .bool x.gone, .string x.path, .string x.name]] w fun e w' => e = .returned (.bool (rightE x)) ∧ Below w.heap.size w w' := by
  have hb0 : Below w.heap.size w (w.alloc (.cells #[.int .i64 x.ver, .int .i64 x.kind, .bool x.gone, .string x.path, .string x.name] 41)) := (Below.refl _ _).alloc (Nat.le_refl _) _
  have hm1 := hm.below hb0
  have HB0 := Lib.hid hb0
  clear hb0
  by_cases h1 : x.kind < 0
  · have hr := Lib.hid (show rightE x = false by unfold rightE; rw [show decide (0 ≤ x.kind) = false by simp; omega]; simp)
    have e1 : decide (x.kind < 0) = true := by simpa using h1
    go_enter Tryd.func59, Tryd.ntmps59
    go_wp2
    go_ret
    exact ⟨by rw [hr.out]; rfl, HB0.out⟩
  by_cases h2 : x.kind > 4
  · have hr := Lib.hid (show rightE x = false by unfold rightE; rw [show decide (x.kind ≤ 4) = false by simp; omega]; simp)
    have e1 : decide (x.kind < 0) = false := by simpa using h1
    have e2 : decide (x.kind > 4) = true := by simpa using h2
    go_enter Tryd.func59, Tryd.ntmps59
    go_wp2
    go_ret
    exact ⟨by rw [hr.out]; rfl, HB0.out⟩
  have e1 : decide (x.kind < 0) = false := by simpa using h1
  have e2 : decide (x.kind > 4) = false := by simpa using h2
  have hk : rightE x = (isPath x.path && (if x.kind = 0 then decide (x.name.data.toList = []) else nameB x.name)) := by
    unfold rightE nameB
    rw [show decide (0 ≤ x.kind) = true by simp; omega, show decide (x.kind ≤ 4) = true by simp; omega]; simp
  rcases errPath_cases x.path with ⟨hp, ep⟩ | ⟨hp, ep⟩
  · rw [hp, Bool.true_and] at hk
    have HP := Lib.hid ep
    by_cases h0 : x.kind = 0
    · rw [if_pos h0] at hk
      have e3 : (x.kind == 0) = true := by simpa using h0
      have HK := Lib.hid hk
      clear hk ep hp h1 h2 h0
      go_enter Tryd.func59, Tryd.ntmps59
      go_wp2_with (go_at_call 24; refine (path_any _ _ hm1).mono ?_; rintro e w1 ⟨rfl, hb1⟩; rw [HP.out]; have HB1 := Lib.hid hb1; obtain ⟨bc, bf⟩ := bcell hb1)
      go_ret
      exact ⟨by rw [HK.out, ← toList_eq]; simp [isEmpty_dec], HB0.out.trans (HB1.out.mono HB0.out.size)⟩
    · rw [if_neg h0] at hk
      have e3 : (x.kind == 0) = false := by simpa using h0
      have HK := Lib.hid hk
      clear hk ep hp h1 h2 h0
      go_enter Tryd.func59, Tryd.ntmps59
      go_wp2_with (first
        | (go_at_call 24; refine (path_any _ _ hm1).mono ?_; rintro e w1 ⟨rfl, hb1⟩; rw [HP.out]; have HB1 := Lib.hid hb1; obtain ⟨bc, bf⟩ := bcell hb1)
        | (go_at_call 85; refine (name_any _ _).mono ?_; rintro e w2 ⟨rfl, hb2⟩; have HB2 := Lib.hid hb2; clear hb2))
      go_ret
      exact ⟨by rw [HK.out]; rfl, HB0.out.trans ((HB1.out.trans (HB2.out.mono HB1.out.size)).mono HB0.out.size)⟩
  · rw [hp, Bool.false_and] at hk
    have HP := Lib.hid ep
    have HK := Lib.hid hk
    clear hk ep hp h1 h2
    go_enter Tryd.func59, Tryd.ntmps59
    go_wp2_with (go_at_call 24; refine (path_any _ _ hm1).mono ?_; rintro e w1 ⟨rfl, hb1⟩; rw [HP.out]; have HB1 := Lib.hid hb1; clear hb1)
    go_ret
    exact ⟨by rw [HK.out]; rfl, HB0.out.trans (HB1.out.mono HB0.out.size)⟩
end Go.Proofs.YtdchffghgajbfaaDoor
