/- WatchPlays: the walk. -/
import Derived.Test.YtdchffghgajbfaaDoorN12
namespace Go.Proofs.YtdchffghgajbfaaDoor
open Go.RowKit

set_option maxRecDepth 100000 in
set_option maxHeartbeats 1000000 in
theorem watchPlays_walk (v1 v2 : Int) (A : Option Addr) (c : Nat) (P : Nat → Prop) (xs : List OpV) (w : World) (he : Env w) (hr : Row kOp P w A xs) (hv1 : -9223372036854775808 ≤ v1 ∧ v1 ≤ 9223372036854775807) (hv2 : -9223372036854775808 ≤ v2 ∧ v2 ≤ 9223372036854775807)
    (hn : xs.length ≤ 9223372036854775807) (hs : ∀ o ∈ xs, OpSmall o) :
    Calls Tryd.prog 3 #[.int .i64 v1, .int .i64 v2, .slice A xs.length c] w fun e w' => e = .returned (.bool true) ∧ Below w.heap.size w w' := by
  have HS := Lib.hid hs
  have HV1 := Lib.hid hv1
  have HV2 := Lib.hid hv2
  have T1 := True.intro
  clear hs hv1 hv2
  go_enter Tryd.func3, Tryd.ntmps3
  go_wp2_with (first
    | (go_at_call 14; refine (known_any w he.ml).mono ?_; rintro e w0 ⟨rfl, hb0⟩; have HB0 := Lib.hid hb0; clear hb0)
    | (go_at_call 15; have T2 := T1; clear T1; refine (new_any v1 w0 HV1.out).mono ?_; rintro e w1 ⟨a, rfl, ha, hk1, hb1⟩; have HA := Lib.hid ha; have HK1 := Lib.hid hk1; have HB1 := Lib.hid hb1; clear ha hk1 hb1)
    | (go_at_call 15; have T3 := T2; clear T2; refine (new_any v2 w1 HV2.out).mono ?_; rintro e w2 ⟨b, rfl, hb, hk2, hb2⟩; have HBB := Lib.hid hb; have HK2 := Lib.hid hk2; have HB2 := Lib.hid hb2; clear hb hk2 hb2)
    | (go_at_call 16; have T4 := T3; clear T3; refine (rnew_any v1 w2).mono ?_; rintro e w3 ⟨x, rfl, hx, hk3, hb3⟩; have HX := Lib.hid hx; have HK3 := Lib.hid hk3; have HB3 := Lib.hid hb3; clear hx hk3 hb3)
    | (go_at_call 16; have T5 := T4; clear T4; refine (rnew_any v2 w3).mono ?_; rintro e w4 ⟨y, rfl, hy, hk4, hb4⟩; have HY := Lib.hid hy; have HK4 := Lib.hid hk4; have HB4 := Lib.hid hb4; clear hy hk4 hb4))
  have HT := Lib.hid (two_start he (Nat.le_trans HB0.out.size HA.out) HK1.out (HB0.out.trans (HB1.out.mono HB0.out.size)) HBB.out HK2.out HB2.out HX.out HK3.out HB3.out HY.out HK4.out HB4.out)
  obtain ⟨f1, hf1⟩ : ∃ f1, clampV v1 = f1 := ⟨_, rfl⟩
  obtain ⟨f2, hf2⟩ : ∃ f2, clampV v2 = f2 := ⟨_, rfl⟩
  rw [hf1, hf2] at HT
  clear HK1 HK2 HK3 HK4 HA HBB HX HY HB0 HB1 HB2 HB3 HB4 hf1 hf2 HV1 HV2
  go_loopw [11] (fun iv wr => ∃ i : Nat, iv = .int .i64 i ∧ i ≤ xs.length ∧ Hid (Two w wr 0 a x b y f1 f2)) (fun iv _ => xs.length - (intOf iv).toNat)
  case atStart => exact ⟨0, rfl, Nat.zero_le _, HT⟩
  case round =>
    obtain ⟨i, rfl, hi, ht⟩ := hrel
    obtain ⟨wo, rfl⟩ : ∃ wo, wo = wr := ⟨_, rfl⟩
    by_cases hlt : i < xs.length
    · obtain ⟨ax, B, cb, rfl, ⟨f0, f1', f2', f3, f4⟩, hro⟩ := op_at (hr.below ht.out.bel) i hlt
      obtain ⟨o, ho⟩ : ∃ o, xs[i] = o := ⟨_, rfl⟩
      have HSO := Lib.hid (HS.out xs[i] (List.getElem_mem _))
      rw [ho] at f0 f1' f2' f3 f4 hro HSO
      have HRO := Lib.hid hro
      have hzlt : 0 < wo.heap.size := Nat.lt_of_lt_of_le he.low.2 ht.out.bel.size
      clear ho hro
      cases hm3 : ((i : Int) % 3 == 2)
      · skip
        go_wp2_with (go_at_call 17; refine (two_play1 ht.out he hzlt o B cb _ HRO.out HSO.out).mono ?_; rintro e w5 ⟨rfl, ht5, _⟩; have HT5 := Lib.hid ht5; clear ht5)
        go_roundw
        case rel => exact ⟨i + 1, by go_num, hlt, HT5⟩
        case measure => simp [intOf]; omega
      · skip
        go_wp2_with (go_at_call 17; refine (two_play2 ht.out he hzlt o B cb _ HRO.out HSO.out).mono ?_; rintro e w5 ⟨rfl, ht5, _⟩; have HT5 := Lib.hid ht5; clear ht5)
        go_roundw
        case rel => exact ⟨i + 1, by go_num, hlt, HT5⟩
        case measure => simp [intOf]; omega
    · have hge : ¬ ((i : Int) < (xs.length : Int)) := by omega
      go_upto_region 18 with fail
      have HT6 := Lib.hid (ht.out.fresh (.cells #[.int .i64 2, .slice none 0 0, .int .i64 0, .string ⟨#[47]⟩, .int .i64 100] 31))
      have hbox := heap_alloc_new wo (.cells #[.int .i64 2, .slice none 0 0, .int .i64 0, .string ⟨#[47]⟩, .int .i64 100] 31)
      have hzb := ht.out.bel.size
      obtain ⟨z, hz⟩ : ∃ z, wo.heap.size = z := ⟨_, rfl⟩
      rw [hz] at HT6 hbox hzb ⊢
      clear hz
      go_wp2
      go_loopw [13] (fun iv wr => ∃ (j : Nat) (N : Int), iv = .int .i64 j ∧ j ≤ 140 ∧ Hid (wr.heap[z]? = some (.cells #[.int .i64 2, .slice none 0 0, .int .i64 N, .string ⟨#[47]⟩, .int .i64 100] 31 (0, 0))) ∧ Hid (Two w wr z a x b y f1 f2)) (fun iv _ => 140 - (intOf iv).toNat)
      case atStart => exact ⟨0, 0, rfl, Nat.zero_le _, hbox, HT6⟩
      case round =>
        obtain ⟨j, N, rfl, hj, hbx, ht7⟩ := hrel
        obtain ⟨wo2, rfl⟩ : ∃ wo2, wo2 = wr := ⟨_, rfl⟩
        clear hbox HT6
        by_cases hlt2 : j < 140
        · have hj2 : (j : Int) < 140 := by omega
          have fz : ∀ k, wo2.frozen? ⟨z, k, none⟩ = false := fun k => by simp [World.frozen?, hbx.out]
          have q2 := (cell_of_row _ z 2 _ _ _ hbx.out).trans rfl
          have hb1 : (wo2.setCell ⟨z, 2, none⟩ (.int .i64 j)).heap[z]? = some (.cells #[.int .i64 2, .slice none 0 0, .int .i64 j, .string ⟨#[47]⟩, .int .i64 100] 31 (0, 0)) := by simp [World.setCell, Array.getElem?_modify, hbx.out]
          have HT8 := Lib.hid (ht7.out.write 2 (.int .i64 j) hzb)
          go_upto_region 22 with fail
          clear q2 fz
          obtain ⟨W1, hW1⟩ : ∃ W1, wo2.setCell ⟨z, 2, none⟩ (.int .i64 j) = W1 := ⟨_, rfl⟩
          rw [hW1] at hb1 HT8 ⊢
          clear hW1
          have HB := Lib.hid hb1
          have hzl : z < W1.heap.size := (Array.getElem?_eq_some_iff.1 hb1).1
          have p0 : W1.cell? ⟨z, 0, none⟩ = some (.int .i64 2) := (cell_of_row _ _ _ _ _ _ hb1).trans rfl
          have p1 : W1.cell? ⟨z, 1, none⟩ = some (.slice none 0 0) := (cell_of_row _ _ _ _ _ _ hb1).trans rfl
          have p2 : W1.cell? ⟨z, 2, none⟩ = some (.int .i64 j) := (cell_of_row _ _ _ _ _ _ hb1).trans rfl
          have p3 : W1.cell? ⟨z, 3, none⟩ = some (.string ⟨#[47]⟩) := (cell_of_row _ _ _ _ _ _ hb1).trans rfl
          have p4 : W1.cell? ⟨z, 4, none⟩ = some (.int .i64 100) := (cell_of_row _ _ _ _ _ _ hb1).trans rfl
          have HSM := Lib.hid (show OpSmall ⟨2, [], j, ⟨#[47]⟩, 100⟩ from ⟨by simp, by simp, (by decide : (⟨#[47]⟩ : ByteArray).size ≤ 1073741824)⟩)
          have T1 := True.intro
          clear hb1
          go_wp2_with (first
            | (go_at_call 17; have T2 := T1; clear T1; refine (two_play1 HT8.out he hzl ⟨2, [], j, ⟨#[47]⟩, 100⟩ none 0 (fun _ => True) (Row.nil _ _ _ _) HSM.out).mono ?_; rintro e w5 ⟨rfl, ht5, hz5⟩; have HT5 := Lib.hid ht5; have hb5 := hz5.trans HB.out
               have hzl5 : z < w5.heap.size := (Array.getElem?_eq_some_iff.1 hb5).1
               have r0 : w5.cell? ⟨z, 0, none⟩ = some (.int .i64 2) := (cell_of_row _ _ _ _ _ _ hb5).trans rfl
               have r1 : w5.cell? ⟨z, 1, none⟩ = some (.slice none 0 0) := (cell_of_row _ _ _ _ _ _ hb5).trans rfl
               have r2 : w5.cell? ⟨z, 2, none⟩ = some (.int .i64 j) := (cell_of_row _ _ _ _ _ _ hb5).trans rfl
               have r3 : w5.cell? ⟨z, 3, none⟩ = some (.string ⟨#[47]⟩) := (cell_of_row _ _ _ _ _ _ hb5).trans rfl
               have r4 : w5.cell? ⟨z, 4, none⟩ = some (.int .i64 100) := (cell_of_row _ _ _ _ _ _ hb5).trans rfl
               have HB5 := Lib.hid hb5
               clear ht5 hz5 hb5; try dsimp only)
            | (go_at_call 17; have T3 := T2; clear T2; refine (two_play2 HT5.out he hzl5 ⟨2, [], j, ⟨#[47]⟩, 100⟩ none 0 (fun _ => True) (Row.nil _ _ _ _) HSM.out).mono ?_; rintro e w6 ⟨rfl, ht6, hz6⟩; have HT9 := Lib.hid ht6; have HB6 := Lib.hid (hz6.trans HB5.out); clear ht6 hz6; try dsimp only))
          go_roundw
          case rel => exact ⟨j + 1, j, by go_num, hlt2, HB6, HT9⟩
          case measure => simp [intOf]; omega
        · have hj2 : ¬ (j : Int) < 140 := by omega
          go_wp2
          go_ret
          exact ⟨rfl, ht7.out.bel⟩
end Go.Proofs.YtdchffghgajbfaaDoor
