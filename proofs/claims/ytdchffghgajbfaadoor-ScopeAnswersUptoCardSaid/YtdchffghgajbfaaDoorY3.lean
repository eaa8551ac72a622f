/- The document's Of. -/
import Derived.Test.YtdchffghgajbfaaDoorY2
namespace Go.Proofs.YtdchffghgajbfaaDoor
open Go.RowKit

set_option maxRecDepth 100000 in
set_option maxHeartbeats 1000000 in
theorem rof_val (o : ObjV) (M : List ScV) (q : Nat) (hM : Hid (ofS o 6 = M)) (hq : M.length = q) (L : Option Addr) (n m : Nat) (A : Option Addr) (c : Nat) (P : Nat → Prop) (w : World) (hr : Row kPart P w A o.parts) (hlen : o.parts.length ≤ 1152921504606846976) (hps : PartsOk o.parts) :
    Calls Tryd.prog 39 #[.agg #[.string o.path, .string o.name, .slice L n m, .int .i64 o.prio, .int .i64 o.dl, .slice A o.parts.length c, .int .i64 o.ver]] w fun e w' => ∃ A c, e = .returned (.slice A q c) ∧ Row kSc (fun _ => True) w' A M ∧ Below w.heap.size w w' := by
  subst hq
  have hb0 : Below w.heap.size w (w.alloc (.cells #[.string o.path, .string o.name, .slice L n m, .int .i64 o.prio, .int .i64 o.dl, .slice A o.parts.length c, .int .i64 o.ver] 58)) := (Below.refl _ _).alloc (Nat.le_refl _) _
  have hx1 := OBox.of (heap_alloc_new w (.cells #[.string o.path, .string o.name, .slice L n m, .int .i64 o.prio, .int .i64 o.dl, .slice A o.parts.length c, .int .i64 o.ver] 58))
  obtain ⟨w0, hw0⟩ : ∃ w0, w.alloc (.cells #[.string o.path, .string o.name, .slice L n m, .int .i64 o.prio, .int .i64 o.dl, .slice A o.parts.length c, .int .i64 o.ver] 58) = w0 := ⟨_, rfl⟩
  rw [hw0] at hb0 hx1
  have HB0 := Lib.hid hb0
  have X1 := Lib.hid hx1
  have RX := Lib.hid (hr.below hb0)
  have PS := Lib.hid hps
  have HLEN := Lib.hid hlen
  clear hb0 hx1 hr hps hlen
  go_enter Tryd.func39, Tryd.ntmps39
  go_upto_region 3 with (go_at_call 72; refine (rAll_any _).mono ?_; rintro e w1 ⟨A1, c1, rfl, hown1, hb1⟩; have HB1 := Lib.hid hb1; have HO1 := Lib.hid hown1; clear hb1 hown1)
  clear hw0
  have hl15 : (allS.length : Nat) = 15 := rfl
  go_wp2
  go_loopw [3, 5] (fun lv iv wr => ∃ (k n : Nat) (B : Option Addr) (Mk : List ScV), iv = .int .i64 k ∧ lv = .slice B Mk.length n ∧ k ≤ 15 ∧ Mk.length ≤ k ∧ Hid (Own kSc 54 w1.heap.size (fun _ => True) wr lv Mk) ∧ Hid (Below w1.heap.size w1 wr) ∧ Hid (Mk = (allS.take k).filter (inS o.prio o.dl o.parts))) (fun _ iv _ => 15 - (intOf iv).toNat)
  case atStart => exact ⟨0, 0, none, [], rfl, rfl, Nat.zero_le _, Nat.le_refl _, Own.nil _ _ _ _ _, Below.refl _ _, by simp [Hid]⟩
  case round =>
    obtain ⟨k, n5, B, Mk, rfl, rfl, hk, hMl, hown, hbr, HM⟩ := hrel
    obtain ⟨wo, rfl⟩ : ∃ wo, wo = wr := ⟨_, rfl⟩
    have hsz := hbr.out.size
    have HW := Lib.hid (HB1.out.trans (hbr.out.mono HB1.out.size))
    by_cases hlt : k < 15
    · have hltx : k < allS.length := hlt
      have hlt1 : (k : Int) < 15 := by omega
      obtain ⟨a, rfl, l0, l1⟩ := sc_at (HO1.out.row'.2.1.below hbr.out) k hltx
      have HSTEP := Lib.hid (take_filter_step (p := inS o.prio o.dl o.parts) hltx)
      obtain ⟨s, hs⟩ : ∃ s, allS[k] = s := ⟨_, rfl⟩
      rw [hs] at l0 l1 HSTEP
      obtain ⟨b, hb⟩ : ∃ b, inS o.prio o.dl o.parts s = b := ⟨_, rfl⟩
      have HIN := Lib.hid hb
      rw [hb] at HSTEP
      clear hs hb
      have L0 := Lib.hid l0
      have L1 := Lib.hid l1
      have HXO := Lib.hid (X1.out.below HW.out)
      go_upto_region 6 with fail
      have z0 := fun z : BW wo => (HXO.out.below z.h).c0
      have z1 := fun z : BW wo => (HXO.out.below z.h).c1
      have z2 := fun z : BW wo => (HXO.out.below z.h).c2
      have z3 := fun z : BW wo => (HXO.out.below z.h).c3
      have z4 := fun z : BW wo => (HXO.out.below z.h).c4
      have z5 := fun z : BW wo => (HXO.out.below z.h).c5
      have z6 := fun z : BW wo => (HXO.out.below z.h).c6
      have y0 := fun z : BW wo => (z.h.cell (World.block_lt_of_cell? _ _ L0.out)).trans L0.out
      have y1 := fun z : BW wo => (z.h.cell (World.block_lt_of_cell? _ _ L1.out)).trans L1.out
      have C1 := Lib.hid (fun z : BW wo => rin_val s b o HIN L n m A c P z.w ((RX.out.below HW.out).below z.h) HLEN.out PS.out)
      clear l0 l1
      refine wp_region_pure (by kernel_rfl) (by kernel_rfl) ?_
      repeat (first | go_big_quiet_step (first | (go_at_call 37; exact Calls.pure_of (C1.out _))) | quiet_step (first | (go_at_call 37; exact Calls.pure_of (C1.out _))))
      refine wpQuiet_nil ?_
      rintro _ ⟨z, rfl⟩
      have hzs := z.h.size
      clear z0 z1 z2 z3 z4 z5 z6 y0 y1
      cases b
      · go_wp2
        go_roundw
        case rel => exact ⟨k + 1, n5, B, Mk, by go_num, rfl, hlt, by omega, hown.out.below z.h, hbr.out.trans (z.h.mono hsz), by unfold Hid; rw [HSTEP.out, ← HM.out]; simp⟩
        case measure => simp [intOf]; omega
      · have r0 := (z.h.cell (World.block_lt_of_cell? _ _ L0.out)).trans L0.out
        have r1 := (z.h.cell (World.block_lt_of_cell? _ _ L1.out)).trans L1.out
        have h16 : (Mk.length + 1) * 16 ≤ 140737488355328 := by omega
        go_wp2_with (at_builtin; refine wpList_app_plain scElem kSc_plain w1.heap.size rfl (.tmp 19) (.tmp 24) rfl (v := .slice B Mk.length n5) (xs := Mk) (ys := [s]) rfl ((hown.out.below z.h).alloc _) rfl rfl (Row.newOnePlain (cs := ScV.cells s) kSc_plain rfl) (by exact h16) (by simp; omega) ?_; intro A7 c7 w7 happ; have HA7 := Lib.hid happ; clear happ)
        go_roundw
        case rel =>
          have hl1 : (Mk ++ [s]).length = Mk.length + 1 := by rw [List.length_append]; rfl
          refine ⟨k + 1, c7, A7, Mk ++ [s], by go_num, by rw [hl1], hlt, by rw [hl1]; omega, HA7.out.own, HA7.out.below ((hbr.out.trans (z.h.mono hsz)).alloc (Nat.le_trans hsz hzs) _) (by simp; omega) (fun q hq => (hown.out.block_lt q hq).1), ?_⟩
          unfold Hid; rw [HSTEP.out, ← HM.out]; simp
        case measure => simp [intOf]; omega
    · have hge : ¬ ((k : Int) < 15) := by omega
      have hMM : Mk = M := by rw [HM.out, List.take_of_length_le (by rw [hl15]; omega), ← of_all, hM.out]
      subst hMM
      have HROW := Lib.hid hown.out.row'.2.1
      have HEND := Lib.hid (HB0.out.trans (HW.out.mono HB0.out.size))
      clear HM hown
      go_wp2
      go_ret
      exact ⟨B, ⟨n5, rfl⟩, HROW.out, HEND.out⟩
end Go.Proofs.YtdchffghgajbfaaDoor
