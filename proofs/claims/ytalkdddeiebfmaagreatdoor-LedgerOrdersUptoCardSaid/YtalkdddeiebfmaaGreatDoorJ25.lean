/- lives: the walk. -/
import Derived.Test.YtalkdddeiebfmaaGreatDoorJ24
namespace Go.Proofs.YtalkdddeiebfmaaGreatDoor
open Go.RowKit Go.Maps Go.WideMaps

theorem TextsAt.low {w : World} (h : TextsAt w) : 0 < w.heap.size := World.block_lt_of_cell? w _ h.t0
theorem live_row (w1 : World) : Row kPart (fun k => w1.heap.size ≤ k) (((w1.alloc (.cells #[.string ⟨#[99, 112, 117]⟩, .int .i64 500] 45)).alloc (.cells #[.string ⟨#[112]⟩, .slice (some ⟨w1.heap.size, 0, none⟩) 1 1, .slice none 0 0] 43)).alloc (.cells #[.string ⟨#[47, 97, 47, 98]⟩, .string ⟨#[]⟩, .slice none 0 0, .int .i64 0, .int .i64 0, .slice (some ⟨w1.heap.size + 1, 0, none⟩) 1 1, .int .i64 0] 26)) (some ⟨w1.heap.size + 1, 0, none⟩) oLive.parts := by
  have hs : (w1.alloc (.cells #[.string ⟨#[99, 112, 117]⟩, .int .i64 500] 45)).heap.size = w1.heap.size + 1 := by simp
  have h1 : Row kAmt (fun k => w1.heap.size ≤ k) (w1.alloc (.cells #[.string ⟨#[99, 112, 117]⟩, .int .i64 500] 45)) (some ⟨w1.heap.size, 0, none⟩) [⟨⟨#[99, 112, 117]⟩, 500⟩] :=
    (Row.newOne (d := kAmt) (S := fun _ => False) (w := w1) (e := 45) (cs := Amt.cells ⟨⟨#[99, 112, 117]⟩, 500⟩) (x := ⟨⟨#[99, 112, 117]⟩, 500⟩) rfl).mono fun k h => h.elim (fun f => f.elim) (fun e => by omega)
  refine Row.alloc ?_ _
  have h2 := h1.alloc (.cells #[.string ⟨#[112]⟩, .slice (some ⟨w1.heap.size, 0, none⟩) 1 1, .slice none 0 0] 43)
  have h3 := Row.newOne (d := kPart) (S := fun k => w1.heap.size ≤ k) (w := w1.alloc (.cells #[.string ⟨#[99, 112, 117]⟩, .int .i64 500] 45)) (e := 43) (cs := [.string ⟨#[112]⟩, .slice (some ⟨w1.heap.size, 0, none⟩) 1 1, .slice none 0 0]) (x := ⟨⟨#[112]⟩, [⟨⟨#[99, 112, 117]⟩, 500⟩], []⟩)
    ⟨[_], _, rfl, rfl, [_], _, rfl, ⟨_, rfl, _, 1, rfl, by decide, by decide, h2⟩, ⟨_, rfl, none, 0, rfl, by decide, by decide, fun h => absurd rfl h⟩⟩
  rw [hs] at h3
  exact h3.mono fun k h => h.elim id (fun e => by omega)
theorem live_pl : PlOk (⟨#[47, 97]⟩, (0, 0), rcpuB) := ⟨by decide, by show in64 0; unfold in64; omega, by show in64 0; unfold in64; omega, by decide⟩
theorem live_st : StOk ⟨#[47]⟩ := by unfold StOk; decide
theorem live_wt : objWt oLive = 28 := by kernel_rfl
theorem live_led : LedOk 28 (addS 1 Z0 (sharesV oLive.v).2.1) (addC 1 C0 (sharesV oLive.v).1) := by
  have h := chargeV_ok (ledOk_zero : LedOk 0 Z0 C0) live_ok
  rw [live_charge_eq, live_wt] at h
  exact h
theorem live_used : addS 1 Z0 (sharesV oLive.v).2.1 (⟨#[47, 97]⟩, (0, 0), rcpuB) = 500 := by rw [addS_svL, live_at]; rfl
theorem live_count : addC 1 C0 (sharesV oLive.v).1 ⟨#[47]⟩ = 1 := by rw [addC_cvL, live_cnt]; rfl
set_option maxRecDepth 100000 in
set_option maxHeartbeats 1000000 in
theorem lives_any (w : World) (hm : Ml w) (ht : TextsAt w) : Calls Tryz.prog 16 #[] w fun e w' => ∃ g b1 b2, e = .returned (.pointer (some ⟨g, 0, none⟩)) ∧ IsLed w' g b1 b2 0 Z0 C0 ∧ (∀ i, ledB g b1 b2 i → w.heap.size ≤ i) ∧ Below w.heap.size w w' := by
  have HM := Lib.hid hm
  have HT := Lib.hid ht
  obtain ⟨S1, hS1⟩ : ∃ S1, addS 1 Z0 (sharesV oLive.v).2.1 = S1 := ⟨_, rfl⟩
  obtain ⟨C1, hC1⟩ : ∃ C1, addC 1 C0 (sharesV oLive.v).1 = C1 := ⟨_, rfl⟩
  have hch := live_charge_eq
  have hre := live_release
  have hus := live_used
  have hct := live_count
  have hok := live_led
  have hrw : ∀ R : List Sh, RowsOf (addS 1 Z0 (sharesV oLive.v).2.1) R → R.length = 24 := fun R h => live_rows h
  rw [hS1, hC1] at hch hre hok
  rw [hS1] at hus hrw
  rw [hC1] at hct
  have HCH := Lib.hid hch
  have HRE := Lib.hid hre
  have HUS := Lib.hid hus
  have HCT := Lib.hid hct
  have HOK := Lib.hid hok
  have HRW := Lib.hid hrw
  clear hm ht hS1 hC1 hch hre hus hct hok hrw
  go_enter Tryz.func16, Tryz.ntmps16
  go_upto_region 3 with (go_at_call 20; refine (new_led _).mono ?_; rintro e w1 ⟨g, b1, b2, rfl, hk1, hlow1, hb1⟩; have HK1 := Lib.hid hk1; have HL1 := Lib.hid hlow1; have HB1 := Lib.hid hb1; clear hk1 hlow1 hb1)
  obtain ⟨W, hW⟩ : ∃ W, ((w1.alloc (.cells #[.string ⟨#[99, 112, 117]⟩, .int .i64 500] 45)).alloc (.cells #[.string ⟨#[112]⟩, .slice (some ⟨w1.heap.size, 0, none⟩) 1 1, .slice none 0 0] 43)).alloc (.cells #[.string ⟨#[47, 97, 47, 98]⟩, .string ⟨#[]⟩, .slice none 0 0, .int .i64 0, .int .i64 0, .slice (some ⟨w1.heap.size + 1, 0, none⟩) 1 1, .int .i64 0] 26) = W := ⟨_, rfl⟩
  have hBW : Below w1.heap.size w1 W := by
    rw [← hW]
    exact (((Below.refl _ _).alloc (Nat.le_refl _) _).alloc (by simp) _).alloc (by simp; omega) _
  have hbx : W.heap[w1.heap.size + 2]? = some (.cells #[.string ⟨#[47, 97, 47, 98]⟩, .string ⟨#[]⟩, .slice none 0 0, .int .i64 0, .int .i64 0, .slice (some ⟨w1.heap.size + 1, 0, none⟩) 1 1, .int .i64 0] 26 (0, 0)) := by
    rw [← hW]
    have := heap_alloc_new ((w1.alloc (.cells #[.string ⟨#[99, 112, 117]⟩, .int .i64 500] 45)).alloc (.cells #[.string ⟨#[112]⟩, .slice (some ⟨w1.heap.size, 0, none⟩) 1 1, .slice none 0 0] 43)) (.cells #[.string ⟨#[47, 97, 47, 98]⟩, .string ⟨#[]⟩, .slice none 0 0, .int .i64 0, .int .i64 0, .slice (some ⟨w1.heap.size + 1, 0, none⟩) 1 1, .int .i64 0] 26)
    simpa using this
  have hrow : Row kPart (fun k => w1.heap.size ≤ k) W (some ⟨w1.heap.size + 1, 0, none⟩) oLive.parts := by
    rw [← hW]
    exact live_row w1
  have HARG := Lib.hid (show OArg W oLive.v none 0 0 (some ⟨w1.heap.size + 1, 0, none⟩) (fun k => w1.heap.size ≤ k) from ⟨(HM.out.below HB1.out).below hBW, (HT.out.below HB1.out).below hBW, ⟨⟨none, 0, 0, rfl⟩, hrow, live_ok.len, live_ok.small⟩, live_ok.use⟩)
  have HBX := Lib.hid hbx
  have hlt := HK1.out.lt
  have HLT := Lib.hid (fun i (hi : mapB b1 b2 i) => (show i < w1.heap.size from hi.elim (fun e => hlt i (.inr (.inl e))) (fun e => hlt i (.inr (.inr e)))))
  have HNW := Lib.hid (fun k (hk : mapB b1 b2 k) => (show w.heap.size ≤ k from hk.elim (fun e => HL1.out k (.inr (.inl e))) (fun e => HL1.out k (.inr (.inr e)))))
  have HBW := Lib.hid hBW
  have HNM := Lib.hid (show ¬ mapB b1 b2 1 from fun h => by have := HNW.out _ h; have := HM.out.low; omega)
  have HNT := Lib.hid (show ¬ mapB b1 b2 0 from fun h => by have := HNW.out _ h; have := HT.out.low; omega)
  have HNP := Lib.hid (fun k (hk : w1.heap.size ≤ k) => (show ¬ mapB b1 b2 k from fun h => by have := HLT.out _ h; omega))
  have HCH2 := Lib.hid (show Calls Tryz.prog 17 #[.pointer (some ⟨g, 0, none⟩), .agg #[.string ⟨#[47, 97, 47, 98]⟩, .string ⟨#[]⟩, .slice none 0 0, .int .i64 0, .int .i64 0, .slice (some ⟨w1.heap.size + 1, 0, none⟩) 1 1, .int .i64 0]] W (fun e w' => e = .returned (.int .i64 0) ∧ IsLed w' g b1 b2 28 S1 C1 ∧ Turn (mapB b1 b2) W w') from by
    have h := charge_any (g := g) (b1 := b1) (b2 := b2) (n := 0) (S := Z0) (C := C0) oLive.v 0 none 0 0 (some ⟨w1.heap.size + 1, 0, none⟩) 1 _ W HARG.out (HK1.out.below HBW.out) ledOk_zero (by omega) 60000000000 (by omega) (by unfold maxLen; omega)
    rw [HCH.out] at h
    exact h.mono fun e w' ⟨h1, h2, h3⟩ => ⟨h1, h2.tight HOK.out, h3⟩)
  obtain ⟨-, r0, r1, r2, r3, r4, r5, r6, -⟩ := OBox.of hbx
  rw [hW]
  clear hW hBW hbx hrow hlt
  go_upto_region 5 with (first
    | (go_at_call 17; refine HCH2.out.mono ?_; rintro e w2 ⟨rfl, hk2, ht2⟩; have HK2 := Lib.hid hk2; have HT2 := Lib.hid ht2; clear hk2 ht2 r0 r1 r2 r3 r4 r5 r6)
    | (go_at_call 27; refine (used_any (⟨#[47, 97]⟩, (0, 0), rcpuB) live_pl 500 HUS w2 HK2.out).mono ?_; rintro e w3 ⟨rfl, hb3⟩; have HB3 := Lib.hid hb3; clear hb3)
    | (go_at_call 14; refine (lrows_any w3 ((((HM.out.below HB1.out).below HBW.out).turn HT2.out HNM.out).below HB3.out) (HK2.out.below HB3.out) HOK.out (by omega)).mono ?_; rintro e w4 ⟨A4, c4, R4, rfl, ho4, hr4, hb4⟩; rw [HRW.out R4 hr4]; have HB4 := Lib.hid hb4; clear ho4 hr4 hb4)
    | (go_at_call 19; refine (count_any ⟨#[47]⟩ live_st 1 HCT w4 ((HK2.out.below HB3.out).below HB4.out)).mono ?_; rintro e w5 ⟨rfl, hb5⟩; have HB5 := Lib.hid hb5; clear hb5))
  have HB25 := Lib.hid (HB3.out.trans ((HB4.out.trans (HB5.out.mono HB4.out.size)).mono HB3.out.size))
  have HK5 := Lib.hid (HK2.out.below HB25.out)
  have HAR5 := Lib.hid ((HARG.out.turn HT2.out HNM.out HNT.out HNP.out).below HB25.out)
  have hlb := (Array.getElem?_eq_some_iff.1 HBX.out).1
  have hx2 := (HT2.out.block _ hlb (HNP.out _ (by omega))).trans HBX.out
  have hx5 := (HB25.out.block _ (Nat.lt_of_lt_of_le hlb HT2.out.size)).trans hx2
  obtain ⟨-, r0, r1, r2, r3, r4, r5, r6, -⟩ := OBox.of hx5
  have HRE2 := Lib.hid (show Calls Tryz.prog 18 #[.pointer (some ⟨g, 0, none⟩), .agg #[.string ⟨#[47, 97, 47, 98]⟩, .string ⟨#[]⟩, .slice none 0 0, .int .i64 0, .int .i64 0, .slice (some ⟨w1.heap.size + 1, 0, none⟩) 1 1, .int .i64 0]] w5 (fun e w' => e = .returned (.int .i64 0) ∧ IsLed w' g b1 b2 0 Z0 C0 ∧ Turn (mapB b1 b2) w5 w') from by
    have h := release_any (g := g) (b1 := b1) (b2 := b2) (n := 28) (S := S1) (C := C1) oLive.v 28 none 0 0 (some ⟨w1.heap.size + 1, 0, none⟩) 1 _ w5 HAR5.out HK5.out HOK.out (by omega) 70000000000 (by omega) (by unfold maxLen; omega)
    rw [HRE.out] at h
    exact h.mono fun e w' ⟨h1, h2, h3⟩ => ⟨h1, h2.tight ledOk_zero, h3⟩)
  clear hlb hx2 hx5
  go_wp2_with (first
    | (go_at_call 18; refine HRE2.out.mono ?_; rintro e w6 ⟨rfl, hk6, ht6⟩; have HK6 := Lib.hid hk6; have HT6 := Lib.hid ht6; clear hk6 ht6 r0 r1 r2 r3 r4 r5 r6)
    | (go_at_call 14; refine (lrows_any w6 (HAR5.out.ml.turn HT6.out HNM.out) HK6.out ledOk_zero (by omega)).mono ?_; rintro e w7 ⟨A7, c7, R7, rfl, ho7, hr7, hb7⟩; rw [rowsOf_zero_len hr7]; have HB7 := Lib.hid hb7; clear ho7 hr7 hb7))
  go_ret
  have hsz := HB1.out.size
  refine ⟨g, b1, b2, rfl, HK6.out.below HB7.out, HL1.out, ?_⟩
  refine HB1.out.trans ((HBW.out.mono hsz).trans ?_)
  have hsW := Nat.le_trans hsz HBW.out.size
  refine (HT2.out.below hsW HNW.out).trans ?_
  have hs2 := Nat.le_trans hsW HT2.out.size
  refine (HB25.out.mono hs2).trans ?_
  have hs5 := Nat.le_trans hs2 HB25.out.size
  exact (HT6.out.below hs5 HNW.out).trans (HB7.out.mono (Nat.le_trans hs5 HT6.out.size))
end Go.Proofs.YtalkdddeiebfmaaGreatDoor
