/- Laid together: Y2 Y3 Y4 Y5 Y6 Y7. -/
import Derived.Test.YtalkdddeiebfmaaGreatDoorBE
import Derived.StillTailTactics
import Derived.Deep.RegionHeld3
/- The document's In, Within, Of, below. -/
namespace Go.Proofs.YtalkdddeiebfmaaGreatDoor
open Go.RowKit

theorem any_take_step {α : Type} {p : α → Bool} {l : List α} {k : Nat} (hk : k < l.length) : (l.take (k + 1)).any p = ((l.take k).any p || p l[k]) := by
  rw [List.take_succ_eq_append_getElem hk, List.any_append]; simp
set_option maxRecDepth 100000 in
theorem rbelow_any (A : Option Addr) (c : Nat) (P : Nat → Prop) (xs : List Amt) (n : Nat) (hn : xs.length = n) (w : World) (hr : Row kAmt P w A xs) (hl : n ≤ 9223372036854775807) :
    Calls Tryz.prog 129 #[.slice A n c] w fun e w' => e = .returned (.bool (xs.any negA)) ∧ Below w.heap.size w w' := by
  subst hn
  go_enter Tryz.func129, Tryz.ntmps129
  go_wp2
  go_loopw [3] (fun i wr => ∃ k : Nat, i = .int .i64 k ∧ k ≤ xs.length ∧ Below w.heap.size w wr ∧ Hid ((xs.take k).any negA = false)) (fun i _ => xs.length - (intOf i).toNat)
  case atStart => exact ⟨0, rfl, Nat.zero_le _, Below.refl _ _, by simp [Hid]⟩
  case round =>
    obtain ⟨k, rfl, hk, hbr, HA⟩ := hrel
    by_cases hlt : k < xs.length
    · obtain ⟨a, rfl, -, l0, l1⟩ := amt_at (hr.below hbr) k hlt
      have HS := Lib.hid (any_take_step (p := negA) hlt)
      rw [HA.out, Bool.false_or] at HS
      obtain ⟨x, hx⟩ : ∃ x, xs[k] = x := ⟨_, rfl⟩
      rw [hx] at l0 l1 HS
      have hmem : x ∈ xs := by rw [← hx]; exact List.getElem_mem _
      clear hx
      by_cases hneg : x.val < 0
      · have e1 : decide (x.val < 0) = true := by simpa using hneg
        have HF := Lib.hid (show xs.any negA = true from List.any_eq_true.2 ⟨x, hmem, e1⟩)
        go_wp2
        go_ret
        exact ⟨by rw [HF.out]; rfl, hbr⟩
      · have e1 : decide (x.val < 0) = false := by simpa using hneg
        have HN := Lib.hid (show (xs.take (k + 1)).any negA = false by rw [HS.out]; exact e1)
        go_wp2
        go_roundw
        case rel => exact ⟨k + 1, by go_num, hlt, hbr, HN.out⟩
        case measure => simp [intOf]; omega
    · have hge : ¬ ((k : Int) < (xs.length : Int)) := by omega
      have HF := Lib.hid (show xs.any negA = false by have := HA.out; rwa [List.take_of_length_le (by omega)] at this)
      go_wp2
      go_ret
      exact ⟨by rw [HF.out]; rfl, hbr⟩

set_option maxRecDepth 100000 in
set_option maxHeartbeats 1000000 in
theorem rin_val (s : ScV) (b : Bool) (o : ObjV) (hb : Hid (inS o.prio o.dl o.parts s = b)) (L : Option Addr) (n m : Nat) (A : Option Addr) (c : Nat) (P : Nat → Prop) (w : World) (hr : Row kPart P w A o.parts) (hlen : o.parts.length ≤ 1152921504606846976) (hps : PartsOk o.parts) :
    Calls Tryz.prog 132 #[.agg #[.string o.path, .string o.name, .slice L n m, .int .i64 o.prio, .int .i64 o.dl, .slice A o.parts.length c, .int .i64 o.ver], .agg #[.int .i64 s.kind, .int .i64 s.arg]] w fun e w' => e = .returned (.bool b) ∧ Below w.heap.size w w' := by
  obtain ⟨k0, a0⟩ := s
  have hb0 : Below w.heap.size w ((w.alloc (.cells #[.string o.path, .string o.name, .slice L n m, .int .i64 o.prio, .int .i64 o.dl, .slice A o.parts.length c, .int .i64 o.ver] 26)).alloc (.cells #[.int .i64 k0, .int .i64 a0] 47)) :=
    ((Below.refl _ _).alloc (Nat.le_refl _) _).alloc (by simp) _
  have hx1 : OBox _ _ _ _ _ _ _ _ _ := .of (heap_alloc2_old w (.cells #[.string o.path, .string o.name, .slice L n m, .int .i64 o.prio, .int .i64 o.dl, .slice A o.parts.length c, .int .i64 o.ver] 26) (.cells #[.int .i64 k0, .int .i64 a0] 47))
  have hs1 : SBox _ _ _ _ := ⟨heap_alloc2_new w (.cells #[.string o.path, .string o.name, .slice L n m, .int .i64 o.prio, .int .i64 o.dl, .slice A o.parts.length c, .int .i64 o.ver] 26) (.cells #[.int .i64 k0, .int .i64 a0] 47)⟩
  obtain ⟨w0, hw0⟩ : ∃ w0, ((w.alloc (.cells #[.string o.path, .string o.name, .slice L n m, .int .i64 o.prio, .int .i64 o.dl, .slice A o.parts.length c, .int .i64 o.ver] 26)).alloc (.cells #[.int .i64 k0, .int .i64 a0] 47)) = w0 := ⟨_, rfl⟩
  rw [hw0] at hb0 hx1 hs1
  have HB0 := Lib.hid hb0
  have X1 := Lib.hid hx1
  have S1 := Lib.hid hs1
  have RX := Lib.hid (hr.below hb0)
  have PS := Lib.hid hps
  clear hb0 hx1 hr hps hs1
  cases hv : validS ⟨k0, a0⟩
  · have HV := Lib.hid hv
    have hbf : b = false := by rw [← hb.out]; unfold inS; rw [hv]; rfl
    subst hbf
    clear hv
    go_enter Tryz.func132, Tryz.ntmps132
    go_upto_region 1 with fail
    clear hw0
    have s0 : w0.cell? ⟨w.heap.size + 1, 0, none⟩ = some (.int .i64 k0) := (cell_of_row _ _ _ _ _ _ S1.out.blk).trans rfl
    have s1 : w0.cell? ⟨w.heap.size + 1, 1, none⟩ = some (.int .i64 a0) := (cell_of_row _ _ _ _ _ _ S1.out.blk).trans rfl
    go_wp2_with (go_at_call 75; refine (rvalid_val ⟨k0, a0⟩ false HV _).mono ?_; rintro e w1 ⟨rfl, hb1⟩; have HB1 := Lib.hid hb1; clear hb1)
    go_ret
    exact ⟨rfl, HB0.out.trans (HB1.out.mono HB0.out.size)⟩
  · have HV := Lib.hid hv
    have HK := Lib.hid (validS_kinds hv)
    have HL := Lib.hid (show liesS o.prio o.dl o.parts ⟨k0, a0⟩ = b by have := hb.out; unfold inS at this; rw [hv] at this; exact this)
    clear hv
    go_enter Tryz.func132, Tryz.ntmps132
    go_upto_region 1 with fail
    clear hw0
    have s0 : w0.cell? ⟨w.heap.size + 1, 0, none⟩ = some (.int .i64 k0) := (cell_of_row _ _ _ _ _ _ S1.out.blk).trans rfl
    have s1 : w0.cell? ⟨w.heap.size + 1, 1, none⟩ = some (.int .i64 a0) := (cell_of_row _ _ _ _ _ _ S1.out.blk).trans rfl
    go_upto_region 4 with (go_at_call 75; refine (rvalid_val ⟨k0, a0⟩ true HV _).mono ?_; rintro e w1 ⟨rfl, hb1⟩; have HB1 := Lib.hid hb1; clear hb1)
    clear s0 s1
    go_wp2
    go_loopw [6, 7] (fun nv iv wr => ∃ k : Nat, iv = .int .i64 k ∧ nv = .bool (namedP (o.parts.take k)) ∧ k ≤ o.parts.length ∧ Hid (Below w1.heap.size w1 wr)) (fun _ iv _ => o.parts.length - (intOf iv).toNat)
    case atStart => exact ⟨0, rfl, by simp [namedP], Nat.zero_le _, Below.refl _ _⟩
    case round =>
      obtain ⟨k, rfl, rfl, hk, hbr⟩ := hrel
      obtain ⟨wo, rfl⟩ : ∃ wo, wo = wr := ⟨_, rfl⟩
      have HBO := Lib.hid (HB1.out.trans (hbr.out.mono HB1.out.size))
      obtain ⟨-, -, -, -, p3, p4, p5, -, -⟩ := X1.out.below HBO.out
      by_cases hlt : k < o.parts.length
      · obtain ⟨a, R1, M1, cr1, cm1, rfl, ha⟩ := part_at (RX.out.below HBO.out) k hlt
        have hpx := PS.out _ (List.getElem_mem hlt)
        have HST := Lib.hid (any_take_step (p := namesOne) hlt)
        obtain ⟨x, hx⟩ : ∃ x, o.parts[k] = x := ⟨_, rfl⟩
        rw [hx] at ha hpx HST
        clear hx
        have hx1 : (k : Int) < (o.parts.length : Int) := by omega
        have hk0 : (0 : Int) ≤ (k : Int) := by omega
        obtain ⟨-, e1, e2, -, -, -, -⟩ := ha
        obtain ⟨nr, hnr⟩ : ∃ nr, x.req.length = nr := ⟨_, rfl⟩
        obtain ⟨nm, hnm⟩ : ∃ nm, x.lim.length = nm := ⟨_, rfl⟩
        rw [hnr] at e1 hpx
        rw [hnm] at e2 hpx
        have HNO := Lib.hid (show namesOne x = decide (((nr : Int) + nm) > 0) by unfold namesOne; rw [hnr, hnm])
        obtain ⟨hp1, hp2⟩ := hpx
        clear hnr hnm
        obtain ⟨nb, hnb⟩ : ∃ nb, namedP (o.parts.take k) = nb := ⟨_, rfl⟩
        have HNB := Lib.hid (show (o.parts.take k).any namesOne = nb from hnb)
        rw [hnb]
        rw [HNB.out] at HST
        clear hnb
        have hsum1 : (-9223372036854775808 : Int) ≤ (nr : Int) + nm := by omega
        have hsum2 : (nr : Int) + nm ≤ 9223372036854775807 := by omega
        cases nb
        · have HN := Lib.hid (show namedP (o.parts.take (k + 1)) = decide (((nr : Int) + nm) > 0) by
            show (o.parts.take (k + 1)).any namesOne = _
            rw [HST.out, HNO.out]; rfl)
          go_wp2
          go_quiet (fail)
          go_wp2
          go_roundw
          case rel => exact ⟨k + 1, by go_num, by rw [HN.out], hlt, below_drewN hbr.out _⟩
          case measure => simp [intOf]; omega
        · have HN := Lib.hid (show namedP (o.parts.take (k + 1)) = true by
            show (o.parts.take (k + 1)).any namesOne = _
            rw [HST.out]; rfl)
          go_wp2
          go_quiet (fail)
          go_wp2
          go_roundw
          case rel => exact ⟨k + 1, by go_num, by rw [HN.out], hlt, below_drewN hbr.out _⟩
          case measure => simp [intOf]; omega
      · have hge : ¬ ((k : Int) < (o.parts.length : Int)) := by omega
        rw [List.take_of_length_le (by omega)]
        have s0 : wo.cell? ⟨w.heap.size + 1, 0, none⟩ = some (.int .i64 k0) := (cell_of_row _ _ _ _ _ _ (S1.out.below HBO.out).blk).trans rfl
        have s1 : wo.cell? ⟨w.heap.size + 1, 1, none⟩ = some (.int .i64 a0) := (cell_of_row _ _ _ _ _ _ (S1.out.below HBO.out).blk).trans rfl
        have HEND := Lib.hid (HB0.out.trans (HBO.out.mono HB0.out.size))
        have hkk := HK.out
        rcases hkk with rfl | rfl | rfl | rfl | rfl | rfl
        · have hv : true = b := by rw [← HL.out]; rfl
          subst hv
          go_wp2
          go_ret
          exact ⟨rfl, HEND.out⟩
        · have hv : (!namedP o.parts) = b := by rw [← HL.out]; rfl
          have HVV := Lib.hid hv
          clear hv
          go_wp2
          go_ret
          exact ⟨by rw [← HVV.out]; rfl, HEND.out⟩
        · have hv : namedP o.parts = b := by rw [← HL.out]; rfl
          have HVV := Lib.hid hv
          clear hv
          go_wp2
          go_ret
          exact ⟨by rw [← HVV.out]; rfl, HEND.out⟩
        · have hv : decide (o.dl > 0) = b := by rw [← HL.out]; rfl
          have HVV := Lib.hid hv
          clear hv
          go_wp2
          go_ret
          exact ⟨by rw [← HVV.out]; rfl, HEND.out⟩
        · have hv : decide (o.dl ≤ 0) = b := by rw [← HL.out]; rfl
          have HVV := Lib.hid hv
          clear hv
          go_wp2
          go_ret
          exact ⟨by rw [← HVV.out]; rfl, HEND.out⟩
        · have hv : decide (o.prio = a0) = b := by rw [← HL.out]; rfl
          have HVV := Lib.hid hv
          clear hv
          go_wp2
          go_ret
          exact ⟨by rw [← HVV.out]; rfl, HEND.out⟩
end Go.Proofs.YtalkdddeiebfmaaGreatDoor
/- The document's Of. -/
namespace Go.Proofs.YtalkdddeiebfmaaGreatDoor
open Go.RowKit

set_option maxRecDepth 100000 in
set_option maxHeartbeats 1000000 in
theorem rof_val (o : ObjV) (M : List ScV) (q : Nat) (hM : Hid (ofS o 6 = M)) (hq : M.length = q) (L : Option Addr) (n m : Nat) (A : Option Addr) (c : Nat) (P : Nat → Prop) (w : World) (hr : Row kPart P w A o.parts) (hlen : o.parts.length ≤ 1152921504606846976) (hps : PartsOk o.parts) :
    Calls Tryz.prog 97 #[.agg #[.string o.path, .string o.name, .slice L n m, .int .i64 o.prio, .int .i64 o.dl, .slice A o.parts.length c, .int .i64 o.ver]] w fun e w' => ∃ A c, e = .returned (.slice A q c) ∧ Row kSc (fun k => w.heap.size ≤ k) w' A M ∧ Below w.heap.size w w' := by
  subst hq
  have hb0 : Below w.heap.size w (w.alloc (.cells #[.string o.path, .string o.name, .slice L n m, .int .i64 o.prio, .int .i64 o.dl, .slice A o.parts.length c, .int .i64 o.ver] 26)) := (Below.refl _ _).alloc (Nat.le_refl _) _
  have hx1 := OBox.of (heap_alloc_new w (.cells #[.string o.path, .string o.name, .slice L n m, .int .i64 o.prio, .int .i64 o.dl, .slice A o.parts.length c, .int .i64 o.ver] 26))
  obtain ⟨w0, hw0⟩ : ∃ w0, w.alloc (.cells #[.string o.path, .string o.name, .slice L n m, .int .i64 o.prio, .int .i64 o.dl, .slice A o.parts.length c, .int .i64 o.ver] 26) = w0 := ⟨_, rfl⟩
  rw [hw0] at hb0 hx1
  have HB0 := Lib.hid hb0
  have X1 := Lib.hid hx1
  have RX := Lib.hid (hr.below hb0)
  have PS := Lib.hid hps
  have HLEN := Lib.hid hlen
  clear hb0 hx1 hr hps hlen
  go_enter Tryz.func97, Tryz.ntmps97
  go_upto_region 3 with (go_at_call 39; refine (rAll_any _).mono ?_; rintro e w1 ⟨A1, c1, rfl, hown1, hb1⟩; have HB1 := Lib.hid hb1; have HO1 := Lib.hid hown1; clear hb1 hown1)
  clear hw0
  have hl15 : (allS.length : Nat) = 15 := rfl
  go_wp2
  go_loopw [3, 5] (fun lv iv wr => ∃ (k n : Nat) (B : Option Addr) (Mk : List ScV), iv = .int .i64 k ∧ lv = .slice B Mk.length n ∧ k ≤ 15 ∧ Mk.length ≤ k ∧ Hid (Own kSc 47 w1.heap.size (fun _ => True) wr lv Mk) ∧ Hid (Below w1.heap.size w1 wr) ∧ Hid (Mk = (allS.take k).filter (inS o.prio o.dl o.parts))) (fun _ iv _ => 15 - (intOf iv).toNat)
  case atStart => exact ⟨0, 0, none, [], rfl, rfl, Nat.zero_le _, Nat.le_refl _, Own.nil _ _ _ _ _, Below.refl _ _, by simp [Hid]⟩
  case round =>
    obtain ⟨k, n5, B, Mk, rfl, rfl, hk, hMl, hown, hbr, HM⟩ := hrel
    obtain ⟨wo, rfl⟩ : ∃ wo, wo = wr := ⟨_, rfl⟩
    have hsz := hbr.out.size
    have HW := Lib.hid (HB1.out.trans (hbr.out.mono HB1.out.size))
    by_cases hlt : k < 15
    · have hltx : k < allS.length := hlt
      have hlt1 : (k : Int) < 15 := by omega
      obtain ⟨a, rfl, l0, l1⟩ := sc_at (HO1.out.row'.2.1.below hbr.out) k hltx
      have HSTEP := Lib.hid (take_filter_step (p := inS o.prio o.dl o.parts) hltx)
      obtain ⟨s, hs⟩ : ∃ s, allS[k] = s := ⟨_, rfl⟩
      rw [hs] at l0 l1 HSTEP
      obtain ⟨b, hb⟩ : ∃ b, inS o.prio o.dl o.parts s = b := ⟨_, rfl⟩
      have HIN := Lib.hid hb
      rw [hb] at HSTEP
      clear hs hb
      have L0 := Lib.hid l0
      have L1 := Lib.hid l1
      have HXO := Lib.hid (X1.out.below HW.out)
      go_upto_region 6 with fail
      have z0 := fun z : BW wo => (HXO.out.below z.h).c0
      have z1 := fun z : BW wo => (HXO.out.below z.h).c1
      have z2 := fun z : BW wo => (HXO.out.below z.h).c2
      have z3 := fun z : BW wo => (HXO.out.below z.h).c3
      have z4 := fun z : BW wo => (HXO.out.below z.h).c4
      have z5 := fun z : BW wo => (HXO.out.below z.h).c5
      have z6 := fun z : BW wo => (HXO.out.below z.h).c6
      have y0 := fun z : BW wo => (z.h.cell (World.block_lt_of_cell? _ _ L0.out)).trans L0.out
      have y1 := fun z : BW wo => (z.h.cell (World.block_lt_of_cell? _ _ L1.out)).trans L1.out
      have C1 := Lib.hid (fun z : BW wo => rin_val s b o HIN L n m A c P z.w ((RX.out.below HW.out).below z.h) HLEN.out PS.out)
      clear l0 l1
      refine wp_region_pure (by kernel_rfl) (by kernel_rfl) ?_
      repeat (first | go_big_quiet_step (first | (go_at_call 132; exact Calls.pure_of (C1.out _))) | quiet_step (first | (go_at_call 132; exact Calls.pure_of (C1.out _))))
      refine wpQuiet_nil ?_
      rintro _ ⟨z, rfl⟩
      have hzs := z.h.size
      clear z0 z1 z2 z3 z4 z5 z6 y0 y1
      cases b
      · go_wp2
        go_roundw
        case rel => exact ⟨k + 1, n5, B, Mk, by go_num, rfl, hlt, by omega, hown.out.below z.h, hbr.out.trans (z.h.mono hsz), by unfold Hid; rw [HSTEP.out, ← HM.out]; simp⟩
        case measure => simp [intOf]; omega
      · have r0 := (z.h.cell (World.block_lt_of_cell? _ _ L0.out)).trans L0.out
        have r1 := (z.h.cell (World.block_lt_of_cell? _ _ L1.out)).trans L1.out
        have h16 : (Mk.length + 1) * 16 ≤ 140737488355328 := by omega
        go_wp2_with (at_builtin; refine wpList_app_plain scElem kSc_plain w1.heap.size rfl (.tmp 19) (.tmp 24) rfl (v := .slice B Mk.length n5) (xs := Mk) (ys := [s]) rfl ((hown.out.below z.h).alloc _) rfl rfl (Row.newOnePlain (cs := ScV.cells s) kSc_plain rfl) (by exact h16) (by simp; omega) ?_; intro A7 c7 w7 happ; have HA7 := Lib.hid happ; clear happ)
        go_roundw
        case rel =>
          have hl1 : (Mk ++ [s]).length = Mk.length + 1 := by rw [List.length_append]; rfl
          refine ⟨k + 1, c7, A7, Mk ++ [s], by go_num, by rw [hl1], hlt, by rw [hl1]; omega, HA7.out.own, HA7.out.below ((hbr.out.trans (z.h.mono hsz)).alloc (Nat.le_trans hsz hzs) _) (by simp; omega) (fun q hq => (hown.out.block_lt q hq).1), ?_⟩
          unfold Hid; rw [HSTEP.out, ← HM.out]; simp
        case measure => simp [intOf]; omega
    · have hge : ¬ ((k : Int) < 15) := by omega
      have hMM : Mk = M := by rw [HM.out, List.take_of_length_le (by rw [hl15]; omega), ← of_all, hM.out]
      subst hMM
      have HROW := Lib.hid ((own_rows (hown.out.plain kSc_plain)).mono fun k hk => (show w.heap.size ≤ k by have h1 := HB0.out.size; have h2 := HB1.out.size; have h3 := hk.1; omega))
      have HEND := Lib.hid (HB0.out.trans (HW.out.mono HB0.out.size))
      clear HM hown
      go_wp2
      go_ret
      exact ⟨B, ⟨n5, rfl⟩, HROW.out, HEND.out⟩
end Go.Proofs.YtalkdddeiebfmaaGreatDoor
/- The document's rows in memory: add. -/
namespace Go.Proofs.YtalkdddeiebfmaaGreatDoor
open Go.RowKit

/-- a row: a name and its sum, in two parts -/
structure RawV where
  name : ByteArray
  hi : Int
  lo : Int
def RawV.cells (r : RawV) : List Value := [.string r.name, .int .i64 r.hi, .int .i64 r.lo]
def kRaw : Kn RawV := Kn.enc RawV.cells 3 (by omega) (fun _ => rfl) (fun x u hu => by simp [RawV.cells] at hu; rcases hu with rfl | rfl | rfl <;> rfl)
theorem kRaw_plain : kRaw.Plain := Kn.plain_enc
theorem rawElem : Elem Tryz.prog 171 170 kRaw 32 :=
  Elem.mk_ (z := .agg #[.string ⟨#[]⟩, .int .i64 0, .int .i64 0]) Tryz.underlying171 (by kernel_rfl) rfl (by omega)
def kvR (r : RawV) : Key × Int := (r.name.data.toList, r.hi * 4294967296 + r.lo)
structure RawAt (w : World) (a : Addr) (x : RawV) : Prop where
  c0 : w.cell? a = some (.string x.name)
  c1 : w.cell? ⟨a.block, a.off + 1, none⟩ = some (.int .i64 x.hi)
  c2 : w.cell? ⟨a.block, a.off + 2, none⟩ = some (.int .i64 x.lo)
theorem raw_at {P : Nat → Prop} {w : World} {A : Option Addr} {xs : List RawV} (h : Row kRaw P w A xs) (i : Nat) (hi : i < xs.length) : ∃ a, A = some a ∧ RawAt w (a.add (i * 3)) xs[i] := by
  obtain ⟨a, cs, hA, hP, hr, hc⟩ := h.at_ i hi
  obtain rfl : cs = xs[i].cells := hr
  exact ⟨a, hA, hc 0 _ rfl, by rw [← add_off _ _ 1 (by omega)]; exact hc 1 _ rfl, by rw [← add_off _ _ 2 (by omega)]; exact hc 2 _ rfl⟩
/-- the parts are such that none overflows -/
structure RawOk (j : Nat) (r : RawV) : Prop where
  h0 : 0 ≤ r.hi
  h1 : r.hi ≤ 2147483648 * j
  l0 : 0 ≤ r.lo
  l1 : r.lo < 4294967296
theorem RawOk.mono {j k : Nat} {r : RawV} (h : RawOk j r) (hjk : j ≤ k) : RawOk k r := ⟨h.h0, by have := h.h1; omega, h.l0, h.l1⟩
/-- an amount added to a row -/
def rawAdd (r : RawV) (v : Int) : RawV := ⟨r.name, r.hi + v / 4294967296 + (r.lo + v % 4294967296) / 4294967296, (r.lo + v % 4294967296) % 4294967296⟩
theorem rawAdd_kv (r : RawV) (v : Int) : kvR (rawAdd r v) = ((kvR r).1, (kvR r).2 + v) := by
  unfold kvR rawAdd
  simp only [Prod.mk.injEq, true_and]
  omega
theorem rawAdd_ok {j : Nat} {r : RawV} {v : Int} (h : RawOk j r) (h0 : 0 ≤ v) (h1 : v ≤ 9223372036854775807) : RawOk (j + 1) (rawAdd r v) := by
  have := h.h0
  have := h.h1
  have := h.l0
  have := h.l1
  unfold rawAdd
  exact ⟨by show 0 ≤ r.hi + v / 4294967296 + (r.lo + v % 4294967296) / 4294967296; omega, by show r.hi + v / 4294967296 + (r.lo + v % 4294967296) / 4294967296 ≤ _; omega, by show 0 ≤ (r.lo + v % 4294967296) % 4294967296; omega, by show (r.lo + v % 4294967296) % 4294967296 < _; omega⟩
theorem addR_set : ∀ (R : List RawV) (i : Nat) (hi : i < R.length) (v : Int), ((R.map kvR).map Prod.fst).Nodup → addR (kvR R[i]).1 v (R.map kvR) = (R.set i (rawAdd R[i] v)).map kvR
  | r :: R, 0, _, v, _ => by
    simp only [List.getElem_cons_zero, List.map_cons, List.set_cons_zero, addR, if_pos, rawAdd_kv]
  | r :: R, i + 1, hi, v, h => by
    rw [List.map_cons, List.map_cons, List.nodup_cons] at h
    have hi' : i < R.length := by simpa using hi
    simp only [List.getElem_cons_succ, List.map_cons, List.set_cons_succ]
    unfold addR
    rw [if_neg, addR_set R i hi' v h.2]
    intro e
    apply h.1
    rw [e]
    exact List.mem_map_of_mem (List.mem_map_of_mem (List.getElem_mem _))
theorem addR_new : ∀ (R : List (Key × Int)) (k : Key) (v : Int), k ∉ R.map Prod.fst → addR k v R = R ++ [(k, v)]
  | [], k, v, _ => rfl
  | p :: R, k, v, h => by
    rw [List.map_cons, List.mem_cons, not_or] at h
    unfold addR
    rw [if_neg (fun e => h.1 e.symm), addR_new R k v h.2]; rfl
/-- the rows while add goes on -/
structure RowsAt (base : Nat) (w0 wr : World) (lv : Value) (j : Nat) (R : List RawV) (T : List (Key × Int)) : Prop where
  own : Own kRaw 170 base (fun _ => False) wr lv R
  below : Below base w0 wr
  eq : R.map kvR = T
  nodup : (T.map Prod.fst).Nodup
  ok : ∀ r ∈ R, RawOk j r
  len : R.length ≤ j + 1
/-- where the row with a name is, of the first j -/
def FoundTo (R : List RawV) (T : ByteArray) (j : Nat) (at_ : Int) : Prop := (at_ = -1 ∧ ∀ i (h : i < R.length), i < j → R[i].name ≠ T) ∨ ∃ (i : Nat) (h : i < R.length), at_ = i ∧ R[i].name = T
theorem foundTo_zero (R : List RawV) (T : ByteArray) : FoundTo R T 0 (-1) := .inl ⟨rfl, fun i h h2 => absurd h2 (by omega)⟩
theorem FoundTo.miss {R : List RawV} {T : ByteArray} {j : Nat} {at_ : Int} (h : FoundTo R T j at_) (hj : j < R.length) (hn : R[j].name ≠ T) : FoundTo R T (j + 1) at_ := by
  rcases h with ⟨h1, h2⟩ | h
  · refine .inl ⟨h1, fun i hi hij => ?_⟩
    by_cases e : i = j
    · subst e; exact hn
    · exact h2 i hi (by omega)
  · exact .inr h
theorem foundTo_hit {R : List RawV} {T : ByteArray} {j : Nat} (hj : j < R.length) (hn : R[j].name = T) (k : Nat) : FoundTo R T k (j : Int) := .inr ⟨j, hj, rfl, hn⟩
/-- ahead of the writes: the name's row is there -/
structure AddMid (base : Nat) (w0 wx : World) (lv : Value) (j i : Nat) (R1 : List RawV) (T : ByteArray) (v : Int) (old : List (Key × Int)) : Prop where
  own : Own kRaw 170 base (fun _ => False) wx lv R1
  below : Below base w0 wx
  lt : i < R1.length
  name : R1[i].name = T
  nodup : ((R1.map kvR).map Prod.fst).Nodup
  ok : ∀ r ∈ R1, RawOk j r
  len : R1.length ≤ j + 2
  new : addR T.data.toList v old = (R1.set i (rawAdd R1[i] v)).map kvR
theorem AddMid.hit {base : Nat} {w0 wr : World} {lv : Value} {j i : Nat} {R : List RawV} {T : ByteArray} {v : Int} {old : List (Key × Int)} (h : RowsAt base w0 wr lv j R old) (hi : i < R.length) (hn : R[i].name = T) : AddMid base w0 wr lv j i R T v old := by
  refine ⟨h.own, h.below, hi, hn, by rw [h.eq]; exact h.nodup, h.ok, by have := h.len; omega, ?_⟩
  have := addR_set R i hi v (by rw [h.eq]; exact h.nodup)
  rw [h.eq] at this
  rw [← this]
  show _ = addR (R[i].name.data.toList) v old
  rw [hn]
theorem AddMid.miss {base : Nat} {w0 wr w' wx : World} {lv lv' : Value} {j : Nat} {R : List RawV} {T : ByteArray} {v : Int} {old : List (Key × Int)} (h : RowsAt base w0 wr lv j R old) (hb : base ≤ w0.heap.size) (hx : Below wr.heap.size wr wx) (hn : ∀ i (h : i < R.length), R[i].name ≠ T)
    (ha : Appended kRaw 170 base (fun _ => False) wx w' lv lv' (R ++ [⟨T, 0, 0⟩])) : AddMid base w0 w' lv' j R.length (R ++ [⟨T, 0, 0⟩]) T v old := by
  have hbr := h.below.size
  have hnk : T.data.toList ∉ old.map Prod.fst := by
    rw [← h.eq]
    intro hm
    obtain ⟨p, hp, he⟩ := List.mem_map.1 hm
    obtain ⟨r, hr, rfl⟩ := List.mem_map.1 hp
    obtain ⟨i, hi, rfl⟩ := List.getElem_of_mem hr
    exact hn i hi (bytes_inj he)
  refine ⟨ha.own, ha.below (h.below.trans (hx.mono (by omega))) (by have := hx.size; omega) (fun q hq => (h.own.block_lt q hq).1), by simp, by simp, ?_, ?_, by rw [List.length_append]; have := h.len; simp; omega, ?_⟩
  · rw [List.map_append, List.map_append, h.eq]
    refine List.nodup_append.2 ⟨h.nodup, by simp, ?_⟩
    intro x hx y hy e
    simp only [List.map_cons, List.map_nil, List.mem_singleton] at hy
    subst hy
    subst e
    exact hnk hx
  · intro r hr
    rcases List.mem_append.1 hr with hr | hr
    · exact h.ok r hr
    · rw [List.mem_singleton.1 hr]
      exact ⟨Int.le_refl _, by show (0 : Int) ≤ _; omega, Int.le_refl _, by show (0 : Int) < _; omega⟩
  · rw [addR_new old _ _ hnk, List.set_append_right _ _ (Nat.le_refl _)]
    simp only [Nat.sub_self, List.set_cons_zero, List.getElem_append_right (Nat.le_refl R.length), List.getElem_cons_zero, List.map_append, List.map_cons, List.map_nil, h.eq, rawAdd_kv]
    simp [kvR]
section
variable {base g n c i : Nat} {w : World} {M : List RawV} {x : RawV}
theorem raw_put1 (h : Own kRaw 170 base (fun _ => False) w (.slice (some ⟨g, 0, none⟩) n c) (M.set i x)) (hi : i < M.length) (v : Int) : Own kRaw 170 base (fun _ => False) (w.setCell ⟨g, i * 3 + 1, none⟩ (.int .i64 v)) (.slice (some ⟨g, 0, none⟩) n c) (M.set i ⟨x.name, v, x.lo⟩) := by
  have := Own.setEnc (f := RawV.cells) (n := 3) h i (by simpa using hi) 1 (by omega) (.int .i64 v) ⟨x.name, v, x.lo⟩ (by rw [List.getElem_set_self]; rfl)
  rwa [List.set_set] at this
theorem raw_put2 (h : Own kRaw 170 base (fun _ => False) w (.slice (some ⟨g, 0, none⟩) n c) (M.set i x)) (hi : i < M.length) (v : Int) : Own kRaw 170 base (fun _ => False) (w.setCell ⟨g, i * 3 + 2, none⟩ (.int .i64 v)) (.slice (some ⟨g, 0, none⟩) n c) (M.set i ⟨x.name, x.hi, v⟩) := by
  have := Own.setEnc (f := RawV.cells) (n := 3) h i (by simpa using hi) 2 (by omega) (.int .i64 v) ⟨x.name, x.hi, v⟩ (by rw [List.getElem_set_self]; rfl)
  rwa [List.set_set] at this
theorem raw_put_at (h : Own kRaw 170 base (fun _ => False) w (.slice (some ⟨g, 0, none⟩) n c) (M.set i x)) (hi : i < M.length) : w.cell? ⟨g, i * 3 + 1, none⟩ = some (.int .i64 x.hi) ∧ w.cell? ⟨g, i * 3 + 2, none⟩ = some (.int .i64 x.lo) ∧ (∀ j, w.frozen? ⟨g, j, none⟩ = false) ∧ base ≤ g := by
  have hl : i < (M.set i x).length := by simpa using hi
  obtain ⟨a1, ha1, hat⟩ := raw_at (own_rows h) i hl
  cases ha1
  rw [add_new, List.getElem_set_self] at hat
  obtain ⟨g', cur, hg', hb, hblk⟩ := own_blk h (fun e => by rw [e] at hl; simp at hl)
  cases hg'
  exact ⟨hat.c1, hat.c2, fun j => frozen_of_row w g j cur 170 hblk, hb⟩
end
theorem wrap_quo {v : Int} (h0 : 0 ≤ v) (h1 : v ≤ 9223372036854775807) : wrap64 (v.tdiv 4294967296) = v / 4294967296 := by
  rw [Int.tdiv_eq_ediv_of_nonneg h0]; unfold wrap64; omega
theorem wrap_rem {v : Int} (h0 : 0 ≤ v) (h1 : v ≤ 9223372036854775807) : wrap64 (v.tmod 4294967296) = v % 4294967296 := by
  rw [Int.tmod_eq_emod_of_nonneg h0]; unfold wrap64; omega
theorem wrap_id {v : Int} (h0 : 0 ≤ v) (h1 : v ≤ 9223372036854775807) : wrap64 v = v := by unfold wrap64; omega
end Go.Proofs.YtalkdddeiebfmaaGreatDoor
/- The document's add: the walk. -/
namespace Go.Proofs.YtalkdddeiebfmaaGreatDoor
open Go.RowKit

def AddPost (base : Nat) (w0 : World) (j : Nat) (T : List (Key × Int)) (e : Ending) (w' : World) : Prop :=
  ∃ A c R, e = .returned (.slice A (List.length R) c) ∧ RowsAt base w0 w' (.slice A R.length c) j R T
set_option maxRecDepth 100000 in
set_option maxHeartbeats 2000000 in
theorem radd_any (s : ByteArray) (hs : s.size ≤ 9) (xs : List Amt) (nx : Nat) (hnx : xs.length = nx) (B : Option Addr) (cb : Nat) (base : Nat) (w0 w : World) (hb0 : base ≤ w0.heap.size) (j0 : Nat) (R : List RawV) (A : Option Addr) (c : Nat) (T : List (Key × Int))
    (hR : RowsAt base w0 w (.slice A R.length c) j0 R T) (hx : Row kAmt (fun k => k < base) w B xs) (hok : ∀ a ∈ xs, AmtOk a) (hpos : ∀ a ∈ xs, 0 ≤ a.val) (hj : j0 + nx ≤ 1073741824) :
    Calls Tryz.prog 130 #[.slice A R.length c, .slice B nx cb, .string s] w (AddPost base w0 (j0 + nx) (rowsR T (xs.map (preA s.data.toList)))) := by
  have HR := Lib.hid hR
  have HX := Lib.hid hx
  have HOK := Lib.hid hok
  have HPOS := Lib.hid hpos
  have HNX := Lib.hid hnx
  have HSZ := Lib.hid hR.below.size
  clear hR hx hok hpos hnx
  go_enter Tryz.func130, Tryz.ntmps130
  go_wp2
  go_loopw [0, 7] (fun lv iv wr => ∃ (k n : Nat) (A : Option Addr) (Rk : List RawV), iv = .int .i64 k ∧ lv = .slice A Rk.length n ∧ k ≤ nx ∧ Hid (Below base w wr) ∧ Hid (RowsAt base w0 wr lv (j0 + k) Rk (rowsR T ((xs.take k).map (preA s.data.toList))))) (fun _ iv _ => nx - (intOf iv).toNat)
  case atStart => exact ⟨0, c, A, R, rfl, rfl, Nat.zero_le _, Below.refl _ _, HR.out⟩
  case round =>
    obtain ⟨k, n, A1, Rk, rfl, rfl, hk, hbr, hrk⟩ := hrel
    obtain ⟨wo, rfl⟩ : ∃ wo, wo = wr := ⟨_, rfl⟩
    by_cases hlt : k < nx
    · have hltx : k < xs.length := by rw [HNX.out]; exact hlt
      obtain ⟨a, rfl, -, m0, m1⟩ := amt_at (HX.out.keep fun q hq hl => hbr.out.block q hq) k hltx
      have HST := Lib.hid (show rowsR T ((xs.take (k + 1)).map (preA s.data.toList)) = addR (preA s.data.toList xs[k]).1 (preA s.data.toList xs[k]).2 (rowsR T ((xs.take k).map (preA s.data.toList))) by
        rw [List.take_succ_eq_append_getElem hltx, List.map_append]
        unfold rowsR
        rw [List.foldl_append]; rfl)
      have hyo := HOK.out _ (List.getElem_mem hltx)
      have hyp := HPOS.out _ (List.getElem_mem hltx)
      obtain ⟨y, hy⟩ : ∃ y, xs[k] = y := ⟨_, rfl⟩
      rw [hy] at m0 m1 HST hyo hyp
      have HY := Lib.hid hy
      clear hy
      have hcat : s.size + y.name.size ≤ 9223372036854775807 := by have := hyo.name; omega
      have hy2 := hyo.hi
      obtain ⟨N, hN⟩ : ∃ N, s ++ y.name = N := ⟨_, rfl⟩
      have HNM := Lib.hid (show (preA s.data.toList y).1 = N.data.toList by rw [← hN]; simp [preA])
      have HLE := Lib.hid hrk.out.len
      clear hyo
      go_wp2
      clear hN
      go_loopw [9, 10] (fun av jv wr => ∃ (j : Nat) (t : Int), jv = .int .i64 j ∧ av = .int .i64 t ∧ j ≤ Rk.length ∧ Hid (FoundTo Rk N j t) ∧ Hid (Below wo.heap.size wo wr)) (fun _ jv _ => Rk.length - (intOf jv).toNat)
      case atStart => exact ⟨0, -1, rfl, rfl, Nat.zero_le _, foundTo_zero _ _, Below.refl _ _⟩
      case round =>
        obtain ⟨j, t, rfl, rfl, hjl, hft, hbp⟩ := hrel
        obtain ⟨wp, rfl⟩ : ∃ wp, wp = wr := ⟨_, rfl⟩
        have hlr : Rk.length ≤ 1073741825 := by have := HLE.out; omega
        by_cases hltj : j < Rk.length
        · have hlt2 : (j : Int) < (Rk.length : Int) := by omega
          obtain ⟨b, rfl, q0, -, -⟩ := raw_at ((own_rows hrk.out.own).below hbp.out) j hltj
          by_cases he : Rk[j].name = N
          · have e1 : (Rk[j].name.toList == N.toList) = true := by rw [he]; simp
            have HF := Lib.hid (foundTo_hit (k := j + 1) hltj he)
            clear he
            go_wp2
            go_roundw
            case rel => exact ⟨j + 1, j, by go_num, rfl, hltj, HF.out, hbp.out⟩
            case measure => simp [intOf]; omega
          · have e1 : (Rk[j].name.toList == N.toList) = false := by
              rw [Bool.eq_false_iff]
              intro h
              exact he (bytes_inj (by rw [← toList_eq, ← toList_eq]; simpa using h))
            have HF := Lib.hid (hft.out.miss hltj he)
            clear he
            go_wp2
            go_roundw
            case rel => exact ⟨j + 1, t, by go_num, rfl, hltj, HF.out, hbp.out⟩
            case measure => simp [intOf]; omega
        · have hge2 : ¬ ((j : Int) < (Rk.length : Int)) := by omega
          have hwb : base ≤ wo.heap.size := by have := hbr.out.size; have := HSZ.out; omega
          have HP := Lib.hid hbp.out
          have HBP := Lib.hid (hbr.out.trans (hbp.out.mono hwb))
          have hwp := hbp.out.size
          have hjl2 : j = Rk.length := by omega
          have HFT := Lib.hid hft.out
          rw [hjl2] at HFT
          clear hft hbp hjl2
          go_upto_if 39 with fail
          go_cut [0, 9] (fun lv av wx => ∃ (i n1 : Nat) (B1 : Option Addr) (R1 : List RawV), lv = .slice B1 R1.length n1 ∧ av = .int .i64 i ∧ Hid (Below base w wx) ∧ Hid (AddMid base w0 wx lv (j0 + k) i R1 N y.val (rowsR T ((xs.take k).map (preA s.data.toList)))))
          case first =>
            rcases HFT.out with ⟨rfl, hmiss⟩ | ⟨i, hi, rfl, hin⟩
            · have HMISS := Lib.hid (show ∀ i (h : i < Rk.length), Rk[i].name ≠ N from fun i h => hmiss i h h)
              have h32 : (Rk.length + 1) * 32 ≤ 140737488355328 := by omega
              have HRP := Lib.hid (show Own kRaw 170 base (fun _ => False) wp (.slice A1 Rk.length n) Rk from hrk.out.own.below HP.out)
              clear hmiss HFT
              go_wp2_with (at_builtin; refine wpList_app_plain rawElem kRaw_plain base rfl (.tmp 42) (.tmp 45) rfl (v := .slice A1 Rk.length n) (xs := Rk) (ys := [⟨N, 0, 0⟩]) rfl (HRP.out.alloc _) rfl rfl (Row.newOnePlain (cs := RawV.cells ⟨N, 0, 0⟩) kRaw_plain rfl) (by exact h32) (by simp; omega) ?_; intro A7 c7 w7 happ; have HA7 := Lib.hid happ; clear happ)
              go_meet
              have hl1 : (Rk ++ [(⟨N, 0, 0⟩ : RawV)]).length = Rk.length + 1 := by rw [List.length_append]; rfl
              exact ⟨Rk.length, c7, A7, Rk ++ [⟨N, 0, 0⟩], by rw [hl1], rfl, HA7.out.below (HBP.out.alloc (by omega) _) (by simp; omega) (fun q hq => (HRP.out.block_lt q hq).1), by have := AddMid.miss (v := y.val) hrk.out hb0 (HP.out.alloc hwp _) HMISS.out HA7.out; exact this⟩
            · have hneg : decide ((i : Int) < 0) = false := by simp
              have HMID := Lib.hid (AddMid.hit (v := y.val) (show RowsAt base w0 wp (.slice A1 Rk.length n) (j0 + k) Rk _ from ⟨hrk.out.own.below HP.out, hrk.out.below.trans (HP.out.mono hwb), hrk.out.eq, hrk.out.nodup, hrk.out.ok, hrk.out.len⟩) hi hin)
              clear HFT
              go_wp2
              go_meet
              exact ⟨i, n, A1, Rk, rfl, rfl, HBP.out, HMID.out⟩
          case rest =>
            obtain ⟨i, n1, B1, R1, rfl, rfl, hbw, hmid⟩ := hcut
            rename World => wx
            have HMID := Lib.hid hmid.out
            have HBW := Lib.hid hbw.out
            have HRO := Lib.hid (HMID.out.ok _ (List.getElem_mem HMID.out.lt))
            have hil := HMID.out.lt
            obtain ⟨g, cur, rfl, hgb, -⟩ := own_blk HMID.out.own (fun e => by rw [e] at hil; simp at hil)
            obtain ⟨r, hr⟩ : ∃ r, R1[i] = r := ⟨_, rfl⟩
            have HRE := Lib.hid hr
            have O0 := Lib.hid (show Own kRaw 170 base (fun _ => False) wx (.slice (some ⟨g, 0, none⟩) R1.length n1) (R1.set i r) from by rw [← hr, List.set_getElem_self]; exact HMID.out.own)
            rw [hr] at HRO
            clear hr
            obtain ⟨rh0, rh1, rl0, rl1⟩ := HRO.out
            have HW0 := Lib.hid HMID.out.below
            have hi0 : (0 : Int) ≤ (i : Int) := by omega
            have hi1 : (i : Int) < (R1.length : Int) := by omega
            have hjk : j0 + k ≤ 1073741824 := by omega
            have wa := wrap_quo hyp hy2
            have wb : wrap64 (r.hi + y.val / 4294967296) = r.hi + y.val / 4294967296 := wrap_id (by omega) (by omega)
            have wc := wrap_rem hyp hy2
            have wd : wrap64 (r.lo + y.val % 4294967296) = r.lo + y.val % 4294967296 := wrap_id (by omega) (by omega)
            go_upto_region 14 with fail
            obtain ⟨q1, q2, hfz, -⟩ := raw_put_at O0.out hil
            obtain ⟨a2, ha2, -, -, my⟩ := amt_at (HX.out.keep fun q hq hl => HBW.out.block q hq) k hltx
            cases ha2
            rw [HY.out] at my
            go_still_tail 16, (by kernel_rfl)
            have d1 : wx.drew.cell? ⟨g, i * 3 + 1, none⟩ = some (.int .i64 r.hi) := q1
            have df : ∀ j, wx.drew.frozen? ⟨g, j, none⟩ = false := hfz
            change wpList _ _ _ _ _ wx.drew
            go_upto_region 15 with fail
            clear q1 q2 hfz my d1 df
            have O1 := Lib.hid ((raw_put1 O0.out hil (r.hi + y.val / 4294967296)).below (Below.refl _ _).drew)
            have HB1 := Lib.hid (show Below base w (wx.setCell ⟨g, i * 3 + 1, none⟩ (.int .i64 (r.hi + y.val / 4294967296))).drew from (HBW.out.setCell hgb _).drew)
            have HW1 := Lib.hid (show Below base w0 (wx.setCell ⟨g, i * 3 + 1, none⟩ (.int .i64 (r.hi + y.val / 4294967296))).drew from (HW0.out.setCell hgb _).drew)
            generalize hw1 : (wx.setCell ⟨g, i * 3 + 1, none⟩ (.int .i64 (r.hi + y.val / 4294967296))).drew = w1 at O1 HB1 HW1 ⊢
            clear hw1 wa wb
            obtain ⟨q1, q2, hfz, -⟩ := raw_put_at O1.out hil
            obtain ⟨a3, ha3, -, -, my⟩ := amt_at (HX.out.keep fun q hq hl => HB1.out.block q hq) k hltx
            cases ha3
            rw [HY.out] at my
            go_still_tail 16, (by kernel_rfl)
            have d2 : w1.drew.cell? ⟨g, i * 3 + 2, none⟩ = some (.int .i64 r.lo) := q2
            have df : ∀ j, w1.drew.frozen? ⟨g, j, none⟩ = false := hfz
            change wpList _ _ _ _ _ w1.drew
            go_upto_region 16 with fail
            clear q1 q2 hfz my d2 df
            have O2 := Lib.hid ((raw_put2 O1.out hil (r.lo + y.val % 4294967296)).below (Below.refl _ _).drew)
            have HB2 := Lib.hid (show Below base w (w1.setCell ⟨g, i * 3 + 2, none⟩ (.int .i64 (r.lo + y.val % 4294967296))).drew from (HB1.out.setCell hgb _).drew)
            have HW2 := Lib.hid (show Below base w0 (w1.setCell ⟨g, i * 3 + 2, none⟩ (.int .i64 (r.lo + y.val % 4294967296))).drew from (HW1.out.setCell hgb _).drew)
            generalize hw2 : (w1.setCell ⟨g, i * 3 + 2, none⟩ (.int .i64 (r.lo + y.val % 4294967296))).drew = w2 at O2 HB2 HW2 ⊢
            clear hw2 wc wd HB1 HW1 O1
            obtain ⟨h1, hh1⟩ : ∃ h1, r.hi + y.val / 4294967296 = h1 := ⟨_, rfl⟩
            obtain ⟨l1, hl1⟩ : ∃ l1, r.lo + y.val % 4294967296 = l1 := ⟨_, rfl⟩
            have HH1 := Lib.hid hh1
            have HL1 := Lib.hid hl1
            have hh1r : 0 ≤ h1 ∧ h1 ≤ 2147483648 * ((j0 + k : Nat) : Int) + 2147483648 := by omega
            have hl1r : 0 ≤ l1 ∧ l1 ≤ 8589934592 := by omega
            rw [hh1, hl1] at O2
            obtain ⟨hh2, hh3⟩ := hh1r
            obtain ⟨hl2, hl3⟩ := hl1r
            clear hh1 hl1
            have we := wrap_quo hl2 (show l1 ≤ 9223372036854775807 by omega)
            have wf : wrap64 (h1 + l1 / 4294967296) = h1 + l1 / 4294967296 := wrap_id (by omega) (by omega)
            have wg := wrap_rem hl2 (show l1 ≤ 9223372036854775807 by omega)
            obtain ⟨q1, q2, hfz, -⟩ := raw_put_at O2.out hil
            go_still_tail 16, (by kernel_rfl)
            have d1 : w2.drew.cell? ⟨g, i * 3 + 1, none⟩ = some (.int .i64 h1) := q1
            have df : ∀ j, w2.drew.frozen? ⟨g, j, none⟩ = false := hfz
            change wpList _ _ _ _ _ w2.drew
            go_upto_region 17 with fail
            clear q1 q2 hfz d1 df
            have O3 := Lib.hid ((raw_put1 O2.out hil (h1 + l1 / 4294967296)).below (Below.refl _ _).drew)
            have HB3 := Lib.hid (show Below base w (w2.setCell ⟨g, i * 3 + 1, none⟩ (.int .i64 (h1 + l1 / 4294967296))).drew from (HB2.out.setCell hgb _).drew)
            have HW3 := Lib.hid (show Below base w0 (w2.setCell ⟨g, i * 3 + 1, none⟩ (.int .i64 (h1 + l1 / 4294967296))).drew from (HW2.out.setCell hgb _).drew)
            generalize hw3 : (w2.setCell ⟨g, i * 3 + 1, none⟩ (.int .i64 (h1 + l1 / 4294967296))).drew = w3 at O3 HB3 HW3 ⊢
            clear hw3 we wf O2 HB2 HW2
            obtain ⟨q1, q2, hfz, -⟩ := raw_put_at O3.out hil
            go_wp2
            go_roundw
            case rel =>
              have hadd : (⟨r.name, h1 + l1 / 4294967296, l1 % 4294967296⟩ : RawV) = rawAdd R1[i] y.val := by rw [HRE.out, ← HH1.out, ← HL1.out]; rfl
              have hO := raw_put2 O3.out hil (l1 % 4294967296)
              rw [show (⟨(⟨r.name, h1 + l1 / 4294967296, l1⟩ : RawV).name, (⟨r.name, h1 + l1 / 4294967296, l1⟩ : RawV).hi, l1 % 4294967296⟩ : RawV) = rawAdd R1[i] y.val from hadd] at hO
              refine ⟨k + 1, n1, some ⟨g, 0, none⟩, R1.set i (rawAdd R1[i] y.val), by go_num, by rw [List.length_set], hlt, HB3.out.setCell hgb _, ?_⟩
              have heq : (R1.set i (rawAdd R1[i] y.val)).map kvR = rowsR T ((xs.take (k + 1)).map (preA s.data.toList)) := by
                rw [HST.out, HNM.out, ← HMID.out.new]; rfl
              refine ⟨hO, HW3.out.setCell hgb _, heq, ?_, fun r' hr' => ?_, by rw [List.length_set]; have := HMID.out.len; omega⟩
              · rw [HST.out]; exact addR_nodup _ _ _ hrk.out.nodup
              · rcases List.mem_or_eq_of_mem_set hr' with h | rfl
                · exact (HMID.out.ok r' h).mono (by omega)
                · exact rawAdd_ok (HMID.out.ok _ (List.getElem_mem _)) hyp hy2
            case measure => simp [intOf]; omega
    · have hge : ¬ ((k : Int) < (nx : Int)) := by omega
      have HF := Lib.hid hrk.out
      rw [List.take_of_length_le (by rw [HNX.out]; omega), show k = nx by omega] at HF
      go_wp2
      go_ret
      exact ⟨A1, n, Rk, rfl, HF.out⟩
end Go.Proofs.YtalkdddeiebfmaaGreatDoor
/- The document's Uses: rows counted, amounts put in their places. -/
namespace Go.Proofs.YtalkdddeiebfmaaGreatDoor
open Go.RowKit

theorem RowsAt.move_below {base : Nat} {w0 wr w' : World} {lv : Value} {j : Nat} {R : List RawV} {T : List (Key × Int)} (h : RowsAt base w0 wr lv j R T) (hb0 : base ≤ w0.heap.size) (hb : Below wr.heap.size wr w') : RowsAt base w0 w' lv j R T :=
  ⟨h.own.below hb, h.below.trans (hb.mono (Nat.le_trans hb0 h.below.size)), h.eq, h.nodup, h.ok, h.len⟩
theorem rows_start (w0 : World) : RowsAt w0.heap.size w0 (w0.alloc (.cells #[.string ⟨#[99, 111, 117, 110, 116]⟩, .int .i64 0, .int .i64 1000] 170)) (.slice (some ⟨w0.heap.size, 0, none⟩) 1 1) 0 [⟨⟨#[99, 111, 117, 110, 116]⟩, 0, 1000⟩] [(countK, 1000)] := by
  refine ⟨⟨RawV.cells ⟨⟨#[99, 111, 117, 110, 116]⟩, 0, 1000⟩, ⟨rfl, .inr ⟨w0.heap.size, 1, _, rfl, Nat.le_refl _, heap_alloc_new _ _, Nat.le_refl _, by unfold maxLen; omega, rfl, rfl⟩⟩, Flat.single rfl⟩, (Below.refl _ _).alloc (Nat.le_refl _) _, rfl, by simp, fun r hr => ?_, Nat.le_refl _⟩
  rw [List.mem_singleton.1 hr]
  exact ⟨Int.le_refl _, by show (0 : Int) ≤ _; omega, by show (0 : Int) ≤ 1000; omega, by show (1000 : Int) < _; omega⟩
theorem rowsR_append (T l r : List (Key × Int)) : rowsR T (l ++ r) = rowsR (rowsR T l) r := by unfold rowsR; rw [List.foldl_append]
theorem allA_take {ps : List PartV} {k : Nat} (h : k < ps.length) : allA (ps.take (k + 1)) = allA (ps.take k) ++ (ps[k].req.map (preA reqK) ++ ps[k].lim.map (preA limK)) := by
  rw [List.take_succ_eq_append_getElem h]
  unfold allA
  rw [List.flatMap_append]
  simp
theorem any_neg_pre (s : ByteArray) (L : List Amt) : (L.map (preB s)).any negA = L.any negA := by rw [List.any_map]; rfl
theorem allB_neg_step {ps : List PartV} {k : Nat} (h : k < ps.length) (h0 : (allB (ps.take k)).any negA = false) (h1 : ps[k].req.any negA = false) (h2 : ps[k].lim.any negA = false) : (allB (ps.take (k + 1))).any negA = false := by
  rw [allB_take h, List.any_append, List.any_append, any_neg_pre, any_neg_pre, h0, h1, h2]; rfl
theorem allB_neg_of {ps : List PartV} {k : Nat} (h : k < ps.length) (h1 : ps[k].req.any negA = true ∨ ps[k].lim.any negA = true) : (allB ps).any negA = true := by
  have hs : (allB (ps.take (k + 1))).any negA = true := by
    rw [allB_take h, List.any_append, List.any_append, any_neg_pre, any_neg_pre]
    rcases h1 with h | h <;> rw [h] <;> simp
  have ha : allB ps = allB (ps.take (k + 1)) ++ allB (ps.drop (k + 1)) := by
    unfold allB
    rw [← List.flatMap_append, List.take_append_drop]
  rw [ha, List.any_append, hs]; rfl
theorem pos_of_neg {L : List Amt} (h : L.any negA = false) : ∀ a ∈ L, 0 ≤ a.val := fun a ha => by
  have := List.any_eq_false.1 h a ha
  simpa [negA] using this
/-- the whole answer out of the rows -/
theorem uses_of_rows {ps : List PartV} {T : List (Key × Int)} (hn : (allB ps).any negA = false) (hT : T = rowsR [(countK, 1000)] (allA ps)) (h : T.any (fun p => decide (p.2 > 9223372036854775807)) = false) : usesV ps = (insR [] T, 0) := by
  rw [← refV_eq]
  unfold refV
  rw [hn, ← hT, h]; rfl
theorem uses_over_rows {ps : List PartV} {T : List (Key × Int)} (hn : (allB ps).any negA = false) (hT : T = rowsR [(countK, 1000)] (allA ps)) (h : T.any (fun p => decide (p.2 > 9223372036854775807)) = true) : usesV ps = ([], 7) := by
  rw [← refV_eq]
  unfold refV
  rw [hn, ← hT, h]; rfl
theorem insR_take {T : List (Key × Int)} {i : Nat} (h : i < T.length) : insR [] (T.take (i + 1)) = addK T[i].1 T[i].2 (insR [] (T.take i)) := by
  rw [List.take_succ_eq_append_getElem h]
  unfold insR
  rw [List.foldl_append]; rfl
/-- two neighbours change their places -/
theorem shift_set {S : List Amt} {j : Nat} {a : Amt} (hj : j < S.length) : ((S.take (j + 1) ++ a :: S.drop (j + 1)).set (j + 1) S[j]).set j a = S.take j ++ a :: S.drop j := by
  have h1 : S.take (j + 1) = S.take j ++ [S[j]] := List.take_succ_eq_append_getElem hj
  have h2 : S.drop j = S[j] :: S.drop (j + 1) := List.drop_eq_getElem_cons hj
  have hl : (S.take j).length = j := by rw [List.length_take]; omega
  rw [h1, h2, List.append_assoc]
  rw [List.set_append_right _ _ (by rw [hl]; omega), List.set_append_right _ _ (by rw [hl]; exact Nat.le_refl _), hl]
  have e1 : j + 1 - j = 1 := by omega
  have e2 : j - j = 0 := by omega
  rw [e1, e2]
  rfl
theorem own_put {base g n c i : Nat} {w : World} {M : List Amt} (h : Own kAmt 45 base (fun _ => False) w (.slice (some ⟨g, 0, none⟩) n c) M) (hi : i < M.length) (y : Amt) :
    Own kAmt 45 base (fun _ => False) ((w.setCell ⟨g, i * 2, none⟩ (.string y.name)).setCell ⟨g, i * 2 + 1, none⟩ (.int .i64 y.val)) (.slice (some ⟨g, 0, none⟩) n c) (M.set i y) := by
  have h1 := Own.setEnc (f := Amt.cells) (n := 2) h i hi 0 (by omega) (.string y.name) ⟨y.name, M[i].val⟩ rfl
  have h2 := Own.setEnc (f := Amt.cells) (n := 2) h1 i (by simpa using hi) 1 (by omega) (.int .i64 y.val) y (by rw [List.getElem_set_self]; rfl)
  rwa [List.set_set] at h2
/-- the amount's place has been found -/
theorem place_found {S : List Amt} {j : Nat} {a : Amt} (hasc : AscK (S.map kvOf)) (hl : ∀ (h : 0 < j) (h2 : j - 1 < S.length), S[j - 1].name.data.toList < a.name.data.toList) (hr : ∀ p ∈ S.drop j, a.name.data.toList < p.name.data.toList) (hj : j ≤ S.length) :
    addK a.name.data.toList a.val (S.map kvOf) = (S.take j ++ a :: S.drop j).map kvOf := by
  have hd : S.map kvOf = (S.take j).map kvOf ++ (S.drop j).map kvOf := by rw [← List.map_append, List.take_append_drop]
  rw [hd, addK_at]
  · rw [List.map_append, List.map_cons]; rfl
  · intro p hp
    obtain ⟨x, hx, rfl⟩ := List.mem_map.1 hp
    obtain ⟨i, hi, rfl⟩ := List.getElem_of_mem hx
    rw [List.length_take] at hi
    rw [List.getElem_take]
    have h0 := hl (by omega) (by omega)
    by_cases e : i = j - 1
    · subst e; exact h0
    · have hpw := List.pairwise_iff_getElem.1 hasc i (j - 1) (by rw [List.length_map]; omega) (by rw [List.length_map]; omega) (by omega)
      rw [List.getElem_map, List.getElem_map] at hpw
      exact List.lt_trans hpw h0
  · intro p hp
    obtain ⟨x, hx, rfl⟩ := List.mem_map.1 hp
    exact hr x hx
/-- an amount's cells in a row of the call's own -/
structure OwnCell (w : World) (g i : Nat) (y : Amt) : Prop where
  c0 : w.cell? ⟨g, i * 2, none⟩ = some (.string y.name)
  c1 : w.cell? ⟨g, i * 2 + 1, none⟩ = some (.int .i64 y.val)
  fz : ∀ j, w.frozen? ⟨g, j, none⟩ = false
theorem own_cell {base g n c : Nat} {w : World} {M : List Amt} (h : Own kAmt 45 base (fun _ => False) w (.slice (some ⟨g, 0, none⟩) n c) M) (i : Nat) (hi : i < M.length) : OwnCell w g i M[i] := by
  obtain ⟨a1, ha1, -, l0, l1⟩ := amt_at (own_rows h) i hi
  cases ha1
  rw [add_new] at l0 l1
  obtain ⟨g', cur, hg', hb, hblk⟩ := own_blk h (fun e => by rw [e] at hi; simp at hi)
  cases hg'
  exact ⟨l0, l1, fun j => frozen_of_row w g j cur 45 hblk⟩
theorem own_name {base g n c i : Nat} {w : World} {M : List Amt} (h : Own kAmt 45 base (fun _ => False) w (.slice (some ⟨g, 0, none⟩) n c) M) (hi : i < M.length) (s : ByteArray) : OwnCell (w.setCell ⟨g, i * 2, none⟩ (.string s)) g i ⟨s, M[i].val⟩ := by
  have h1 := Own.setEnc (f := Amt.cells) (n := 2) h i hi 0 (by omega) (.string s) ⟨s, M[i].val⟩ rfl
  have := own_cell (M := M.set i ⟨s, M[i].val⟩) h1 i (by simpa using hi)
  rwa [List.getElem_set_self] at this
theorem take_drop_get {S : List Amt} {j : Nat} {a : Amt} (hj : j < S.length) (h : j < (S.take (j + 1) ++ a :: S.drop (j + 1)).length) : (S.take (j + 1) ++ a :: S.drop (j + 1))[j] = S[j] := by
  rw [List.getElem_append_left (by rw [List.length_take]; omega), List.getElem_take]
theorem take_drop_get2 {S : List Amt} {j : Nat} {a : Amt} (hj : j < S.length) (h : j + 1 < (S.take (j + 1) ++ a :: S.drop (j + 1)).length) : (S.take (j + 1) ++ a :: S.drop (j + 1))[j + 1] = a := by
  rw [List.getElem_append_right (by rw [List.length_take]; omega)]
  simp [List.length_take, Nat.min_eq_left (show j + 1 ≤ S.length by omega)]
theorem take_drop_len {S : List Amt} {j : Nat} {a : Amt} (hj : j ≤ S.length) : (S.take j ++ a :: S.drop j).length = S.length + 1 := by
  rw [List.length_append, List.length_cons, List.length_take, List.length_drop]; omega
theorem ins_asc (T : List (Key × Int)) : AscK (insR [] T) := asc_ins T [] (by simp [AscK])
end Go.Proofs.YtalkdddeiebfmaaGreatDoor
/- The document's Uses: the walk. -/
namespace Go.Proofs.YtalkdddeiebfmaaGreatDoor
open Go.RowKit

def RUsesPost (U : List Amt) (q : Nat) (eu : Int) (w : World) (e : Ending) (w' : World) : Prop :=
  ∃ A c, e = .returned (.tuple #[.slice A q c, .int .i64 eu]) ∧ Row kAmt (fun k => w.heap.size ≤ k) w' A U ∧ Below w.heap.size w w'
theorem RUsesPost.none {U : List Amt} {q : Nat} {eu x : Int} {ps : List PartV} {w w' : World} (h : usesV ps = ([], x)) (hU : (usesV ps).1.map amtOf = U) (hq : U.length = q) (he : (usesV ps).2 = eu) (hb : Below w.heap.size w w') : RUsesPost U q eu w (.returned (.tuple #[.slice none 0 0, .int .i64 x])) w' := by
  rw [h] at hU he
  subst hU
  subst he
  simp only [List.map_nil, List.length_nil] at hq
  subst hq
  exact ⟨Option.none, 0, rfl, Row.nil _ _ _ _, hb⟩
set_option maxRecDepth 100000 in
set_option maxHeartbeats 4000000 in
theorem ruses_any (o : ObjV) (U : List Amt) (q : Nat) (eu : Int) (hU : Hid ((usesV o.parts).1.map amtOf = U)) (hq : Hid (U.length = q)) (he : Hid ((usesV o.parts).2 = eu)) (hN : NamesOk o.parts) (hT : (allB o.parts).length ≤ 1073741824)
    (L : Option Addr) (n m : Nat) (A : Option Addr) (c : Nat) (P : Nat → Prop) (w : World) (hr : Row kPart P w A o.parts) (hlen : o.parts.length ≤ 1152921504606846976) (hps : PartsOk o.parts) :
    Calls Tryz.prog 94 #[.agg #[.string o.path, .string o.name, .slice L n m, .int .i64 o.prio, .int .i64 o.dl, .slice A o.parts.length c, .int .i64 o.ver]] w (RUsesPost U q eu w) := by
  have hb0 : Below w.heap.size w (w.alloc (.cells #[.string o.path, .string o.name, .slice L n m, .int .i64 o.prio, .int .i64 o.dl, .slice A o.parts.length c, .int .i64 o.ver] 26)) := (Below.refl _ _).alloc (Nat.le_refl _) _
  have hx1 := OBox.of (heap_alloc_new w (.cells #[.string o.path, .string o.name, .slice L n m, .int .i64 o.prio, .int .i64 o.dl, .slice A o.parts.length c, .int .i64 o.ver] 26))
  have hs0 : (w.alloc (.cells #[.string o.path, .string o.name, .slice L n m, .int .i64 o.prio, .int .i64 o.dl, .slice A o.parts.length c, .int .i64 o.ver] 26)).heap.size = w.heap.size + 1 := by simp
  have hrx : Row kPart (fun k => k < (w.alloc (.cells #[.string o.path, .string o.name, .slice L n m, .int .i64 o.prio, .int .i64 o.dl, .slice A o.parts.length c, .int .i64 o.ver] 26)).heap.size) (w.alloc (.cells #[.string o.path, .string o.name, .slice L n m, .int .i64 o.prio, .int .i64 o.dl, .slice A o.parts.length c, .int .i64 o.ver] 26)) A o.parts := (hr.lt.below hb0).mono fun k hk => by rw [hs0]; omega
  obtain ⟨w0, hw0⟩ : ∃ w0, w.alloc (.cells #[.string o.path, .string o.name, .slice L n m, .int .i64 o.prio, .int .i64 o.dl, .slice A o.parts.length c, .int .i64 o.ver] 26) = w0 := ⟨_, rfl⟩
  rw [hw0] at hb0 hx1 hs0 hrx
  have HB0 := Lib.hid hb0
  have X1 := Lib.hid hx1
  have RX := Lib.hid hrx
  have PS := Lib.hid hps
  have HN := Lib.hid hN
  have HT := Lib.hid hT
  have hxl : w.heap.size < w0.heap.size := by omega
  clear hb0 hx1 hs0 hrx hr hps hN hT
  go_enter Tryz.func94, Tryz.ntmps94
  go_upto_region 2 with fail
  clear hw0
  have HR0 := Lib.hid (rows_start w0)
  have HBW0 := Lib.hid (show Below w0.heap.size w0 (w0.alloc (.cells #[.string ⟨#[99, 111, 117, 110, 116]⟩, .int .i64 0, .int .i64 1000] 170)) from (Below.refl _ _).alloc (Nat.le_refl _) _)
  go_wp2
  go_loopw [4, 5] (fun lv iv wr => ∃ (k n4 : Nat) (A4 : Option Addr) (Rk : List RawV), iv = .int .i64 k ∧ lv = .slice A4 Rk.length n4 ∧ k ≤ o.parts.length ∧ Hid (RowsAt w0.heap.size w0 wr lv (allB (o.parts.take k)).length Rk (rowsR [(countK, 1000)] (allA (o.parts.take k)))) ∧ Hid ((allB (o.parts.take k)).any negA = false)) (fun _ iv _ => o.parts.length - (intOf iv).toNat)
  case atStart => exact ⟨0, 1, some ⟨w0.heap.size, 0, none⟩, [⟨⟨#[99, 111, 117, 110, 116]⟩, 0, 1000⟩], rfl, rfl, Nat.zero_le _, HR0.out, rfl⟩
  case round =>
    obtain ⟨k, n4, A4, Rk, rfl, rfl, hk, hrk, hneg⟩ := hrel
    obtain ⟨wo, rfl⟩ : ∃ wo, wo = wr := ⟨_, rfl⟩
    have HXO := Lib.hid (X1.out.below hrk.out.below)
    have HBE := Lib.hid (HB0.out.trans (hrk.out.below.mono HB0.out.size))
    have hsz := hrk.out.below.size
    by_cases hlt : k < o.parts.length
    · obtain ⟨a, R1, M1, cr1, cm1, rfl, ha⟩ := part_at RX.out k hlt
      have hpx := PS.out _ (List.getElem_mem hlt)
      have hnx := HN.out _ (List.getElem_mem hlt)
      have HSTA := Lib.hid (allA_take hlt)
      have HSTB := Lib.hid (show (allB (o.parts.take (k + 1))).length = (allB (o.parts.take k)).length + (o.parts[k].req.length + o.parts[k].lim.length) by rw [allB_take hlt]; simp)
      have HNEG1 := Lib.hid (fun h => allB_neg_of (ps := o.parts) hlt h)
      have HNEG2 := Lib.hid (fun h1 h2 => allB_neg_step (ps := o.parts) hlt hneg.out h1 h2)
      have HTK := Lib.hid (allB_len_take (ps := o.parts) (k + 1))
      obtain ⟨x, hx⟩ : ∃ x, o.parts[k] = x := ⟨_, rfl⟩
      rw [hx] at ha hpx hnx HSTA HSTB HNEG1 HNEG2
      clear hx
      have hx1 : (k : Int) < (o.parts.length : Int) := by omega
      have hk0 : (0 : Int) ≤ (k : Int) := by omega
      obtain ⟨nr, hnr⟩ : ∃ nr, x.req.length = nr := ⟨_, rfl⟩
      obtain ⟨nm, hnm⟩ : ∃ nm, x.lim.length = nm := ⟨_, rfl⟩
      have HNR := Lib.hid hnr
      have HNM := Lib.hid hnm
      have HNX := Lib.hid hnx
      have AR := Lib.hid ha.r1
      have AM := Lib.hid ha.r2
      obtain ⟨-, e1, e2, -, -, -, -⟩ := ha
      rw [hnr] at e1 hpx HSTB
      rw [hnm] at e2 hpx HSTB
      have E1 := Lib.hid e1
      have E2 := Lib.hid e2
      have e1 := (hrk.out.below.cell (World.block_lt_of_cell? _ _ E1.out)).trans E1.out
      have e2 := (hrk.out.below.cell (World.block_lt_of_cell? _ _ E2.out)).trans E2.out
      obtain ⟨hp1, hp2⟩ := hpx
      have hcnt : (allB (o.parts.take k)).length + (nr + nm) ≤ 1073741824 := by have := HTK.out; have := HT.out; have := HSTB.out; omega
      clear hnr hnm hnx
      obtain ⟨-, -, -, -, -, -, p5, -, -⟩ := HXO.out
      obtain ⟨b1, hb1⟩ : ∃ b1, x.req.any negA = b1 := ⟨_, rfl⟩
      obtain ⟨b2, hb2⟩ : ∃ b2, x.lim.any negA = b2 := ⟨_, rfl⟩
      have HB1 := Lib.hid hb1
      have HB2 := Lib.hid hb2
      clear hb1 hb2
      have T1 := True.intro
      cases b1
      · cases b2
        · go_upto_region 7 with (first
            | (go_at_call 129; have T2 := T1; clear T1; refine (rbelow_any R1 cr1 _ x.req nr HNR.out _ (AR.out.below hrk.out.below) (by omega)).mono ?_; rintro e w1 ⟨rfl, hb⟩; rw [HB1.out]; have HBA := Lib.hid hb; have p5 := (HXO.out.below hb).c5; have HZ := hrk.out.below.trans (hb.mono hsz); have e1 := (HZ.cell (World.block_lt_of_cell? _ _ E1.out)).trans E1.out; have e2 := (HZ.cell (World.block_lt_of_cell? _ _ E2.out)).trans E2.out; clear hb HZ)
            | (go_at_call 129; have T3 := T2; clear T2; refine (rbelow_any M1 cm1 _ x.lim nm HNM.out _ ((AM.out.below hrk.out.below).below HBA.out) (by omega)).mono ?_; rintro e w2 ⟨rfl, hb⟩; rw [HB2.out]; have HBB := Lib.hid (HBA.out.trans (hb.mono HBA.out.size)); have p5 := (HXO.out.below HBB.out).c5; have HZ := hrk.out.below.trans (HBB.out.mono hsz); have e1 := (HZ.cell (World.block_lt_of_cell? _ _ E1.out)).trans E1.out; have e2 := (HZ.cell (World.block_lt_of_cell? _ _ E2.out)).trans E2.out; clear hb HZ))
          have HRA := Lib.hid (hrk.out.move_below (Nat.le_refl _) HBB.out)
          have HRQ := Lib.hid (AR.out.below HRA.out.below)
          have HC1 := Lib.hid (radd_any ⟨#[114, 101, 113, 117, 101, 115, 116, 115, 46]⟩ (by decide) x.req nr HNR.out R1 cr1 w0.heap.size w0 w2 (Nat.le_refl _) _ Rk A4 n4 _ HRA.out HRQ.out HNX.out.1 (pos_of_neg HB1.out) (by omega))
          have J1 := True.intro
          go_wp2_with (first
            | (go_at_call 130; have J2 := J1; clear J1; refine HC1.out.mono ?_; rintro e w3 ⟨A5, c5, R5, rfl, hr5⟩; have HR5 := Lib.hid hr5; have p5 := (X1.out.below hr5.below).c5; have e2 := (hr5.below.cell (World.block_lt_of_cell? _ _ E2.out)).trans E2.out; have HC2 := Lib.hid (radd_any ⟨#[108, 105, 109, 105, 116, 115, 46]⟩ (by decide) x.lim nm HNM.out M1 cm1 w0.heap.size w0 w3 (Nat.le_refl _) _ R5 A5 c5 _ hr5 (AM.out.below hr5.below) HNX.out.2 (pos_of_neg HB2.out) (by omega)); clear hr5)
            | (go_at_call 130; have J3 := J2; clear J2; refine HC2.out.mono ?_; rintro e w4 ⟨A6, c6, R6, rfl, hr6⟩; have HR6 := Lib.hid hr6; clear hr6))
          go_roundw
          case rel =>
            refine ⟨k + 1, c6, A6, R6, by go_num, rfl, hlt, ?_, HNEG2.out HB1.out HB2.out⟩
            have h6 := HR6.out
            unfold Hid
            rw [HSTA.out, rowsR_append, rowsR_append, HSTB.out, ← Nat.add_assoc]
            exact h6
          case measure => simp [intOf]; omega
        · have HF := Lib.hid (usesV_neg (HNEG1.out (.inr HB2.out)))
          go_wp2_with (first
            | (go_at_call 129; have T2 := T1; clear T1; refine (rbelow_any R1 cr1 _ x.req nr HNR.out _ (AR.out.below hrk.out.below) (by omega)).mono ?_; rintro e w1 ⟨rfl, hb⟩; rw [HB1.out]; have HBA := Lib.hid hb; have p5 := (HXO.out.below hb).c5; have HZ := hrk.out.below.trans (hb.mono hsz); have e2 := (HZ.cell (World.block_lt_of_cell? _ _ E2.out)).trans E2.out; clear hb HZ)
            | (go_at_call 129; have T3 := T2; clear T2; refine (rbelow_any M1 cm1 _ x.lim nm HNM.out _ ((AM.out.below hrk.out.below).below HBA.out) (by omega)).mono ?_; rintro e w2 ⟨rfl, hb⟩; rw [HB2.out]; have HBB := Lib.hid (HBA.out.trans (hb.mono HBA.out.size)); clear hb))
          go_ret2
          exact .none HF.out hU.out hq.out he.out (HBE.out.trans (HBB.out.mono HBE.out.size))
      · have HF := Lib.hid (usesV_neg (HNEG1.out (.inl HB1.out)))
        go_wp2_with (go_at_call 129; refine (rbelow_any R1 cr1 _ x.req nr HNR.out _ (AR.out.below hrk.out.below) (by omega)).mono ?_; rintro e w1 ⟨rfl, hb⟩; rw [HB1.out]; have HBA := Lib.hid hb; clear hb)
        go_ret2
        exact .none HF.out hU.out hq.out he.out (HBE.out.trans (HBA.out.mono HBE.out.size))
    · have hge : ¬ ((k : Int) < (o.parts.length : Int)) := by omega
      have hr9 := hrk.out
      have hn9 := hneg.out
      rw [List.take_of_length_le (by omega)] at hr9 hn9
      have HR9 := Lib.hid hr9
      have HN9 := Lib.hid hn9
      obtain ⟨T, hTT⟩ : ∃ T, rowsR [(countK, 1000)] (allA o.parts) = T := ⟨_, rfl⟩
      rw [hTT] at HR9
      have HTT := Lib.hid hTT.symm
      have hRl : Rk.length ≤ 1073741825 := by have := HR9.out.len; have := HT.out; omega
      have HTL := Lib.hid (show T.length = Rk.length by rw [← HR9.out.eq, List.length_map])
      obtain ⟨-, -, -, -, -, -, p5, -, -⟩ := HXO.out
      clear hr9 hn9 hTT hrk hneg
      go_wp2
      clear p5
      go_loopw [6, 7] (fun lv iv wr => ∃ (i n6 : Nat) (A6 : Option Addr) (S : List Amt), iv = .int .i64 i ∧ lv = .slice A6 S.length n6 ∧ i ≤ Rk.length ∧ Hid (S.length ≤ i) ∧ Hid (Own kAmt 45 wo.heap.size (fun _ => False) wr lv S) ∧ Hid (Below wo.heap.size wo wr) ∧ Hid (S.map kvOf = insR [] (T.take i)) ∧ Hid (∀ j (h : j < T.length), j < i → T[j].2 ≤ 9223372036854775807)) (fun _ iv _ => Rk.length - (intOf iv).toNat)
      case atStart => exact ⟨0, 0, none, [], rfl, rfl, Nat.zero_le _, Nat.le_refl _, Own.nil _ _ _ _ _, Below.refl _ _, rfl, fun j h h2 => absurd h2 (by omega)⟩
      case round =>
        obtain ⟨i, n6, A6, S, rfl, rfl, hi, hSl, hown, hbr, hS, hle⟩ := hrel
        obtain ⟨wq, rfl⟩ : ∃ wq, wq = wr := ⟨_, rfl⟩
        by_cases hlti : i < Rk.length
        · have hlt1 : (i : Int) < (Rk.length : Int) := by omega
          have hi0 : (0 : Int) ≤ (i : Int) := by omega
          have hiT : i < T.length := by rw [HTL.out]; exact hlti
          obtain ⟨aR, rfl, hat⟩ := raw_at ((own_rows HR9.out.own).below hbr.out) i hlti
          have hok := HR9.out.ok _ (List.getElem_mem hlti)
          have HTI := Lib.hid (show T[i] = kvR Rk[i] by simp only [← HR9.out.eq, List.getElem_map])
          have HND := Lib.hid HR9.out.nodup
          have HIT := Lib.hid (insR_take hiT)
          obtain ⟨r, hr⟩ : ∃ r, Rk[i] = r := ⟨_, rfl⟩
          rw [hr] at hat hok HTI
          clear hr
          obtain ⟨q0, q1, q2⟩ := hat
          obtain ⟨rh0, -, rl0, rl1⟩ := hok
          by_cases hov : r.hi ≥ 2147483648
          · have e1 : decide (r.hi ≥ 2147483648) = true := by simpa using hov
            have HF := Lib.hid (show usesV o.parts = ([], 7) from uses_over_rows HN9.out HTT.out (List.any_eq_true.2 ⟨T[i], List.getElem_mem _, by
              rw [HTI.out]
              show decide (r.hi * 4294967296 + r.lo > 9223372036854775807) = true
              simp; omega⟩))
            clear hov
            go_wp2
            go_ret2
            exact .none HF.out hU.out hq.out he.out (HBE.out.trans (hbr.out.mono HBE.out.size))
          · have e1 : decide (r.hi ≥ 2147483648) = false := by simp; omega
            have hle2 : r.hi * 4294967296 + r.lo ≤ 9223372036854775807 := by omega
            have HLE2 := Lib.hid (show ∀ j (h : j < T.length), j < i + 1 → T[j].2 ≤ 9223372036854775807 from fun j h h2 => by
              by_cases e : j = i
              · subst e; rw [HTI.out]; exact hle2
              · exact hle.out j h (by omega))
            have wm : wrap64 (r.hi * 4294967296) = r.hi * 4294967296 := wrap_id (by omega) (by omega)
            have wn : wrap64 (r.hi * 4294967296 + r.lo) = r.hi * 4294967296 + r.lo := wrap_id (by omega) hle2
            go_upto_region 15 with fail
            have HWV := Lib.hid (show IntKind.i64.wrap (IntKind.i64.wrap (r.hi * 4294967296) + r.lo) = r.hi * 4294967296 + r.lo by rw [IntWalk.i64_left, IntWalk.i64_left, wm, wn])
            have HZ := Lib.hid (show ∀ W, Below wq.heap.size wq W → W.cell? (aR.add (i * 3)) = some (.string r.name) ∧ W.cell? ⟨(aR.add (i * 3)).block, (aR.add (i * 3)).off + 1, none⟩ = some (.int .i64 r.hi) ∧ W.cell? ⟨(aR.add (i * 3)).block, (aR.add (i * 3)).off + 2, none⟩ = some (.int .i64 r.lo) from fun W hb =>
              ⟨(hb.cell (World.block_lt_of_cell? _ _ q0)).trans q0, (hb.cell (World.block_lt_of_cell? _ _ q1)).trans q1, (hb.cell (World.block_lt_of_cell? _ _ q2)).trans q2⟩)
            go_cut [8] (fun v wx => v = .pointer (some ⟨wq.heap.size, 0, none⟩) ∧ Below wq.heap.size wq wx ∧ wx.heap[wq.heap.size]? = some (.cells #[.string r.name, .int .i64 (r.hi * 4294967296 + r.lo)] 45 (0, 0)))
            case first =>
              go_region_held3 (fun w' => w'.cell? (aR.add (i * 3)) = some (.string r.name) ∧ w'.cell? ⟨(aR.add (i * 3)).block, (aR.add (i * 3)).off + 1, none⟩ = some (.int .i64 r.hi) ∧ w'.cell? ⟨(aR.add (i * 3)).block, (aR.add (i * 3)).off + 2, none⟩ = some (.int .i64 r.lo)) (exact HZ.out _ (by repeat (first | exact Below.refl _ _ | refine Below.drew ?_ | refine Below.alloc ?_ (by simp) _))) (first | fail)
              all_goals (go_wp2_with fail; go_meet; exact ⟨rfl, by repeat (first | exact Below.refl _ _ | refine Below.drew ?_ | refine Below.alloc ?_ (by simp) _), (heap_alloc_new _ _).trans (by rw [HWV.out])⟩)
            case rest =>
              obtain ⟨rfl, hb8, hblk8⟩ := hcut
              rename World => wx
              clear wm wn HZ
              obtain ⟨v, hv⟩ : ∃ v, r.hi * 4294967296 + r.lo = v := ⟨_, rfl⟩
              have HTV := Lib.hid (show T[i] = (r.name.data.toList, v) by rw [HTI.out, ← hv]; rfl)
              rw [hv] at hblk8
              clear hv HWV HTI
              have hbq := hb8.size
              have hbq1 : wq.heap.size < wx.heap.size := (Array.getElem?_eq_some_iff.1 hblk8).1
              have HB8 := Lib.hid hb8
              have HBLK := Lib.hid hblk8
              have hsq := hbr.out.size
              have b0 : wx.cell? ⟨wq.heap.size, 0, none⟩ = some (.string r.name) := (cell_of_row _ _ _ _ _ _ hblk8).trans rfl
              have b1 : wx.cell? ⟨wq.heap.size, 1, none⟩ = some (.int .i64 v) := (cell_of_row _ _ _ _ _ _ hblk8).trans rfl
              have hSl2 : S.length ≤ 1073741825 := by have := hSl.out; omega
              have h24 : (S.length + 1) * 24 ≤ 140737488355328 := by omega
              have HOX := Lib.hid (hown.out.below hb8)
              have HLT := Lib.hid (hown.out.block_lt)
              clear hb8 hblk8
              go_upto_region 17 with (at_builtin; refine wpList_app_plain amtElem kAmt_plain wo.heap.size rfl (.tmp 81) (.tmp 83) rfl (v := .slice A6 S.length n6) (xs := S) (ys := [⟨r.name, v⟩]) rfl (HOX.out.alloc _) rfl rfl (Row.newOnePlain (cs := Amt.cells ⟨r.name, v⟩) kAmt_plain rfl) (by exact h24) (by simp; omega) ?_; intro A7 c7 w7 happ; have HA7 := Lib.hid happ; clear happ)
              obtain ⟨g7, cur7, rfl, -, -⟩ := own_blk HA7.out.own (by simp)
              have hne7 : g7 ≠ wq.heap.size := by
                rcases HA7.out.at_ with e | e
                · have h1 : (Value.slice A6 S.length n6).ownBlock = some g7 := by rw [← e]; simp [Value.ownBlock]
                  have := (HLT.out g7 h1).2
                  omega
                · have h1 : (some g7 : Option Nat) = some ((wx.alloc (.cells #[.string r.name, .int .i64 v] 45)).heap.size) := by rw [← show (Value.slice (some ⟨g7, 0, none⟩) (S.length + [(⟨r.name, v⟩ : Amt)].length) c7).ownBlock = some g7 by simp [Value.ownBlock]]; exact e
                  have := Option.some.inj h1
                  simp at this
                  omega
              have HBX7 := Lib.hid (show w7.heap[wq.heap.size]? = some (.cells #[.string r.name, .int .i64 v] 45 (0, 0)) from
                (HA7.out.grown.block wq.heap.size (by simp; omega) (fun e => by have := (HLT.out _ e.symm).2; omega)).trans ((heap_alloc_old wx _ hbq1).trans HBLK.out))
              have HB7 := Lib.hid (show Below wo.heap.size wo w7 from HA7.out.below ((hbr.out.trans (HB8.out.mono hsq)).alloc (by omega) _) (by simp; omega) (fun q hq => (HOX.out.block_lt q hq).1))
              have HO7 := Lib.hid (show Own kAmt 45 wo.heap.size (fun _ => False) w7 (.slice (some ⟨g7, 0, none⟩) (S.length + 1) c7) (S.take S.length ++ ⟨r.name, v⟩ :: S.drop S.length) from by rw [List.take_length, List.drop_length]; exact HA7.out.own)
              clear b0 b1 HBLK HB8 HOX HLT HA7 q0 q1 q2
              go_wp2
              go_loopw [9] (fun jv wr => ∃ j : Nat, jv = .int .i64 j ∧ j ≤ S.length ∧ Hid (Own kAmt 45 wo.heap.size (fun _ => False) wr (.slice (some ⟨g7, 0, none⟩) (S.length + 1) c7) (S.take j ++ ⟨r.name, v⟩ :: S.drop j)) ∧ Hid (∀ p ∈ S.drop j, r.name.data.toList < p.name.data.toList) ∧ Hid (Below wo.heap.size wo wr) ∧ Hid (wr.heap[wq.heap.size]? = some (.cells #[.string r.name, .int .i64 v] 45 (0, 0)))) (fun jv _ => (intOf jv).toNat)
              case atStart => exact ⟨S.length, by go_num, Nat.le_refl _, HO7.out, by simp [Hid], HB7.out, HBX7.out⟩
              case round =>
                obtain ⟨j, rfl, hj, hom, hgr, hbp, hbx⟩ := hrel
                obtain ⟨wp, rfl⟩ : ∃ wp, wp = wr := ⟨_, rfl⟩
                have b0 : wp.cell? ⟨wq.heap.size, 0, none⟩ = some (.string r.name) := (cell_of_row _ _ _ _ _ _ hbx.out).trans rfl
                have b1 : wp.cell? ⟨wq.heap.size, 1, none⟩ = some (.int .i64 v) := (cell_of_row _ _ _ _ _ _ hbx.out).trans rfl
                have HASC := Lib.hid (show AscK (S.map kvOf) by rw [hS.out]; exact ins_asc _)
                have hml := take_drop_len (S := S) (a := ⟨r.name, v⟩) hj
                have HEXIT := Lib.hid (show (∀ (h : 0 < j) (h2 : j - 1 < S.length), S[j - 1].name.data.toList < r.name.data.toList) → (S.take j ++ (⟨r.name, v⟩ : Amt) :: S.drop j).map kvOf = insR [] (T.take (i + 1)) from fun hl => by
                  have h1 := place_found (a := ⟨r.name, v⟩) HASC.out hl hgr.out hj
                  rw [HIT.out, HTV.out, ← hS.out]
                  exact h1.symm)
                rcases Nat.eq_zero_or_pos j with hj0 | hj0
                · have HEX := Lib.hid (HEXIT.out (fun h => by omega))
                  have HML := Lib.hid hml
                  subst hj0
                  clear hml
                  go_wp2
                  go_quiet (fail)
                  go_wp2
                  go_roundw
                  case rel => exact ⟨i + 1, c7, some ⟨g7, 0, none⟩, S.take 0 ++ (⟨r.name, v⟩ : Amt) :: S.drop 0, by go_num, by rw [HML.out], hlti, by unfold Hid; rw [HML.out]; have := hSl.out; omega, hom.out.below (below_drewN (Below.refl _ _) _), below_drewN hbp.out _, HEX.out, HLE2.out⟩
                  case measure => simp [intOf]; omega
                · obtain ⟨jp, rfl⟩ : ∃ jp, j = jp + 1 := ⟨j - 1, by omega⟩
                  have hjp : jp < S.length := by omega
                  have hl1 : jp < (S.take (jp + 1) ++ (⟨r.name, v⟩ : Amt) :: S.drop (jp + 1)).length := by rw [hml]; omega
                  have hl2 : jp + 1 < (S.take (jp + 1) ++ (⟨r.name, v⟩ : Amt) :: S.drop (jp + 1)).length := by rw [hml]; omega
                  have hc1 := own_cell hom.out jp hl1
                  rw [take_drop_get hjp] at hc1
                  have hc2 := own_cell hom.out (jp + 1) hl2
                  rw [take_drop_get2 hjp] at hc2
                  have HPM := Lib.hid (show S[jp] ∈ S from List.getElem_mem _)
                  have HSET := Lib.hid (shift_set (a := ⟨r.name, v⟩) hjp)
                  have HDJ := Lib.hid (List.drop_eq_getElem_cons hjp)
                  have HLAST := Lib.hid (show S[jp].name.data.toList < r.name.data.toList → ∀ (h : 0 < jp + 1) (h2 : jp + 1 - 1 < S.length), S[jp + 1 - 1].name.data.toList < r.name.data.toList from fun h _ _ => h)
                  have HNE := Lib.hid (show S[jp].name.data.toList ≠ r.name.data.toList from fun e => by
                    have hk : r.name.data.toList ∈ (insR [] (T.take i)).map Prod.fst := by
                      rw [← hS.out, ← e, List.map_map]
                      exact List.mem_map_of_mem (f := Prod.fst ∘ kvOf) HPM.out
                    rcases (keys_ins (T.take i) [] _).1 hk with h | h
                    · obtain ⟨p, hp, he⟩ := List.mem_map.1 h
                      obtain ⟨m', hm', rfl⟩ := List.getElem_of_mem hp
                      rw [List.length_take] at hm'
                      rw [List.getElem_take] at he
                      have hnd := List.pairwise_iff_getElem.1 HND.out m' i (by rw [List.length_map]; omega) (by rw [List.length_map]; exact hiT) (by omega)
                      apply hnd
                      rw [List.getElem_map, List.getElem_map, he, HTV.out]
                    · simp at h)
                  obtain ⟨p, hp⟩ : ∃ p, S[jp] = p := ⟨_, rfl⟩
                  rw [hp] at hc1 HSET HDJ HLAST HNE
                  have HML := Lib.hid hml
                  have hj1 : (0 : Int) ≤ (jp : Int) := by omega
                  have hj2 : (jp : Int) < ((S.length + 1 : Nat) : Int) := by omega
                  have hj3 : ((jp + 1 : Nat) : Int) < ((S.length + 1 : Nat) : Int) := by omega
                  clear hp hml hj0
                  obtain ⟨c10, c11, fz1⟩ := hc1
                  obtain ⟨c20, c21, -⟩ := hc2
                  have HBL := Lib.hid (show Op.bytesLess p.name.toList r.name.toList = decide (p.name.data.toList < r.name.data.toList) by rw [toList_eq, toList_eq, bytesLess_eq])
                  have eb : (p.name.toList == r.name.toList) = false := by
                    rw [toList_eq, toList_eq]
                    simpa using HNE.out
                  by_cases hgt : r.name.data.toList < p.name.data.toList
                  · have eg : Op.bytesLess p.name.toList r.name.toList = false := by rw [HBL.out]; simpa using fun h => List.lt_irrefl _ (List.lt_trans h hgt)
                    have HGT := Lib.hid hgt
                    clear hgt
                    have hgw : wo.heap.size ≤ g7 := (hom.out.block_lt g7 (by simp [Value.ownBlock])).1
                    have hnq : wq.heap.size ≠ g7 := fun e => hne7 e.symm
                    go_wp2
                    go_quiet (fail)
                    go_wp2
                    go_roundw
                    case rel =>
                      have o2 := fun nq : Nat => own_put (own_put (hom.out.below (below_drewN (Below.refl wp.heap.size wp) nq)) hl2 p) (i := jp) (by rw [List.length_set]; exact hl1) ⟨r.name, v⟩
                      simp only [HSET.out] at o2
                      refine ⟨jp, by go_num, by omega, o2 _, ?_, (((((below_drewN hbp.out _).setCell hgw _).setCell hgw _).setCell hgw _).setCell hgw _), ?_⟩
                      · unfold Hid
                        rw [HDJ.out]
                        intro q' hq'
                        rcases List.mem_cons.1 hq' with rfl | h
                        · exact HGT.out
                        · exact hgr.out q' h
                      · exact (Below.heap_setCell _ _ _ _ hnq).trans ((Below.heap_setCell _ _ _ _ hnq).trans ((Below.heap_setCell _ _ _ _ hnq).trans ((Below.heap_setCell _ _ _ _ hnq).trans hbx.out)))
                    case measure => simp [intOf]
                  · have eg : Op.bytesLess p.name.toList r.name.toList = true := by rw [HBL.out]; simpa using key_lt HNE.out hgt
                    have HEX := Lib.hid (HEXIT.out (HLAST.out (key_lt HNE.out hgt)))
                    clear hgt
                    go_wp2
                    go_quiet (fail)
                    go_wp2
                    go_roundw
                    case rel => exact ⟨i + 1, c7, some ⟨g7, 0, none⟩, S.take (jp + 1) ++ (⟨r.name, v⟩ : Amt) :: S.drop (jp + 1), by go_num, by rw [HML.out], hlti, by unfold Hid; rw [HML.out]; have := hSl.out; omega, hom.out.below (below_drewN (Below.refl _ _) _), below_drewN hbp.out _, HEX.out, HLE2.out⟩
                    case measure => simp [intOf]; omega
        · have hgei : ¬ ((i : Int) < (Rk.length : Int)) := by omega
          have HF := Lib.hid (show usesV o.parts = (insR [] T, 0) from uses_of_rows HN9.out HTT.out (by
            rw [List.any_eq_false]
            intro p hp
            obtain ⟨j, hj, rfl⟩ := List.getElem_of_mem hp
            have := hle.out j hj (by have := HTL.out; omega)
            simpa using this))
          have hS2 := hS.out
          rw [List.take_of_length_le (by rw [HTL.out]; omega)] at hS2
          have HSU := Lib.hid (show S = U by
            rw [← hU.out, HF.out, ← hS2, List.map_map]
            conv => lhs; rw [← List.map_id S]
            exact List.map_congr_left fun a _ => (amt_kv a).symm)
          have HSQ := Lib.hid (show S.length = q by rw [HSU.out, hq.out])
          have HE0 := Lib.hid (show eu = 0 by rw [← he.out, HF.out])
          have HO := Lib.hid (own_rows hown.out)
          have HBEND := Lib.hid (HBE.out.trans (hbr.out.mono HBE.out.size))
          clear hS2
          go_wp2
          go_ret2
          refine ⟨A6, n6, by rw [HE0.out, ← HSQ.out]; rfl, by rw [← HSU.out]; exact HO.out.mono fun k hk => Nat.le_trans HBE.out.size hk.1, HBEND.out⟩
end Go.Proofs.YtalkdddeiebfmaaGreatDoor
