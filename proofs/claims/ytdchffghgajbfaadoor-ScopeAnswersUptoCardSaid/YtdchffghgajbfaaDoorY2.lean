/- The document's In, Within, Of, below. -/
import Derived.Test.YtdchffghgajbfaaDoorX5
import Derived.Test.YtdchffghgajbfaaDoorX8
import Derived.Test.YtdchffghgajbfaaDoorW6
namespace Go.Proofs.YtdchffghgajbfaaDoor
open Go.RowKit

set_option maxRecDepth 100000 in
theorem rwithin_any (a b : ScV) (w : World) : Calls Tryd.prog 38 #[a.val, b.val] w fun e w' => e = .returned (.bool (withinS a b)) ∧ Below w.heap.size w w' := by
  have htb := twoSc w a b
  have hbw : Below w.heap.size w ((w.alloc (.cells #[.int .i64 a.kind, .int .i64 a.arg] 54)).alloc (.cells #[.int .i64 b.kind, .int .i64 b.arg] 54)) := ((Below.refl _ _).alloc (Nat.le_refl _) _).alloc (by simp) _
  unfold ScV.val
  obtain ⟨W, hW⟩ : ∃ W, ((w.alloc (.cells #[.int .i64 a.kind, .int .i64 a.arg] 54)).alloc (.cells #[.int .i64 b.kind, .int .i64 b.arg] 54)) = W := ⟨_, rfl⟩
  rw [hW] at htb hbw
  have HBW := Lib.hid hbw
  have HTB := Lib.hid htb
  obtain ⟨x0, x1, y0, y1⟩ := htb
  have htb := True.intro
  have T1 := True.intro
  clear hbw
  cases hva : validS a
  · have HA := Lib.hid hva
    have hres := Lib.hid (show withinS a b = false by unfold withinS; rw [hva]; rfl)
    go_enter Tryd.func38, Tryd.ntmps38
    go_upto_region 1 with fail
    clear hW htb
    go_wp2_with (first
        | (go_at_call 36; have T2 := T1; clear T1; refine (rvalid_val a _ HA _).mono ?_; rintro e w1 ⟨rfl, hb1⟩; have HB1 := Lib.hid hb1; have HT1 := Lib.hid (HTB.out.below hb1); obtain ⟨x0, x1, y0, y1⟩ := HT1.out; clear hb1))
    go_ret
    exact ⟨by rw [hres.out]; rfl, HBW.out.trans (HB1.out.mono HBW.out.size)⟩
  · have HA := Lib.hid hva
    cases hvb : validS b
    · have HB := Lib.hid hvb
      have hres := Lib.hid (show withinS a b = false by unfold withinS; rw [hva, hvb]; rfl)
      go_enter Tryd.func38, Tryd.ntmps38
      go_upto_region 1 with fail
      clear hW htb
      go_wp2_with (first
          | (go_at_call 36; have T2 := T1; clear T1; refine (rvalid_val a _ HA _).mono ?_; rintro e w1 ⟨rfl, hb1⟩; have HB1 := Lib.hid hb1; have HT1 := Lib.hid (HTB.out.below hb1); obtain ⟨x0, x1, y0, y1⟩ := HT1.out; clear hb1)
          | (go_at_call 36; have T3 := T2; clear T2; refine (rvalid_val b _ HB _).mono ?_; rintro e w2 ⟨rfl, hb2⟩; have HB2 := Lib.hid (HB1.out.trans (hb2.mono HB1.out.size)); have HT2 := Lib.hid (HT1.out.below hb2); obtain ⟨x0, x1, y0, y1⟩ := HT2.out; clear hb2))
      go_ret
      exact ⟨by rw [hres.out]; rfl, HBW.out.trans (HB2.out.mono HBW.out.size)⟩
    · have HB := Lib.hid hvb
      cases hq : eqSc a b
      · have hrun := run_eqlSc a b false hq
        have hres := Lib.hid (show withinS a b = (b.kind == 0) by unfold withinS; rw [hva, hvb, ← eqSc_iff, hq]; rfl)
        go_enter Tryd.func38, Tryd.ntmps38
        go_upto_region 1 with fail
        clear hW htb
        go_wp2_with (first
            | (go_at_call 36; have T2 := T1; clear T1; refine (rvalid_val a _ HA _).mono ?_; rintro e w1 ⟨rfl, hb1⟩; have HB1 := Lib.hid hb1; have HT1 := Lib.hid (HTB.out.below hb1); obtain ⟨x0, x1, y0, y1⟩ := HT1.out; clear hb1)
            | (go_at_call 36; have T3 := T2; clear T2; refine (rvalid_val b _ HB _).mono ?_; rintro e w2 ⟨rfl, hb2⟩; have HB2 := Lib.hid (HB1.out.trans (hb2.mono HB1.out.size)); have HT2 := Lib.hid (HT1.out.below hb2); obtain ⟨x0, x1, y0, y1⟩ := HT2.out; clear hb2))
        go_ret
        exact ⟨by rw [hres.out]; rfl, HBW.out.trans (HB2.out.mono HBW.out.size)⟩
      · have hrun := run_eqlSc a b true hq
        have hres := Lib.hid (show withinS a b = true by unfold withinS; rw [hva, hvb, ← eqSc_iff, hq]; rfl)
        go_enter Tryd.func38, Tryd.ntmps38
        go_upto_region 1 with fail
        clear hW htb
        go_wp2_with (first
            | (go_at_call 36; have T2 := T1; clear T1; refine (rvalid_val a _ HA _).mono ?_; rintro e w1 ⟨rfl, hb1⟩; have HB1 := Lib.hid hb1; have HT1 := Lib.hid (HTB.out.below hb1); obtain ⟨x0, x1, y0, y1⟩ := HT1.out; clear hb1)
            | (go_at_call 36; have T3 := T2; clear T2; refine (rvalid_val b _ HB _).mono ?_; rintro e w2 ⟨rfl, hb2⟩; have HB2 := Lib.hid (HB1.out.trans (hb2.mono HB1.out.size)); have HT2 := Lib.hid (HT1.out.below hb2); obtain ⟨x0, x1, y0, y1⟩ := HT2.out; clear hb2))
        go_ret
        exact ⟨by rw [hres.out]; rfl, HBW.out.trans (HB2.out.mono HBW.out.size)⟩

theorem rwithin_val (a b : ScV) (r : Bool) (hr : Hid (withinS a b = r)) (w : World) : Calls Tryd.prog 38 #[.agg #[.int .i64 a.kind, .int .i64 a.arg], .agg #[.int .i64 b.kind, .int .i64 b.arg]] w fun e w' => e = .returned (.bool r) ∧ Below w.heap.size w w' := by
  have := rwithin_any a b w
  rw [hr.out] at this
  exact this
theorem any_take_step {α : Type} {p : α → Bool} {l : List α} {k : Nat} (hk : k < l.length) : (l.take (k + 1)).any p = ((l.take k).any p || p l[k]) := by
  rw [List.take_succ_eq_append_getElem hk, List.any_append]; simp
set_option maxRecDepth 100000 in
theorem rbelow_any (A : Option Addr) (c : Nat) (P : Nat → Prop) (xs : List Amt) (n : Nat) (hn : xs.length = n) (w : World) (hr : Row kAmt P w A xs) (hl : n ≤ 9223372036854775807) :
    Calls Tryd.prog 73 #[.slice A n c] w fun e w' => e = .returned (.bool (xs.any negA)) ∧ Below w.heap.size w w' := by
  subst hn
  go_enter Tryd.func73, Tryd.ntmps73
  go_wp2
  go_loopw [3] (fun i wr => ∃ k : Nat, i = .int .i64 k ∧ k ≤ xs.length ∧ Below w.heap.size w wr ∧ Hid ((xs.take k).any negA = false)) (fun i _ => xs.length - (intOf i).toNat)
  case atStart => exact ⟨0, rfl, Nat.zero_le _, Below.refl _ _, by simp [Hid]⟩
  case round =>
    obtain ⟨k, rfl, hk, hbr, HA⟩ := hrel
    by_cases hlt : k < xs.length
    · obtain ⟨a, rfl, -, l0, l1⟩ := amt_at (hr.below hbr) k hlt
      have HS := Lib.hid (any_take_step (p := negA) hlt)
      rw [HA.out, Bool.false_or] at HS
      obtain ⟨x, hx⟩ : ∃ x, xs[k] = x := ⟨_, rfl⟩
      rw [hx] at l0 l1 HS
      have hmem : x ∈ xs := by rw [← hx]; exact List.getElem_mem _
      clear hx
      by_cases hneg : x.val < 0
      · have e1 : decide (x.val < 0) = true := by simpa using hneg
        have HF := Lib.hid (show xs.any negA = true from List.any_eq_true.2 ⟨x, hmem, e1⟩)
        go_wp2
        go_ret
        exact ⟨by rw [HF.out]; rfl, hbr⟩
      · have e1 : decide (x.val < 0) = false := by simpa using hneg
        have HN := Lib.hid (show (xs.take (k + 1)).any negA = false by rw [HS.out]; exact e1)
        go_wp2
        go_roundw
        case rel => exact ⟨k + 1, by go_num, hlt, hbr, HN.out⟩
        case measure => simp [intOf]; omega
    · have hge : ¬ ((k : Int) < (xs.length : Int)) := by omega
      have HF := Lib.hid (show xs.any negA = false by have := HA.out; rwa [List.take_of_length_le (by omega)] at this)
      go_wp2
      go_ret
      exact ⟨by rw [HF.out]; rfl, hbr⟩

set_option maxRecDepth 100000 in
set_option maxHeartbeats 1000000 in
theorem rin_val (s : ScV) (b : Bool) (o : ObjV) (hb : Hid (inS o.prio o.dl o.parts s = b)) (L : Option Addr) (n m : Nat) (A : Option Addr) (c : Nat) (P : Nat → Prop) (w : World) (hr : Row kPart P w A o.parts) (hlen : o.parts.length ≤ 1152921504606846976) (hps : PartsOk o.parts) :
    Calls Tryd.prog 37 #[.agg #[.string o.path, .string o.name, .slice L n m, .int .i64 o.prio, .int .i64 o.dl, .slice A o.parts.length c, .int .i64 o.ver], .agg #[.int .i64 s.kind, .int .i64 s.arg]] w fun e w' => e = .returned (.bool b) ∧ Below w.heap.size w w' := by
  obtain ⟨k0, a0⟩ := s
  have hb0 : Below w.heap.size w ((w.alloc (.cells #[.string o.path, .string o.name, .slice L n m, .int .i64 o.prio, .int .i64 o.dl, .slice A o.parts.length c, .int .i64 o.ver] 58)).alloc (.cells #[.int .i64 k0, .int .i64 a0] 54)) :=
    ((Below.refl _ _).alloc (Nat.le_refl _) _).alloc (by simp) _
  have hx1 : OBox _ _ _ _ _ _ _ _ _ := .of (heap_alloc2_old w (.cells #[.string o.path, .string o.name, .slice L n m, .int .i64 o.prio, .int .i64 o.dl, .slice A o.parts.length c, .int .i64 o.ver] 58) (.cells #[.int .i64 k0, .int .i64 a0] 54))
  have hs1 : SBox _ _ _ _ := ⟨heap_alloc2_new w (.cells #[.string o.path, .string o.name, .slice L n m, .int .i64 o.prio, .int .i64 o.dl, .slice A o.parts.length c, .int .i64 o.ver] 58) (.cells #[.int .i64 k0, .int .i64 a0] 54)⟩
  obtain ⟨w0, hw0⟩ : ∃ w0, ((w.alloc (.cells #[.string o.path, .string o.name, .slice L n m, .int .i64 o.prio, .int .i64 o.dl, .slice A o.parts.length c, .int .i64 o.ver] 58)).alloc (.cells #[.int .i64 k0, .int .i64 a0] 54)) = w0 := ⟨_, rfl⟩
  rw [hw0] at hb0 hx1 hs1
  have HB0 := Lib.hid hb0
  have X1 := Lib.hid hx1
  have S1 := Lib.hid hs1
  have RX := Lib.hid (hr.below hb0)
  have PS := Lib.hid hps
  clear hb0 hx1 hr hps hs1
  cases hv : validS ⟨k0, a0⟩
  · have HV := Lib.hid hv
    have hbf : b = false := by rw [← hb.out]; unfold inS; rw [hv]; rfl
    subst hbf
    clear hv
    go_enter Tryd.func37, Tryd.ntmps37
    go_upto_region 1 with fail
    clear hw0
    have s0 : w0.cell? ⟨w.heap.size + 1, 0, none⟩ = some (.int .i64 k0) := (cell_of_row _ _ _ _ _ _ S1.out.blk).trans rfl
    have s1 : w0.cell? ⟨w.heap.size + 1, 1, none⟩ = some (.int .i64 a0) := (cell_of_row _ _ _ _ _ _ S1.out.blk).trans rfl
    go_wp2_with (go_at_call 36; refine (rvalid_val ⟨k0, a0⟩ false HV _).mono ?_; rintro e w1 ⟨rfl, hb1⟩; have HB1 := Lib.hid hb1; clear hb1)
    go_ret
    exact ⟨rfl, HB0.out.trans (HB1.out.mono HB0.out.size)⟩
  · have HV := Lib.hid hv
    have HK := Lib.hid (validS_kinds hv)
    have HL := Lib.hid (show liesS o.prio o.dl o.parts ⟨k0, a0⟩ = b by have := hb.out; unfold inS at this; rw [hv] at this; exact this)
    clear hv
    go_enter Tryd.func37, Tryd.ntmps37
    go_upto_region 1 with fail
    clear hw0
    have s0 : w0.cell? ⟨w.heap.size + 1, 0, none⟩ = some (.int .i64 k0) := (cell_of_row _ _ _ _ _ _ S1.out.blk).trans rfl
    have s1 : w0.cell? ⟨w.heap.size + 1, 1, none⟩ = some (.int .i64 a0) := (cell_of_row _ _ _ _ _ _ S1.out.blk).trans rfl
    go_upto_region 4 with (go_at_call 36; refine (rvalid_val ⟨k0, a0⟩ true HV _).mono ?_; rintro e w1 ⟨rfl, hb1⟩; have HB1 := Lib.hid hb1; clear hb1)
    clear s0 s1
    go_wp2
    go_loopw [6, 7] (fun nv iv wr => ∃ k : Nat, iv = .int .i64 k ∧ nv = .bool (namedP (o.parts.take k)) ∧ k ≤ o.parts.length ∧ Hid (Below w1.heap.size w1 wr)) (fun _ iv _ => o.parts.length - (intOf iv).toNat)
    case atStart => exact ⟨0, rfl, by simp [namedP], Nat.zero_le _, Below.refl _ _⟩
    case round =>
      obtain ⟨k, rfl, rfl, hk, hbr⟩ := hrel
      obtain ⟨wo, rfl⟩ : ∃ wo, wo = wr := ⟨_, rfl⟩
      have HBO := Lib.hid (HB1.out.trans (hbr.out.mono HB1.out.size))
      obtain ⟨-, -, -, -, p3, p4, p5, -, -⟩ := X1.out.below HBO.out
      by_cases hlt : k < o.parts.length
      · obtain ⟨a, R1, M1, cr1, cm1, rfl, ha⟩ := part_at (RX.out.below HBO.out) k hlt
        have hpx := PS.out _ (List.getElem_mem hlt)
        have HST := Lib.hid (any_take_step (p := namesOne) hlt)
        obtain ⟨x, hx⟩ : ∃ x, o.parts[k] = x := ⟨_, rfl⟩
        rw [hx] at ha hpx HST
        clear hx
        have hx1 : (k : Int) < (o.parts.length : Int) := by omega
        have hk0 : (0 : Int) ≤ (k : Int) := by omega
        obtain ⟨-, e1, e2, -, -, -, -⟩ := ha
        obtain ⟨nr, hnr⟩ : ∃ nr, x.req.length = nr := ⟨_, rfl⟩
        obtain ⟨nm, hnm⟩ : ∃ nm, x.lim.length = nm := ⟨_, rfl⟩
        rw [hnr] at e1 hpx
        rw [hnm] at e2 hpx
        have HNO := Lib.hid (show namesOne x = decide (((nr : Int) + nm) > 0) by unfold namesOne; rw [hnr, hnm])
        obtain ⟨hp1, hp2⟩ := hpx
        clear hnr hnm
        obtain ⟨nb, hnb⟩ : ∃ nb, namedP (o.parts.take k) = nb := ⟨_, rfl⟩
        have HNB := Lib.hid (show (o.parts.take k).any namesOne = nb from hnb)
        rw [hnb]
        rw [HNB.out] at HST
        clear hnb
        have hsum1 : (-9223372036854775808 : Int) ≤ (nr : Int) + nm := by omega
        have hsum2 : (nr : Int) + nm ≤ 9223372036854775807 := by omega
        cases nb
        · have HN := Lib.hid (show namedP (o.parts.take (k + 1)) = decide (((nr : Int) + nm) > 0) by
            show (o.parts.take (k + 1)).any namesOne = _
            rw [HST.out, HNO.out]; rfl)
          go_wp2
          go_quiet (fail)
          go_wp2
          go_roundw
          case rel => exact ⟨k + 1, by go_num, by rw [HN.out], hlt, below_drewN hbr.out _⟩
          case measure => simp [intOf]; omega
        · have HN := Lib.hid (show namedP (o.parts.take (k + 1)) = true by
            show (o.parts.take (k + 1)).any namesOne = _
            rw [HST.out]; rfl)
          go_wp2
          go_quiet (fail)
          go_wp2
          go_roundw
          case rel => exact ⟨k + 1, by go_num, by rw [HN.out], hlt, below_drewN hbr.out _⟩
          case measure => simp [intOf]; omega
      · have hge : ¬ ((k : Int) < (o.parts.length : Int)) := by omega
        rw [List.take_of_length_le (by omega)]
        have s0 : wo.cell? ⟨w.heap.size + 1, 0, none⟩ = some (.int .i64 k0) := (cell_of_row _ _ _ _ _ _ (S1.out.below HBO.out).blk).trans rfl
        have s1 : wo.cell? ⟨w.heap.size + 1, 1, none⟩ = some (.int .i64 a0) := (cell_of_row _ _ _ _ _ _ (S1.out.below HBO.out).blk).trans rfl
        have HEND := Lib.hid (HB0.out.trans (HBO.out.mono HB0.out.size))
        have hkk := HK.out
        rcases hkk with rfl | rfl | rfl | rfl | rfl | rfl
        · have hv : true = b := by rw [← HL.out]; rfl
          subst hv
          go_wp2
          go_ret
          exact ⟨rfl, HEND.out⟩
        · have hv : (!namedP o.parts) = b := by rw [← HL.out]; rfl
          have HVV := Lib.hid hv
          clear hv
          go_wp2
          go_ret
          exact ⟨by rw [← HVV.out]; rfl, HEND.out⟩
        · have hv : namedP o.parts = b := by rw [← HL.out]; rfl
          have HVV := Lib.hid hv
          clear hv
          go_wp2
          go_ret
          exact ⟨by rw [← HVV.out]; rfl, HEND.out⟩
        · have hv : decide (o.dl > 0) = b := by rw [← HL.out]; rfl
          have HVV := Lib.hid hv
          clear hv
          go_wp2
          go_ret
          exact ⟨by rw [← HVV.out]; rfl, HEND.out⟩
        · have hv : decide (o.dl ≤ 0) = b := by rw [← HL.out]; rfl
          have HVV := Lib.hid hv
          clear hv
          go_wp2
          go_ret
          exact ⟨by rw [← HVV.out]; rfl, HEND.out⟩
        · have hv : decide (o.prio = a0) = b := by rw [← HL.out]; rfl
          have HVV := Lib.hid hv
          clear hv
          go_wp2
          go_ret
          exact ⟨by rw [← HVV.out]; rfl, HEND.out⟩
end Go.Proofs.YtdchffghgajbfaaDoor
