/- LedgerUndoes: the walk (printed by mkundo.py). -/
import Derived.Test.YtalkdddeiebfmaaGreatDoorJ68
import Derived.Test.YtalkdddeiebfmaaGreatDoorJL
import Derived.Test.YtalkdddeiebfmaaGreatDoorJ76
namespace Go.Proofs.YtalkdddeiebfmaaGreatDoor
open Go.RowKit

set_option maxRecDepth 100000 in
set_option maxHeartbeats 4000000 in
theorem ledgerUndoes_any (ops : List OpM) (n : Nat) (hn : ops.length = n) (A : Option Addr) (c : Nat) (P : Nat → Prop) (o p : ObjM) (Lo : Option Addr) (mo : Nat) (Bo : Option Addr) (co : Nat) (Lp : Option Addr) (mp : Nat) (Bp : Option Addr) (cp : Nat) (w : World) (hm : Ml w) (ht : TextsAt w)
    (hr : Row kOp17 P w A ops) (hok : ∀ x ∈ ops, OpFit x) (ho : ObjFit w (o.at_ Lo mo) Bo o.ls) (hp : ObjFit w (p.at_ Lp mp) Bp p.ls) (hfo : ObjMFit o) (hfp : ObjMFit p) (hlen : n ≤ 1048576) :
    Calls Tryz.prog 7 #[.slice A n c, .agg #[.string o.path, .string o.name, .slice Lo o.ls.length mo, .int .i64 o.prio, .int .i64 o.dl, .slice Bo o.parts.length co, .int .i64 o.ver], .agg #[.string p.path, .string p.name, .slice Lp p.ls.length mp, .int .i64 p.prio, .int .i64 p.dl, .slice Bp p.parts.length cp, .int .i64 p.ver]] w fun e w' => e = .returned (.bool true) ∧ Below w.heap.size w w' := by
  have hb1 := (Below.refl w.heap.size w).alloc (Nat.le_refl _) (.cells #[.string o.path, .string o.name, .slice Lo o.ls.length mo, .int .i64 o.prio, .int .i64 o.dl, .slice Bo o.parts.length co, .int .i64 o.ver] 26)
  have hx1 := heap_alloc_new w (.cells #[.string o.path, .string o.name, .slice Lo o.ls.length mo, .int .i64 o.prio, .int .i64 o.dl, .slice Bo o.parts.length co, .int .i64 o.ver] 26)
  obtain ⟨wa, hwa⟩ : ∃ wa, w.alloc (.cells #[.string o.path, .string o.name, .slice Lo o.ls.length mo, .int .i64 o.prio, .int .i64 o.dl, .slice Bo o.parts.length co, .int .i64 o.ver] 26) = wa := ⟨_, rfl⟩
  have hsa : wa.heap.size = w.heap.size + 1 := by rw [← hwa, heap_size_alloc']
  rw [hwa] at hb1 hx1
  have hb2 := (Below.refl wa.heap.size wa).alloc (Nat.le_refl _) (.cells #[.string p.path, .string p.name, .slice Lp p.ls.length mp, .int .i64 p.prio, .int .i64 p.dl, .slice Bp p.parts.length cp, .int .i64 p.ver] 26)
  have hx2 := heap_alloc_new wa (.cells #[.string p.path, .string p.name, .slice Lp p.ls.length mp, .int .i64 p.prio, .int .i64 p.dl, .slice Bp p.parts.length cp, .int .i64 p.ver] 26)
  obtain ⟨wb, hwb⟩ : ∃ wb, wa.alloc (.cells #[.string p.path, .string p.name, .slice Lp p.ls.length mp, .int .i64 p.prio, .int .i64 p.dl, .slice Bp p.parts.length cp, .int .i64 p.ver] 26) = wb := ⟨_, rfl⟩
  have hsb : wb.heap.size = w.heap.size + 2 := by rw [← hwb, heap_size_alloc', hsa]
  rw [hwb] at hb2 hx2
  have HBW := Lib.hid (show Below w.heap.size w wb from hb1.trans (hb2.mono hb1.size))
  have HXO := Lib.hid (show wb.heap[w.heap.size]? = some (.cells #[.string o.path, .string o.name, .slice Lo o.ls.length mo, .int .i64 o.prio, .int .i64 o.dl, .slice Bo o.parts.length co, .int .i64 o.ver] 26 (0, 0)) from (hb2.block _ (by omega)).trans hx1)
  have HXP := Lib.hid (show wb.heap[w.heap.size + 1]? = some (.cells #[.string p.path, .string p.name, .slice Lp p.ls.length mp, .int .i64 p.prio, .int .i64 p.dl, .slice Bp p.parts.length cp, .int .i64 p.ver] 26 (0, 0)) from by rw [← hsa]; exact hx2)
  obtain ⟨t4, ht4⟩ : ∃ t, w.heap.size = t := ⟨_, rfl⟩
  obtain ⟨t5, ht5⟩ : ∃ t, t4 + 1 = t := ⟨_, rfl⟩
  rw [ht4] at HXO HXP
  rw [ht5] at HXP
  have hsa5 : wa.heap.size = t5 := by rw [hsa, ht4, ht5]
  have HR := Lib.hid (hr.lt)
  have HOK := Lib.hid hok
  have HNL := Lib.hid hn
  have HFO := Lib.hid hfo
  have HFP := Lib.hid hfp
  have HM := Lib.hid (hm.below HBW.out)
  have HTX := Lib.hid (ht.below HBW.out)
  have HT4 := Lib.hid (show w.heap.size = t4 from ht4)
  have HT5 := Lib.hid ht5
  have HSB0 := Lib.hid hsb
  have HSG := Lib.hid (show 1 < wb.heap.size from let ⟨_, hc⟩ := HM.out; World.block_lt_of_cell? wb _ hc)
  have HSTX := Lib.hid (show 0 < wb.heap.size from HTX.out.low)
  have HOWo := Lib.hid (fun W (hb : Below wb.heap.size wb W) => own_objM o Lo mo Bo co W (by
    have hb' := HBW.out.trans (hb.mono HBW.out.size)
    exact ⟨ho.row.below hb', let ⟨L, m, e, h⟩ := ho.lab; ⟨L, m, e, h.below hb'⟩, ho.n64, ho.n24, ho.n32⟩))
  have HOWp := Lib.hid (fun W (hb : Below wb.heap.size wb W) => own_objM p Lp mp Bp cp W (by
    have hb' := HBW.out.trans (hb.mono HBW.out.size)
    exact ⟨hp.row.below hb', let ⟨L, m, e, h⟩ := hp.lab; ⟨L, m, e, h.below hb'⟩, hp.n64, hp.n24, hp.n32⟩))
  clear hm ht hr hok ho hp hfo hfp hn hb1 hx1 hb2 hx2 hsa hsb
  go_enter Tryz.func7, Tryz.ntmps7
  go_upto_region 1 with fail
  try rw [hsa5]
  clear hwa hwb hsa5
  go_upto_region 2 with (go_at_call 16; refine (lives_any wb HM.out HTX.out).mono ?_; rintro e w1 ⟨g, b1, b2, rfl, hka, hla, hb1⟩; have HB1 := Lib.hid hb1; have HKA := Lib.hid hka; have HLA := Lib.hid hla; clear hka hla hb1)
  obtain ⟨bb, hbb⟩ : ∃ bb, w1.heap.size = bb := ⟨_, rfl⟩
  have hx2 := heap_alloc_new w1 (.cells #[.pointer (some ⟨g, 0, none⟩), .slice none 0 0] 63)
  have hb2 := (Below.refl w1.heap.size w1).alloc (Nat.le_refl _) (.cells #[.pointer (some ⟨g, 0, none⟩), .slice none 0 0] 63)
  obtain ⟨w2, hw2⟩ : ∃ w2, w1.alloc (.cells #[.pointer (some ⟨g, 0, none⟩), .slice none 0 0] 63) = w2 := ⟨_, rfl⟩
  rw [hw2] at hx2 hb2
  have hs2 : w2.heap.size = bb + 1 := by rw [← hw2, heap_size_alloc', hbb]
  rw [hbb] at hx2
  have HX2 := Lib.hid hx2
  have HB2 := Lib.hid hb2
  have HS2 := Lib.hid hs2
  have HBB := Lib.hid hbb
  have HM2 := Lib.hid (HM.out.below (HB1.out.trans (hb2.mono HB1.out.size)))
  have HTX2 := Lib.hid (HTX.out.below (HB1.out.trans (hb2.mono HB1.out.size)))
  clear hx2 hb2 hs2
  rw [hw2, hbb]
  clear hw2 hbb
  go_upto_region 3 with (go_at_call 16; refine (lives_any w2 HM2.out HTX2.out).mono ?_; rintro e w3 ⟨h, c1, c2, rfl, hka, hla, hb1⟩; have HB3 := Lib.hid hb1; have HKB := Lib.hid hka; have HLB := Lib.hid hla; clear hka hla hb1)
  obtain ⟨cb, hcb⟩ : ∃ cb, w3.heap.size = cb := ⟨_, rfl⟩
  have hx4 := heap_alloc_new w3 (.cells #[.pointer (some ⟨h, 0, none⟩), .slice none 0 0] 63)
  have hb4 := (Below.refl w3.heap.size w3).alloc (Nat.le_refl _) (.cells #[.pointer (some ⟨h, 0, none⟩), .slice none 0 0] 63)
  obtain ⟨w4, hw4⟩ : ∃ w4, w3.alloc (.cells #[.pointer (some ⟨h, 0, none⟩), .slice none 0 0] 63) = w4 := ⟨_, rfl⟩
  rw [hw4] at hx4 hb4
  have hs4 : w4.heap.size = cb + 1 := by rw [← hw4, heap_size_alloc', hcb]
  rw [hcb] at hx4
  have HSB := Lib.hid (show UndB wb bb g b1 b2 cb h c1 c2 from by
    have s1 := HB1.out.size; have s2 := HB2.out.size; have s3 := HB3.out.size; have s4 := hb4.size; have e1 := HBB.out; have e2 := HS2.out
    have la := HLA.out; have lb := HLB.out; have ka := HKA.out.lt; have kb := HKB.out.lt
    refine ⟨fun i hi => ?_, fun i hi => ⟨fun e => ?_, fun e => ?_, fun e => ?_⟩, fun i hi => ⟨fun e => ?_, fun e => ?_, fun e => ?_⟩, by omega, fun i hi e => ?_, fun i hi e => ?_, HM.out, HTX.out, HSG.out, HSTX.out⟩
    · rcases hi with (hi | hi) | (hi | hi)
      · omega
      · exact la i hi
      · omega
      · have := lb i hi; omega
    · have := ka i (.inr hi); omega
    · have := ka i (.inr hi); omega
    · have := ka i (.inr hi); have := lb i e; omega
    · have := kb i (.inr hi); omega
    · have := lb i (.inr hi); omega
    · have := lb i (.inr hi); have := ka i e; omega
    · have := lb i hi; omega
    · have := ka i hi; omega)
  obtain ⟨N, hN⟩ : ∃ N, w4.heap.size = N := ⟨_, rfl⟩
  have HP0 := Lib.hid (show Pair wb w4 N bb g b1 b2 cb h c1 c2 0 0 none 0 0 (fun _ => False) none 0 0 (fun _ => False) (runV []) (runV []) from by
    have s1 := HB1.out.size; have s2 := HB2.out.size; have s3 := HB3.out.size; have s4 := hb4.size; have e1 := HBB.out; have e2 := HS2.out
    have ka := HKA.out.lt; have kb := HKB.out.lt; have la := HLA.out; have lb := HLB.out
    have hb34 := HB3.out.trans (hb4.mono HB3.out.size)
    refine ⟨⟨(hb34.block bb (by omega)).trans HX2.out, (HKA.out.below HB2.out).below hb34, ledOk_zero, ListAt.nil _ _ _ _, fun _ h => (nomatch h), by simp [runV], by omega, fun i hi => ?_⟩, ⟨hx4, HKB.out.below hb4, ledOk_zero, ListAt.nil _ _ _ _, fun _ h => (nomatch h), by simp [runV], by omega, fun i hi => ?_⟩, fun i hi => ?_, HB1.out.trans ((HB2.out.trans (hb34.mono HB2.out.size)).mono HB1.out.size), by omega, by omega⟩
    · have := ka i hi; exact ⟨by omega, by omega⟩
    · have := kb i hi; exact ⟨by omega, by omega⟩
    · rcases hi with hi | hi
      · exact hi.elim
      · cases hi)
  have k0 := HP0.out.bk.cells.1
  have k1 := HP0.out.ck.cells.1
  clear HB1 HB2 HB3 HKA HKB HLA HLB HX2 HM2 HTX2 HS2 HBB
  rw [hw4, hcb]
  clear hx4 hb4 hs4 hw4 hcb hN
  go_upto_region 5 with fail
  clear k0 k1
  go_wp2_with fail
  go_loopw [9] (fun iv wr => ∃ (i : Nat) (A1 : Option Addr) (n1 m1 : Nat) (R1 : Nat → Prop) (A2 : Option Addr) (n2 m2 : Nat) (R2 : Nat → Prop), iv = .int .i64 i ∧ i ≤ n ∧ i ≤ 30 ∧ Hid (Pair wb wr N bb g b1 b2 cb h c1 c2 (i * 60000000000) (i * 60000000000) A1 n1 m1 R1 A2 n2 m2 R2 (runV (ops.take i)) (runV (ops.take i)))) (fun iv _ => n - (intOf iv).toNat)
  case atStart => exact ⟨0, _, _, _, _, _, _, _, _, rfl, Nat.zero_le _, by omega, HP0.out⟩
  case round =>
    as_aux_lemma =>
      refine id ?_
      obtain ⟨i, A1, n1, m1, R1, A2, n2, m2, R2, rfl, hi, hi3, hpr⟩ := hrel
      obtain ⟨wq, rfl⟩ : ∃ wq, wq = wr := ⟨_, rfl⟩
      have HPR := Lib.hid hpr.out
      clear hpr HP0
      go_upto_region 6 with fail
      go_cut [39] (fun s wx => s = .bool (decide (i < n ∧ i < 30)) ∧ wq = wx)
      case first =>
        as_aux_lemma =>
          refine id ?_
          by_cases hjl : i < n
          · have hjl' : (i : Int) < (n : Int) := by omega
            by_cases hj4 : i < 30
            · have hj4' : (i : Int) < 30 := by omega
              go_wp2
              go_meet
              exact ⟨by simp [hjl, hj4], rfl⟩
            · have hj4' : ¬ (i : Int) < 30 := by omega
              go_wp2
              go_meet
              exact ⟨by simp [hj4], rfl⟩
          · have hjl' : ¬ (i : Int) < (n : Int) := by omega
            go_wp2
            go_meet
            exact ⟨by simp [hjl], rfl⟩
      case rest =>
        as_aux_lemma =>
          refine id ?_
          obtain ⟨rfl, rfl⟩ := hcut
          by_cases hgo : i < n ∧ i < 30
          · rw [decide_eq_true hgo]
            obtain ⟨hlt, hlt3⟩ := hgo
            have hil : i < ops.length := by rw [HNL.out]; exact hlt
            obtain ⟨a, d, rfl, hPa, hcl, hrw⟩ := op_at HR.out i hil
            have hfx := HOK.out _ (List.getElem_mem hil)
            have htk : runV (ops.take (i + 1)) = (stepV (runV (ops.take i)).1 (runV (ops.take i)).2.1 (runV (ops.take i)).2.2 ops[i]).2 := by rw [List.take_succ_eq_append_getElem hil, runV_snoc]
            obtain ⟨x, hx⟩ : ∃ x, ops[i] = x := ⟨_, rfl⟩
            rw [hx] at hcl hrw hfx htk
            obtain ⟨st, hst⟩ : ∃ st, runV (ops.take i) = st := ⟨_, rfl⟩
            rw [hst] at htk HPR
            have HTK := Lib.hid htk
            have HRW := Lib.hid (hrw.below HBW.out)
            have HFX := Lib.hid hfx
            have HBQ := Lib.hid (HBW.out.trans (HPR.out.below.mono HBW.out.size))
            have HCW := Lib.hid hcl
            have HCL := Lib.hid (show ∀ j v, ([.bool x.two, .int .i64 x.kind, .string x.o.path, .string x.o.name, .slice d.L x.o.ls.length d.m, .int .i64 x.o.prio, .int .i64 x.o.dl, .slice d.B x.o.parts.length d.c, .int .i64 x.o.ver, .string x.p.path, .string x.p.name, .slice d.L' x.p.ls.length d.m', .int .i64 x.p.prio, .int .i64 x.p.dl, .slice d.B' x.p.parts.length d.c', .int .i64 x.p.ver, .int .i64 x.s.kind, .int .i64 x.s.arg, .string x.r] : List Value)[j]? = some v → wq.cell? ((a.add (i * 19)).add j) = some v from op_cells (hcl.below HBQ.out))
            have hlti : (i : Int) < (n : Int) := by omega
            have hi0 : (0 : Int) ≤ (i : Int) := by omega
            have HPW := Lib.hid (show ∀ k, (P k ∧ k < w.heap.size) → k < wb.heap.size from fun k hk => Nat.lt_of_lt_of_le hk.2 HBW.out.size)
            have HS1 := Lib.hid (step_any (HPR.out.stepIn HSB.out HRW.out HPW.out HFX.out (by omega)))
            clear hcl hrw hfx htk hx hst
            go_upto_region 8 with fail
            iterate 13 go_step
            refine wpList_load_list rfl 58 (.tmp 45) rfl (a.add (i * 19)) rfl [.bool x.two, .int .i64 x.kind, .string x.o.path, .string x.o.name, .slice d.L x.o.ls.length d.m, .int .i64 x.o.prio, .int .i64 x.o.dl, .slice d.B x.o.parts.length d.c, .int .i64 x.o.ver, .string x.p.path, .string x.p.name, .slice d.L' x.p.ls.length d.m', .int .i64 x.p.prio, .int .i64 x.p.dl, .slice d.B' x.p.parts.length d.c', .int .i64 x.p.ver, .int .i64 x.s.kind, .int .i64 x.s.arg, .string x.r] _ HCL.out Tryz.underlying58 rfl 19 rfl (by kernel_rfl) ?_
            go_upto_region 9 with (go_at_call 23; refine HS1.out.mono ?_; rintro e w5 hp5; obtain ⟨rfl, A3, n3, m3, R3, hp6⟩ := HPR.out.on HSB.out hp5; have HP6 := Lib.hid hp6; clear hp5 hp6)
            have HS2 := Lib.hid (step_any (HP6.out.swap.stepIn HSB.out.swap HRW.out HPW.out HFX.out (by omega)))
            have HCL2 := Lib.hid (show ∀ j v, ([.bool x.two, .int .i64 x.kind, .string x.o.path, .string x.o.name, .slice d.L x.o.ls.length d.m, .int .i64 x.o.prio, .int .i64 x.o.dl, .slice d.B x.o.parts.length d.c, .int .i64 x.o.ver, .string x.p.path, .string x.p.name, .slice d.L' x.p.ls.length d.m', .int .i64 x.p.prio, .int .i64 x.p.dl, .slice d.B' x.p.parts.length d.c', .int .i64 x.p.ver, .int .i64 x.s.kind, .int .i64 x.s.arg, .string x.r] : List Value)[j]? = some v → w5.cell? ((a.add (i * 19)).add j) = some v from op_cells (HCW.out.below (HBW.out.trans (HP6.out.below.mono HBW.out.size))))
            clear HS1 HCL HCW HBQ
            iterate 13 go_step
            refine wpList_load_list rfl 58 (.tmp 51) rfl (a.add (i * 19)) rfl [.bool x.two, .int .i64 x.kind, .string x.o.path, .string x.o.name, .slice d.L x.o.ls.length d.m, .int .i64 x.o.prio, .int .i64 x.o.dl, .slice d.B x.o.parts.length d.c, .int .i64 x.o.ver, .string x.p.path, .string x.p.name, .slice d.L' x.p.ls.length d.m', .int .i64 x.p.prio, .int .i64 x.p.dl, .slice d.B' x.p.parts.length d.c', .int .i64 x.p.ver, .int .i64 x.s.kind, .int .i64 x.s.arg, .string x.r] _ HCL2.out Tryz.underlying58 rfl 19 rfl (by kernel_rfl) ?_
            go_wp2_with (go_at_call 23; refine HS2.out.mono ?_; rintro e w6 hp5; obtain ⟨rfl, A4, n4, m4, R4, hp6⟩ := HP6.out.swap.on HSB.out.swap hp5; have HP7 := Lib.hid hp6.swap; clear hp5 hp6)
            go_roundw
            case rel =>
              refine ⟨i + 1, A3, n3, m3, R3, A4, n4, m4, R4, by go_num, hlt, hlt3, ?_⟩
              rw [HTK.out, show (i + 1) * 60000000000 = i * 60000000000 + 60000000000 from by omega]
              exact HP7.out
            case measure => simp [intOf]; omega
          · rw [decide_eq_false hgo]
            have HMM := Lib.hid (show i * 60000000000 + 60000000000 ≤ 2400000000000 from by omega)
            obtain ⟨M, hM⟩ : ∃ M, i * 60000000000 + 60000000000 = M := ⟨_, rfl⟩
            have hok0 := HPR.out.bk.ok
            have hu0 := HPR.out.und (M := M) (by omega) (by omega)
            obtain ⟨⟨S, C, held⟩, hst⟩ : ∃ st, runV (ops.take i) = st := ⟨_, rfl⟩
            rw [hst] at hok0 hu0
            simp only at hok0 hu0
            rw [hM] at HMM
            have HU0 := Lib.hid hu0
            obtain ⟨⟨z1, S1, C1⟩, hc1⟩ : ∃ r, chargeV S C o.v = r := ⟨_, rfl⟩
            obtain ⟨⟨z2, S2, C2⟩, hc2⟩ : ∃ r, chargeV S C p.v = r := ⟨_, rfl⟩
            have hok1 := chargeV_six hok0 HFO.out.ok
            have hok2 := chargeV_six hok0 HFP.out.ok
            rw [hM, hc1] at hok1
            rw [hM, hc2] at hok2
            have HOK0 := Lib.hid (hok0.mono (show i * 60000000000 ≤ M from by omega))
            have HOK1 := Lib.hid hok1
            have HOK2 := Lib.hid hok2
            have HC1 := Lib.hid hc1
            have HC2 := Lib.hid hc2
            have HST := Lib.hid (show ∀ (W : World), UndX wb W bb g b1 b2 cb h c1 c2 M → (W.cell? ⟨bb, 0, none⟩ = some (.pointer (some ⟨g, 0, none⟩)) ∧ W.cell? ⟨cb, 0, none⟩ = some (.pointer (some ⟨h, 0, none⟩)) ∧ W.cell? ⟨t4, 0, none⟩ = some (.string o.path) ∧ W.cell? ⟨t4, 1, none⟩ = some (.string o.name) ∧ W.cell? ⟨t4, 2, none⟩ = some (.slice Lo o.ls.length mo) ∧ W.cell? ⟨t4, 3, none⟩ = some (.int .i64 o.prio) ∧ W.cell? ⟨t4, 4, none⟩ = some (.int .i64 o.dl) ∧ W.cell? ⟨t4, 5, none⟩ = some (.slice Bo o.parts.length co) ∧ W.cell? ⟨t4, 6, none⟩ = some (.int .i64 o.ver) ∧ W.cell? ⟨t5, 0, none⟩ = some (.string p.path) ∧ W.cell? ⟨t5, 1, none⟩ = some (.string p.name) ∧ W.cell? ⟨t5, 2, none⟩ = some (.slice Lp p.ls.length mp) ∧ W.cell? ⟨t5, 3, none⟩ = some (.int .i64 p.prio) ∧ W.cell? ⟨t5, 4, none⟩ = some (.int .i64 p.dl) ∧ W.cell? ⟨t5, 5, none⟩ = some (.slice Bp p.parts.length cp) ∧ W.cell? ⟨t5, 6, none⟩ = some (.int .i64 p.ver)) from fun W ux => by
              obtain ⟨_, _, _, _, _, _, _, _, u⟩ := ux
              have hs := HSB0.out
              have e4 := HT4.out
              have e5 := HT5.out
              have h4 : W.heap[t4]? = _ := (u.below.block t4 (by omega)).trans HXO.out
              have h5 : W.heap[t5]? = _ := (u.below.block t5 (by omega)).trans HXP.out
              exact ⟨u.k0, u.k1, (cell_of_row _ _ 0 _ _ _ h4).trans rfl, (cell_of_row _ _ 1 _ _ _ h4).trans rfl, (cell_of_row _ _ 2 _ _ _ h4).trans rfl, (cell_of_row _ _ 3 _ _ _ h4).trans rfl, (cell_of_row _ _ 4 _ _ _ h4).trans rfl, (cell_of_row _ _ 5 _ _ _ h4).trans rfl, (cell_of_row _ _ 6 _ _ _ h4).trans rfl, (cell_of_row _ _ 0 _ _ _ h5).trans rfl, (cell_of_row _ _ 1 _ _ _ h5).trans rfl, (cell_of_row _ _ 2 _ _ _ h5).trans rfl, (cell_of_row _ _ 3 _ _ _ h5).trans rfl, (cell_of_row _ _ 4 _ _ _ h5).trans rfl, (cell_of_row _ _ 5 _ _ _ h5).trans rfl, (cell_of_row _ _ 6 _ _ _ h5).trans rfl⟩)
            clear hok0 hu0 hst hok1 hok2 hc1 hc2 hM HPR
            go_upto_region 10 with fail
            have HZ1 := HSB
            have k0 := HU0.out.k0
            go_upto_region 11 with (go_at_call 14; refine (Und.rows (by repeat (first | exact HU0.out | refine Und.drew ?_)) HZ1.out HOK0.out HMM.out).mono ?_; rintro e w1 ⟨Aw1, cw1, Rw1, rfl, hr, hl, hrow, hu⟩; have HU1 := Lib.hid (hu.put1 hrow); have HRS1 := Lib.hid hr; have HLE1 := Lib.hid hl; clear hr hl hrow hu HU0 HZ1)
            clear k0
            have HO2 := HOWo
            have HZ3 := HSB
            go_upto_region 11 with fail
            go_cut [11] (fun v wx => v = .int .i64 z1 ∧ Und wb wx bb g b1 b2 cb h c1 c2 M S1 C1 S C Aw1 Rw1 none [])
            case first =>
              as_aux_lemma =>
                refine id ?_
                go_region_held3 (fun w' => w'.cell? ⟨bb, 0, none⟩ = some (.pointer (some ⟨g, 0, none⟩)) ∧ w'.cell? ⟨cb, 0, none⟩ = some (.pointer (some ⟨h, 0, none⟩)) ∧ w'.cell? ⟨t4, 0, none⟩ = some (.string o.path) ∧ w'.cell? ⟨t4, 1, none⟩ = some (.string o.name) ∧ w'.cell? ⟨t4, 2, none⟩ = some (.slice Lo o.ls.length mo) ∧ w'.cell? ⟨t4, 3, none⟩ = some (.int .i64 o.prio) ∧ w'.cell? ⟨t4, 4, none⟩ = some (.int .i64 o.dl) ∧ w'.cell? ⟨t4, 5, none⟩ = some (.slice Bo o.parts.length co) ∧ w'.cell? ⟨t4, 6, none⟩ = some (.int .i64 o.ver) ∧ w'.cell? ⟨t5, 0, none⟩ = some (.string p.path) ∧ w'.cell? ⟨t5, 1, none⟩ = some (.string p.name) ∧ w'.cell? ⟨t5, 2, none⟩ = some (.slice Lp p.ls.length mp) ∧ w'.cell? ⟨t5, 3, none⟩ = some (.int .i64 p.prio) ∧ w'.cell? ⟨t5, 4, none⟩ = some (.int .i64 p.dl) ∧ w'.cell? ⟨t5, 5, none⟩ = some (.slice Bp p.parts.length cp) ∧ w'.cell? ⟨t5, 6, none⟩ = some (.int .i64 p.ver)) (exact HST.out _ (by repeat (first | exact HU3.out.x | exact HU2.out.x | exact HU1.out.x | refine UndX.drew ?_))) (first
                  | (go_at_call 10; refine (HO2.out _ (by repeat (first | exact HU1.out.below | refine Below.drew ?_))).mono ?_; rintro e w2 ⟨L2, m2, B2, e2, rfl, hr, hb⟩; have hb' := BJp hb (show Below w1.heap.size w1 _ from (by repeat (first | exact Below.refl _ _ | refine Below.drew ?_))); have HU2 := Lib.hid (HU1.out.then_ hb'); have HR2x2 := Lib.hid ((kObj_parts hr).1.mono (fun k hk => show ¬ mapB b1 b2 k ∧ ¬ mapB c1 c2 k from ⟨fun e => by have h1 : w1.heap.size ≤ k := hk.1; have h2 := HU1.out.b.lt k (.inr e); omega, fun e => by have h1 : w1.heap.size ≤ k := hk.1; have h2 := HU1.out.c.lt k (.inr e); omega⟩)); clear hr hb hb' HU1 HO2)
                  | (go_at_call 17; refine (Und.charge (by repeat (first | exact HU2.out | refine Und.drew ?_)) HZ3.out HOK0.out HMM.out HFO.out.ok L2 m2 B2 e2 _ (HR2x2.out.below (by repeat (first | exact Below.refl _ _ | refine Below.drew ?_))) HC1.out HOK1.out).mono ?_; rintro e w3 ⟨rfl, hu⟩; have HU3 := Lib.hid hu; clear hu HU2 HZ3 HR2x2))
                all_goals (go_wp2_with fail; go_meet; exact ⟨rfl, HU3.out⟩)
            case rest =>
              as_aux_lemma =>
                refine id ?_
                obtain ⟨rfl, hu⟩ := hcut
                rename World => w3
                have HU3 := Lib.hid hu
                clear hu HU1
                by_cases hz1 : z1 = 0
                · subst hz1
                  have HCH := Lib.hid (changeV_self HOK0.out HFO.out.ok.use HC1.out)
                  have HRL := Lib.hid (releaseV_charged HOK0.out HFO.out.ok.use HC1.out)
                  have k0 := HU3.out.k0
                  have HZ4 := HSB
                  go_upto_region 15 with (go_at_call 14; refine (Und.rows (by repeat (first | exact HU3.out | refine Und.drew ?_)) HZ4.out HOK1.out HMM.out).mono ?_; rintro e w4 ⟨Aw4, cw4, Rw4, rfl, hr, hl, hrow, hu⟩; have HU4 := Lib.hid (hu.put2 hrow); have HRS2 := Lib.hid hr; have HLE2 := Lib.hid hl; clear hr hl hrow hu HU3 HZ4)
                  clear k0
                  have HO5 := HOWo
                  have HO6 := HOWo
                  have HZ7 := HSB
                  have HZ8 := HSB
                  go_upto_region 15 with fail
                  go_cut [99] (fun v wx => v = .bool false ∧ Und wb wx bb g b1 b2 cb h c1 c2 M S1 C1 S C Aw1 Rw1 Aw4 Rw4)
                  case first =>
                    as_aux_lemma =>
                      refine id ?_
                      go_region_held3 (fun w' => w'.cell? ⟨bb, 0, none⟩ = some (.pointer (some ⟨g, 0, none⟩)) ∧ w'.cell? ⟨cb, 0, none⟩ = some (.pointer (some ⟨h, 0, none⟩)) ∧ w'.cell? ⟨t4, 0, none⟩ = some (.string o.path) ∧ w'.cell? ⟨t4, 1, none⟩ = some (.string o.name) ∧ w'.cell? ⟨t4, 2, none⟩ = some (.slice Lo o.ls.length mo) ∧ w'.cell? ⟨t4, 3, none⟩ = some (.int .i64 o.prio) ∧ w'.cell? ⟨t4, 4, none⟩ = some (.int .i64 o.dl) ∧ w'.cell? ⟨t4, 5, none⟩ = some (.slice Bo o.parts.length co) ∧ w'.cell? ⟨t4, 6, none⟩ = some (.int .i64 o.ver) ∧ w'.cell? ⟨t5, 0, none⟩ = some (.string p.path) ∧ w'.cell? ⟨t5, 1, none⟩ = some (.string p.name) ∧ w'.cell? ⟨t5, 2, none⟩ = some (.slice Lp p.ls.length mp) ∧ w'.cell? ⟨t5, 3, none⟩ = some (.int .i64 p.prio) ∧ w'.cell? ⟨t5, 4, none⟩ = some (.int .i64 p.dl) ∧ w'.cell? ⟨t5, 5, none⟩ = some (.slice Bp p.parts.length cp) ∧ w'.cell? ⟨t5, 6, none⟩ = some (.int .i64 p.ver)) (exact HST.out _ (by repeat (first | exact HU9.out.x | exact HU8.out.x | exact HU7.out.x | exact HU6.out.x | exact HU5.out.x | exact HU4.out.x | refine UndX.drew ?_))) (first
                        | (go_at_call 10; refine (HO5.out _ (by repeat (first | exact HU4.out.below | refine Below.drew ?_))).mono ?_; rintro e w5 ⟨L5, m5, B5, e5, rfl, hr, hb⟩; have hb' := BJp hb (show Below w4.heap.size w4 _ from (by repeat (first | exact Below.refl _ _ | refine Below.drew ?_))); have HU5 := Lib.hid (HU4.out.then_ hb'); have HR5x5 := Lib.hid ((kObj_parts hr).1.mono (fun k hk => show ¬ mapB b1 b2 k ∧ ¬ mapB c1 c2 k from ⟨fun e => by have h1 : w4.heap.size ≤ k := hk.1; have h2 := HU4.out.b.lt k (.inr e); omega, fun e => by have h1 : w4.heap.size ≤ k := hk.1; have h2 := HU4.out.c.lt k (.inr e); omega⟩)); clear hr hb hb' HU4 HO5)
                        | (go_at_call 10; refine (HO6.out _ (by repeat (first | exact HU5.out.below | refine Below.drew ?_))).mono ?_; rintro e w6 ⟨L6, m6, B6, e6, rfl, hr, hb⟩; have hb' := BJp hb (show Below w5.heap.size w5 _ from (by repeat (first | exact Below.refl _ _ | refine Below.drew ?_))); have HU6 := Lib.hid (HU5.out.then_ hb'); have HR6x6 := Lib.hid ((kObj_parts hr).1.mono (fun k hk => show ¬ mapB b1 b2 k ∧ ¬ mapB c1 c2 k from ⟨fun e => by have h1 : w5.heap.size ≤ k := hk.1; have h2 := HU5.out.b.lt k (.inr e); omega, fun e => by have h1 : w5.heap.size ≤ k := hk.1; have h2 := HU5.out.c.lt k (.inr e); omega⟩)); have HR5x6 := Lib.hid (HR5x5.out.below hb'); clear HR5x5; clear hr hb hb' HU5 HO6)
                        | (go_at_call 24; refine (Und.change (by repeat (first | exact HU6.out | refine Und.drew ?_)) HZ7.out HOK1.out HMM.out HFO.out.ok HFO.out.ok L5 m5 B5 e5 _ (HR5x6.out.below (by repeat (first | exact Below.refl _ _ | refine Below.drew ?_))) L6 m6 B6 e6 _ (HR6x6.out.below (by repeat (first | exact Below.refl _ _ | refine Below.drew ?_))) (fun k hk => hk.1) HCH.out HOK1.out).mono ?_; rintro e w7 ⟨rfl, hu⟩; have HU7 := Lib.hid hu; clear hu HU6 HZ7 HR5x6 HR6x6)
                        | (go_at_call 14; refine (Und.rows (by repeat (first | exact HU7.out | refine Und.drew ?_)) HZ8.out HOK1.out HMM.out).mono ?_; rintro e w8 ⟨Aw8, cw8, Rw8, rfl, hr, hl, hrow, hu⟩; have heq := rowsOf_unique hr HRS2.out; have HU8 := Lib.hid hu; have HW8 := Lib.hid (heq ▸ hrow); rw [heq]; clear hr hl hrow hu heq HU7 HZ8)
                        | (go_at_call 13; refine (sameRows_val Aw4 Aw8 _ cw4 cw8 _ _ Rw4 _ (HU8.out.rb.below (by repeat (first | exact Below.refl _ _ | refine Below.drew ?_))) (HW8.out.below (by repeat (first | exact Below.refl _ _ | refine Below.drew ?_))) rfl HLE2.out).mono ?_; rintro e w9 ⟨rfl, hb⟩; have HU9 := Lib.hid (HU8.out.then_ (BJp hb (show Below w8.heap.size w8 _ from (by repeat (first | exact Below.refl _ _ | refine Below.drew ?_))))); clear hb HU8 HW8))
                      all_goals (go_wp2_with fail; go_meet; exact ⟨rfl, HU9.out⟩)
                  case rest =>
                    as_aux_lemma =>
                      refine id ?_
                      obtain ⟨rfl, hu⟩ := hcut
                      rename World => w9
                      have HU9 := Lib.hid hu
                      clear hu HU4
                      obtain ⟨⟨z3, S3, C3⟩, hc3⟩ : ∃ r, changeV S1 C1 o.v p.v = r := ⟨_, rfl⟩
                      have hcase := change_cases HOK0.out HFO.out.ok.use HC1.out HC2.out hc3
                      obtain ⟨rfl, hcase⟩ := hcase
                      have HCASE := Lib.hid hcase
                      have HC3 := Lib.hid hc3
                      have HOK3 := Lib.hid (show LedOk M S3 C3 from by
                        rcases hcase with ⟨-, h1, h2⟩ | ⟨-, h1, h2⟩
                        · rw [h1, h2]; exact HOK2.out
                        · rw [h1, h2]; exact HOK1.out)
                      have hzz : (z3 != z3) = false := by simp
                      clear hc3 hcase
                      have HO10 := HOWo
                      have HO11 := HOWp
                      have HZ12 := HSB
                      go_upto_region 17 with fail
                      go_cut [11] (fun v wx => v = .int .i64 z3 ∧ Und wb wx bb g b1 b2 cb h c1 c2 M S3 C3 S C Aw1 Rw1 Aw4 Rw4)
                      case first =>
                        as_aux_lemma =>
                          refine id ?_
                          go_region_held3 (fun w' => w'.cell? ⟨bb, 0, none⟩ = some (.pointer (some ⟨g, 0, none⟩)) ∧ w'.cell? ⟨cb, 0, none⟩ = some (.pointer (some ⟨h, 0, none⟩)) ∧ w'.cell? ⟨t4, 0, none⟩ = some (.string o.path) ∧ w'.cell? ⟨t4, 1, none⟩ = some (.string o.name) ∧ w'.cell? ⟨t4, 2, none⟩ = some (.slice Lo o.ls.length mo) ∧ w'.cell? ⟨t4, 3, none⟩ = some (.int .i64 o.prio) ∧ w'.cell? ⟨t4, 4, none⟩ = some (.int .i64 o.dl) ∧ w'.cell? ⟨t4, 5, none⟩ = some (.slice Bo o.parts.length co) ∧ w'.cell? ⟨t4, 6, none⟩ = some (.int .i64 o.ver) ∧ w'.cell? ⟨t5, 0, none⟩ = some (.string p.path) ∧ w'.cell? ⟨t5, 1, none⟩ = some (.string p.name) ∧ w'.cell? ⟨t5, 2, none⟩ = some (.slice Lp p.ls.length mp) ∧ w'.cell? ⟨t5, 3, none⟩ = some (.int .i64 p.prio) ∧ w'.cell? ⟨t5, 4, none⟩ = some (.int .i64 p.dl) ∧ w'.cell? ⟨t5, 5, none⟩ = some (.slice Bp p.parts.length cp) ∧ w'.cell? ⟨t5, 6, none⟩ = some (.int .i64 p.ver)) (exact HST.out _ (by repeat (first | exact HU12.out.x | exact HU11.out.x | exact HU10.out.x | exact HU9.out.x | refine UndX.drew ?_))) (first
                            | (go_at_call 10; refine (HO10.out _ (by repeat (first | exact HU9.out.below | refine Below.drew ?_))).mono ?_; rintro e w10 ⟨L10, m10, B10, e10, rfl, hr, hb⟩; have hb' := BJp hb (show Below w9.heap.size w9 _ from (by repeat (first | exact Below.refl _ _ | refine Below.drew ?_))); have HU10 := Lib.hid (HU9.out.then_ hb'); have HR10x10 := Lib.hid ((kObj_parts hr).1.mono (fun k hk => show ¬ mapB b1 b2 k ∧ ¬ mapB c1 c2 k from ⟨fun e => by have h1 : w9.heap.size ≤ k := hk.1; have h2 := HU9.out.b.lt k (.inr e); omega, fun e => by have h1 : w9.heap.size ≤ k := hk.1; have h2 := HU9.out.c.lt k (.inr e); omega⟩)); clear hr hb hb' HU9 HO10)
                            | (go_at_call 10; refine (HO11.out _ (by repeat (first | exact HU10.out.below | refine Below.drew ?_))).mono ?_; rintro e w11 ⟨L11, m11, B11, e11, rfl, hr, hb⟩; have hb' := BJp hb (show Below w10.heap.size w10 _ from (by repeat (first | exact Below.refl _ _ | refine Below.drew ?_))); have HU11 := Lib.hid (HU10.out.then_ hb'); have HR11x11 := Lib.hid ((kObj_parts hr).1.mono (fun k hk => show ¬ mapB b1 b2 k ∧ ¬ mapB c1 c2 k from ⟨fun e => by have h1 : w10.heap.size ≤ k := hk.1; have h2 := HU10.out.b.lt k (.inr e); omega, fun e => by have h1 : w10.heap.size ≤ k := hk.1; have h2 := HU10.out.c.lt k (.inr e); omega⟩)); have HR10x11 := Lib.hid (HR10x10.out.below hb'); clear HR10x10; clear hr hb hb' HU10 HO11)
                            | (go_at_call 24; refine (Und.change (by repeat (first | exact HU11.out | refine Und.drew ?_)) HZ12.out HOK1.out HMM.out HFO.out.ok HFP.out.ok L10 m10 B10 e10 _ (HR10x11.out.below (by repeat (first | exact Below.refl _ _ | refine Below.drew ?_))) L11 m11 B11 e11 _ (HR11x11.out.below (by repeat (first | exact Below.refl _ _ | refine Below.drew ?_))) (fun k hk => hk.1) HC3.out HOK3.out).mono ?_; rintro e w12 ⟨rfl, hu⟩; have HU12 := Lib.hid hu; clear hu HU11 HZ12 HR10x11 HR11x11))
                          all_goals (go_wp2_with fail; go_meet; exact ⟨rfl, HU12.out⟩)
                      case rest =>
                        as_aux_lemma =>
                          refine id ?_
                          obtain ⟨rfl, hu⟩ := hcut
                          rename World => w12
                          have HU12 := Lib.hid hu
                          clear hu HU9
                          have HO13 := HOWo
                          have HZ14 := HSB
                          go_upto_region 18 with fail
                          go_cut [] (fun wx => Und wb wx bb g b1 b2 cb h c1 c2 M S3 C3 S1 C1 Aw1 Rw1 Aw4 Rw4)
                          case first =>
                            as_aux_lemma =>
                              refine id ?_
                              go_region_held3 (fun w' => w'.cell? ⟨bb, 0, none⟩ = some (.pointer (some ⟨g, 0, none⟩)) ∧ w'.cell? ⟨cb, 0, none⟩ = some (.pointer (some ⟨h, 0, none⟩)) ∧ w'.cell? ⟨t4, 0, none⟩ = some (.string o.path) ∧ w'.cell? ⟨t4, 1, none⟩ = some (.string o.name) ∧ w'.cell? ⟨t4, 2, none⟩ = some (.slice Lo o.ls.length mo) ∧ w'.cell? ⟨t4, 3, none⟩ = some (.int .i64 o.prio) ∧ w'.cell? ⟨t4, 4, none⟩ = some (.int .i64 o.dl) ∧ w'.cell? ⟨t4, 5, none⟩ = some (.slice Bo o.parts.length co) ∧ w'.cell? ⟨t4, 6, none⟩ = some (.int .i64 o.ver) ∧ w'.cell? ⟨t5, 0, none⟩ = some (.string p.path) ∧ w'.cell? ⟨t5, 1, none⟩ = some (.string p.name) ∧ w'.cell? ⟨t5, 2, none⟩ = some (.slice Lp p.ls.length mp) ∧ w'.cell? ⟨t5, 3, none⟩ = some (.int .i64 p.prio) ∧ w'.cell? ⟨t5, 4, none⟩ = some (.int .i64 p.dl) ∧ w'.cell? ⟨t5, 5, none⟩ = some (.slice Bp p.parts.length cp) ∧ w'.cell? ⟨t5, 6, none⟩ = some (.int .i64 p.ver)) (exact HST.out _ (by repeat (first | exact HU14.out.x | exact HU13.out.x | exact HU12.out.x | refine UndX.drew ?_))) (first
                                | (go_at_call 10; refine (HO13.out _ (by repeat (first | exact HU12.out.below | refine Below.drew ?_))).mono ?_; rintro e w13 ⟨L13, m13, B13, e13, rfl, hr, hb⟩; have hb' := BJp hb (show Below w12.heap.size w12 _ from (by repeat (first | exact Below.refl _ _ | refine Below.drew ?_))); have HU13 := Lib.hid (HU12.out.then_ hb'); have HR13x13 := Lib.hid ((kObj_parts hr).1.mono (fun k hk => show ¬ mapB b1 b2 k ∧ ¬ mapB c1 c2 k from ⟨fun e => by have h1 : w12.heap.size ≤ k := hk.1; have h2 := HU12.out.b.lt k (.inr e); omega, fun e => by have h1 : w12.heap.size ≤ k := hk.1; have h2 := HU12.out.c.lt k (.inr e); omega⟩)); clear hr hb hb' HU12 HO13)
                                | (go_at_call 17; refine (Und.charge (Und.swap (by repeat (first | exact HU13.out | refine Und.drew ?_))) HZ14.out.swap HOK0.out HMM.out HFO.out.ok L13 m13 B13 e13 _ (HR13x13.out.below (by repeat (first | exact Below.refl _ _ | refine Below.drew ?_))) HC1.out HOK1.out).mono ?_; rintro e w14 ⟨rfl, hu⟩; have HU14 := Lib.hid hu.swap; clear hu HU13 HZ14 HR13x13))
                              all_goals (go_wp2_with fail; go_meet; exact HU14.out)
                          case rest =>
                            as_aux_lemma =>
                              refine id ?_
                              have hu := hcut
                              rename World => w14
                              have HU14 := Lib.hid hu
                              clear hu HU12
                              have HO15 := HOWo
                              have HZ16 := HSB
                              have HZ17 := HSB
                              go_upto_region 19 with fail
                              go_cut [133] (fun v wx => v = .bool false ∧ Und wb wx bb g b1 b2 cb h c1 c2 M S3 C3 S C Aw1 Rw1 Aw4 Rw4)
                              case first =>
                                as_aux_lemma =>
                                  refine id ?_
                                  go_region_held3 (fun w' => w'.cell? ⟨bb, 0, none⟩ = some (.pointer (some ⟨g, 0, none⟩)) ∧ w'.cell? ⟨cb, 0, none⟩ = some (.pointer (some ⟨h, 0, none⟩)) ∧ w'.cell? ⟨t4, 0, none⟩ = some (.string o.path) ∧ w'.cell? ⟨t4, 1, none⟩ = some (.string o.name) ∧ w'.cell? ⟨t4, 2, none⟩ = some (.slice Lo o.ls.length mo) ∧ w'.cell? ⟨t4, 3, none⟩ = some (.int .i64 o.prio) ∧ w'.cell? ⟨t4, 4, none⟩ = some (.int .i64 o.dl) ∧ w'.cell? ⟨t4, 5, none⟩ = some (.slice Bo o.parts.length co) ∧ w'.cell? ⟨t4, 6, none⟩ = some (.int .i64 o.ver) ∧ w'.cell? ⟨t5, 0, none⟩ = some (.string p.path) ∧ w'.cell? ⟨t5, 1, none⟩ = some (.string p.name) ∧ w'.cell? ⟨t5, 2, none⟩ = some (.slice Lp p.ls.length mp) ∧ w'.cell? ⟨t5, 3, none⟩ = some (.int .i64 p.prio) ∧ w'.cell? ⟨t5, 4, none⟩ = some (.int .i64 p.dl) ∧ w'.cell? ⟨t5, 5, none⟩ = some (.slice Bp p.parts.length cp) ∧ w'.cell? ⟨t5, 6, none⟩ = some (.int .i64 p.ver)) (exact HST.out _ (by repeat (first | exact HU18.out.x | exact HU17.out.x | exact HU16.out.x | exact HU15.out.x | exact HU14.out.x | refine UndX.drew ?_))) (first
                                    | (go_at_call 10; refine (HO15.out _ (by repeat (first | exact HU14.out.below | refine Below.drew ?_))).mono ?_; rintro e w15 ⟨L15, m15, B15, e15, rfl, hr, hb⟩; have hb' := BJp hb (show Below w14.heap.size w14 _ from (by repeat (first | exact Below.refl _ _ | refine Below.drew ?_))); have HU15 := Lib.hid (HU14.out.then_ hb'); have HR15x15 := Lib.hid ((kObj_parts hr).1.mono (fun k hk => show ¬ mapB b1 b2 k ∧ ¬ mapB c1 c2 k from ⟨fun e => by have h1 : w14.heap.size ≤ k := hk.1; have h2 := HU14.out.b.lt k (.inr e); omega, fun e => by have h1 : w14.heap.size ≤ k := hk.1; have h2 := HU14.out.c.lt k (.inr e); omega⟩)); clear hr hb hb' HU14 HO15)
                                    | (go_at_call 18; refine (Und.release (Und.swap (by repeat (first | exact HU15.out | refine Und.drew ?_))) HZ16.out.swap HOK1.out HMM.out HFO.out.ok L15 m15 B15 e15 _ (HR15x15.out.below (by repeat (first | exact Below.refl _ _ | refine Below.drew ?_))) HRL.out HOK0.out).mono ?_; rintro e w16 ⟨rfl, hu⟩; have HU16 := Lib.hid hu.swap; clear hu HU15 HZ16 HR15x15)
                                    | (go_at_call 14; refine (Und.rows (Und.swap (by repeat (first | exact HU16.out | refine Und.drew ?_))) HZ17.out.swap HOK0.out HMM.out).mono ?_; rintro e w17 ⟨Aw17, cw17, Rw17, rfl, hr, hl, hrow, hu⟩; have heq := rowsOf_unique hr HRS1.out; have HU17 := Lib.hid hu.swap; have HW17 := Lib.hid (heq ▸ (hrow.mono fun _ hk => hk.symm)); rw [heq]; clear hr hl hrow hu heq HU16 HZ17)
                                    | (go_at_call 13; refine (sameRows_val Aw17 Aw1 _ cw17 cw1 _ _ Rw1 _ (HW17.out.below (by repeat (first | exact Below.refl _ _ | refine Below.drew ?_))) (HU17.out.ra.below (by repeat (first | exact Below.refl _ _ | refine Below.drew ?_))) rfl HLE1.out).mono ?_; rintro e w18 ⟨rfl, hb⟩; have HU18 := Lib.hid (HU17.out.then_ (BJp hb (show Below w17.heap.size w17 _ from (by repeat (first | exact Below.refl _ _ | refine Below.drew ?_))))); clear hb HU17 HW17))
                                  all_goals (go_wp2_with fail; go_meet; exact ⟨rfl, HU18.out⟩)
                              case rest =>
                                as_aux_lemma =>
                                  refine id ?_
                                  obtain ⟨rfl, hu⟩ := hcut
                                  rename World => w18
                                  have HU18 := Lib.hid hu
                                  clear hu HU14
                                  have HO19 := HOWp
                                  have HZ20 := HSB
                                  go_upto_region 21 with fail
                                  go_cut [13] (fun v wx => v = .int .i64 z3 ∧ Und wb wx bb g b1 b2 cb h c1 c2 M S3 C3 S2 C2 Aw1 Rw1 Aw4 Rw4)
                                  case first =>
                                    as_aux_lemma =>
                                      refine id ?_
                                      go_region_held3 (fun w' => w'.cell? ⟨bb, 0, none⟩ = some (.pointer (some ⟨g, 0, none⟩)) ∧ w'.cell? ⟨cb, 0, none⟩ = some (.pointer (some ⟨h, 0, none⟩)) ∧ w'.cell? ⟨t4, 0, none⟩ = some (.string o.path) ∧ w'.cell? ⟨t4, 1, none⟩ = some (.string o.name) ∧ w'.cell? ⟨t4, 2, none⟩ = some (.slice Lo o.ls.length mo) ∧ w'.cell? ⟨t4, 3, none⟩ = some (.int .i64 o.prio) ∧ w'.cell? ⟨t4, 4, none⟩ = some (.int .i64 o.dl) ∧ w'.cell? ⟨t4, 5, none⟩ = some (.slice Bo o.parts.length co) ∧ w'.cell? ⟨t4, 6, none⟩ = some (.int .i64 o.ver) ∧ w'.cell? ⟨t5, 0, none⟩ = some (.string p.path) ∧ w'.cell? ⟨t5, 1, none⟩ = some (.string p.name) ∧ w'.cell? ⟨t5, 2, none⟩ = some (.slice Lp p.ls.length mp) ∧ w'.cell? ⟨t5, 3, none⟩ = some (.int .i64 p.prio) ∧ w'.cell? ⟨t5, 4, none⟩ = some (.int .i64 p.dl) ∧ w'.cell? ⟨t5, 5, none⟩ = some (.slice Bp p.parts.length cp) ∧ w'.cell? ⟨t5, 6, none⟩ = some (.int .i64 p.ver)) (exact HST.out _ (by repeat (first | exact HU20.out.x | exact HU19.out.x | exact HU18.out.x | refine UndX.drew ?_))) (first
                                        | (go_at_call 10; refine (HO19.out _ (by repeat (first | exact HU18.out.below | refine Below.drew ?_))).mono ?_; rintro e w19 ⟨L19, m19, B19, e19, rfl, hr, hb⟩; have hb' := BJp hb (show Below w18.heap.size w18 _ from (by repeat (first | exact Below.refl _ _ | refine Below.drew ?_))); have HU19 := Lib.hid (HU18.out.then_ hb'); have HR19x19 := Lib.hid ((kObj_parts hr).1.mono (fun k hk => show ¬ mapB b1 b2 k ∧ ¬ mapB c1 c2 k from ⟨fun e => by have h1 : w18.heap.size ≤ k := hk.1; have h2 := HU18.out.b.lt k (.inr e); omega, fun e => by have h1 : w18.heap.size ≤ k := hk.1; have h2 := HU18.out.c.lt k (.inr e); omega⟩)); clear hr hb hb' HU18 HO19)
                                        | (go_at_call 17; refine (Und.charge (Und.swap (by repeat (first | exact HU19.out | refine Und.drew ?_))) HZ20.out.swap HOK0.out HMM.out HFP.out.ok L19 m19 B19 e19 _ (HR19x19.out.below (by repeat (first | exact Below.refl _ _ | refine Below.drew ?_))) HC2.out HOK2.out).mono ?_; rintro e w20 ⟨rfl, hu⟩; have HU20 := Lib.hid hu.swap; clear hu HU19 HZ20 HR19x19))
                                      all_goals (go_wp2_with fail; go_meet; exact ⟨rfl, HU20.out⟩)
                                  case rest =>
                                    as_aux_lemma =>
                                      refine id ?_
                                      obtain ⟨rfl, hu⟩ := hcut
                                      rename World => w20
                                      have HU20 := Lib.hid hu
                                      clear hu HU18
                                      rcases HCASE.out with ⟨hz2, rfl, rfl⟩ | ⟨hz2, rfl, rfl⟩
                                      · subst hz2
                                        have HRP := Lib.hid (releaseV_charged HOK0.out HFP.out.ok.use HC2.out)
                                        clear HRS2 HLE2
                                        go_upto_region 26 with fail
                                        have HZ21 := HSB
                                        have HZ22 := HSB
                                        have HO24 := HOWp
                                        have HZ25 := HSB
                                        have HZ26 := HSB
                                        go_region_held3 (fun w' => w'.cell? ⟨bb, 0, none⟩ = some (.pointer (some ⟨g, 0, none⟩)) ∧ w'.cell? ⟨cb, 0, none⟩ = some (.pointer (some ⟨h, 0, none⟩)) ∧ w'.cell? ⟨t4, 0, none⟩ = some (.string o.path) ∧ w'.cell? ⟨t4, 1, none⟩ = some (.string o.name) ∧ w'.cell? ⟨t4, 2, none⟩ = some (.slice Lo o.ls.length mo) ∧ w'.cell? ⟨t4, 3, none⟩ = some (.int .i64 o.prio) ∧ w'.cell? ⟨t4, 4, none⟩ = some (.int .i64 o.dl) ∧ w'.cell? ⟨t4, 5, none⟩ = some (.slice Bo o.parts.length co) ∧ w'.cell? ⟨t4, 6, none⟩ = some (.int .i64 o.ver) ∧ w'.cell? ⟨t5, 0, none⟩ = some (.string p.path) ∧ w'.cell? ⟨t5, 1, none⟩ = some (.string p.name) ∧ w'.cell? ⟨t5, 2, none⟩ = some (.slice Lp p.ls.length mp) ∧ w'.cell? ⟨t5, 3, none⟩ = some (.int .i64 p.prio) ∧ w'.cell? ⟨t5, 4, none⟩ = some (.int .i64 p.dl) ∧ w'.cell? ⟨t5, 5, none⟩ = some (.slice Bp p.parts.length cp) ∧ w'.cell? ⟨t5, 6, none⟩ = some (.int .i64 p.ver)) (exact HST.out _ (by repeat (first | exact HU27.out.x | exact HU26.out.x | exact HU25.out.x | exact HU24.out.x | exact HU23.out.x | exact HU22.out.x | exact HU21.out.x | exact HU20.out.x | refine UndX.drew ?_))) (first
                                          | (go_at_call 14; refine (Und.rows (Und.drew HU20.out) HZ21.out HOK3.out HMM.out).mono ?_; rintro e w21 ⟨Aw21, cw21, Rw21, rfl, hr, hl, hrow, hu⟩; have HU21 := Lib.hid (hu.put2 hrow); have HRS2 := Lib.hid hr; have HLE2 := Lib.hid hl; clear hr hl hrow hu HU20 HZ21)
                                          | (go_at_call 14; refine (Und.rows (Und.swap (by repeat (first | exact HU21.out | refine Und.drew ?_))) HZ22.out.swap HOK3.out HMM.out).mono ?_; rintro e w22 ⟨Aw22, cw22, Rw22, rfl, hr, hl, hrow, hu⟩; have heq := rowsOf_unique hr HRS2.out; have HU22 := Lib.hid hu.swap; have HW22 := Lib.hid (heq ▸ (hrow.mono fun _ hk => hk.symm)); rw [heq]; clear hr hl hrow hu heq HU21 HZ22)
                                          | (go_at_call 13; refine (sameRows_val Aw21 Aw22 _ cw21 cw22 _ _ Rw21 _ (HU22.out.rb.below (by repeat (first | exact Below.refl _ _ | refine Below.drew ?_))) (HW22.out.below (by repeat (first | exact Below.refl _ _ | refine Below.drew ?_))) rfl HLE2.out).mono ?_; rintro e w23 ⟨rfl, hb⟩; have HU23 := Lib.hid (HU22.out.then_ (BJp hb (show Below w22.heap.size w22 _ from (by repeat (first | exact Below.refl _ _ | refine Below.drew ?_))))); clear hb HU22 HW22)
                                          | (go_at_call 10; refine (HO24.out _ (by repeat (first | exact HU23.out.below | refine Below.drew ?_))).mono ?_; rintro e w24 ⟨L24, m24, B24, e24, rfl, hr, hb⟩; have hb' := BJp hb (show Below w23.heap.size w23 _ from (by repeat (first | exact Below.refl _ _ | refine Below.drew ?_))); have HU24 := Lib.hid (HU23.out.then_ hb'); have HR24x24 := Lib.hid ((kObj_parts hr).1.mono (fun k hk => show ¬ mapB b1 b2 k ∧ ¬ mapB c1 c2 k from ⟨fun e => by have h1 : w23.heap.size ≤ k := hk.1; have h2 := HU23.out.b.lt k (.inr e); omega, fun e => by have h1 : w23.heap.size ≤ k := hk.1; have h2 := HU23.out.c.lt k (.inr e); omega⟩)); clear hr hb hb' HU23 HO24)
                                          | (go_at_call 18; refine (Und.release (by repeat (first | exact HU24.out | refine Und.drew ?_)) HZ25.out HOK3.out HMM.out HFP.out.ok L24 m24 B24 e24 _ (HR24x24.out.below (by repeat (first | exact Below.refl _ _ | refine Below.drew ?_))) HRP.out HOK0.out).mono ?_; rintro e w25 ⟨rfl, hu⟩; have HU25 := Lib.hid hu; clear hu HU24 HZ25 HR24x24)
                                          | (go_at_call 14; refine (Und.rows (by repeat (first | exact HU25.out | refine Und.drew ?_)) HZ26.out HOK0.out HMM.out).mono ?_; rintro e w26 ⟨Aw26, cw26, Rw26, rfl, hr, hl, hrow, hu⟩; have heq := rowsOf_unique hr HRS1.out; have HU26 := Lib.hid hu; have HW26 := Lib.hid (heq ▸ hrow); rw [heq]; clear hr hl hrow hu heq HU25 HZ26)
                                          | (go_at_call 13; refine (sameRows_val Aw26 Aw1 _ cw26 cw1 _ _ Rw1 _ (HW26.out.below (by repeat (first | exact Below.refl _ _ | refine Below.drew ?_))) (HU26.out.ra.below (by repeat (first | exact Below.refl _ _ | refine Below.drew ?_))) rfl HLE1.out).mono ?_; rintro e w27 ⟨rfl, hb⟩; have HU27 := Lib.hid (HU26.out.then_ (BJp hb (show Below w26.heap.size w26 _ from (by repeat (first | exact Below.refl _ _ | refine Below.drew ?_))))); clear hb HU26 HW26))
                                        all_goals
                                          go_wp2_with fail
                                          go_ret
                                          exact ⟨rfl, HBW.out.trans (HU27.out.below.mono HBW.out.size)⟩
                                      · have e1 : (z3 != 0) = true := by simpa using hz2
                                        clear hz2
                                        go_upto_region 25 with fail
                                        have HZ21 := HSB
                                        have HO23 := HOWo
                                        have HZ24 := HSB
                                        have HZ25 := HSB
                                        go_region_held3 (fun w' => w'.cell? ⟨bb, 0, none⟩ = some (.pointer (some ⟨g, 0, none⟩)) ∧ w'.cell? ⟨cb, 0, none⟩ = some (.pointer (some ⟨h, 0, none⟩)) ∧ w'.cell? ⟨t4, 0, none⟩ = some (.string o.path) ∧ w'.cell? ⟨t4, 1, none⟩ = some (.string o.name) ∧ w'.cell? ⟨t4, 2, none⟩ = some (.slice Lo o.ls.length mo) ∧ w'.cell? ⟨t4, 3, none⟩ = some (.int .i64 o.prio) ∧ w'.cell? ⟨t4, 4, none⟩ = some (.int .i64 o.dl) ∧ w'.cell? ⟨t4, 5, none⟩ = some (.slice Bo o.parts.length co) ∧ w'.cell? ⟨t4, 6, none⟩ = some (.int .i64 o.ver) ∧ w'.cell? ⟨t5, 0, none⟩ = some (.string p.path) ∧ w'.cell? ⟨t5, 1, none⟩ = some (.string p.name) ∧ w'.cell? ⟨t5, 2, none⟩ = some (.slice Lp p.ls.length mp) ∧ w'.cell? ⟨t5, 3, none⟩ = some (.int .i64 p.prio) ∧ w'.cell? ⟨t5, 4, none⟩ = some (.int .i64 p.dl) ∧ w'.cell? ⟨t5, 5, none⟩ = some (.slice Bp p.parts.length cp) ∧ w'.cell? ⟨t5, 6, none⟩ = some (.int .i64 p.ver)) (exact HST.out _ (by repeat (first | exact HU26.out.x | exact HU25.out.x | exact HU24.out.x | exact HU23.out.x | exact HU22.out.x | exact HU21.out.x | exact HU20.out.x | refine UndX.drew ?_))) (first
                                          | (go_at_call 14; refine (Und.rows (Und.drew HU20.out) HZ21.out HOK3.out HMM.out).mono ?_; rintro e w21 ⟨Aw21, cw21, Rw21, rfl, hr, hl, hrow, hu⟩; have heq := rowsOf_unique hr HRS2.out; have HU21 := Lib.hid hu; have HW21 := Lib.hid (heq ▸ hrow); rw [heq]; clear hr hl hrow hu heq HU20 HZ21)
                                          | (go_at_call 13; refine (sameRows_val Aw21 Aw4 _ cw21 cw4 _ _ Rw4 _ (HW21.out.below (by repeat (first | exact Below.refl _ _ | refine Below.drew ?_))) (HU21.out.rb.below (by repeat (first | exact Below.refl _ _ | refine Below.drew ?_))) rfl HLE2.out).mono ?_; rintro e w22 ⟨rfl, hb⟩; have HU22 := Lib.hid (HU21.out.then_ (BJp hb (show Below w21.heap.size w21 _ from (by repeat (first | exact Below.refl _ _ | refine Below.drew ?_))))); clear hb HU21 HW21)
                                          | (go_at_call 10; refine (HO23.out _ (by repeat (first | exact HU22.out.below | refine Below.drew ?_))).mono ?_; rintro e w23 ⟨L23, m23, B23, e23, rfl, hr, hb⟩; have hb' := BJp hb (show Below w22.heap.size w22 _ from (by repeat (first | exact Below.refl _ _ | refine Below.drew ?_))); have HU23 := Lib.hid (HU22.out.then_ hb'); have HR23x23 := Lib.hid ((kObj_parts hr).1.mono (fun k hk => show ¬ mapB b1 b2 k ∧ ¬ mapB c1 c2 k from ⟨fun e => by have h1 : w22.heap.size ≤ k := hk.1; have h2 := HU22.out.b.lt k (.inr e); omega, fun e => by have h1 : w22.heap.size ≤ k := hk.1; have h2 := HU22.out.c.lt k (.inr e); omega⟩)); clear hr hb hb' HU22 HO23)
                                          | (go_at_call 18; refine (Und.release (by repeat (first | exact HU23.out | refine Und.drew ?_)) HZ24.out HOK3.out HMM.out HFO.out.ok L23 m23 B23 e23 _ (HR23x23.out.below (by repeat (first | exact Below.refl _ _ | refine Below.drew ?_))) HRL.out HOK0.out).mono ?_; rintro e w24 ⟨rfl, hu⟩; have HU24 := Lib.hid hu; clear hu HU23 HZ24 HR23x23)
                                          | (go_at_call 14; refine (Und.rows (by repeat (first | exact HU24.out | refine Und.drew ?_)) HZ25.out HOK0.out HMM.out).mono ?_; rintro e w25 ⟨Aw25, cw25, Rw25, rfl, hr, hl, hrow, hu⟩; have heq := rowsOf_unique hr HRS1.out; have HU25 := Lib.hid hu; have HW25 := Lib.hid (heq ▸ hrow); rw [heq]; clear hr hl hrow hu heq HU24 HZ25)
                                          | (go_at_call 13; refine (sameRows_val Aw25 Aw1 _ cw25 cw1 _ _ Rw1 _ (HW25.out.below (by repeat (first | exact Below.refl _ _ | refine Below.drew ?_))) (HU25.out.ra.below (by repeat (first | exact Below.refl _ _ | refine Below.drew ?_))) rfl HLE1.out).mono ?_; rintro e w26 ⟨rfl, hb⟩; have HU26 := Lib.hid (HU25.out.then_ (BJp hb (show Below w25.heap.size w25 _ from (by repeat (first | exact Below.refl _ _ | refine Below.drew ?_))))); clear hb HU25 HW25))
                                        all_goals
                                          go_wp2_with fail
                                          go_ret
                                          exact ⟨rfl, HBW.out.trans (HU26.out.below.mono HBW.out.size)⟩
                · have e1 : (z1 != 0) = true := by simpa using hz1
                  have hss := chargeV_same (show (chargeV S C o.v).1 ≠ 0 from by rw [HC1.out]; exact hz1)
                  rw [HC1.out] at hss
                  obtain ⟨rfl, rfl⟩ : S = S1 ∧ C = C1 := ⟨(congrArg Prod.fst hss).symm, (congrArg Prod.snd hss).symm⟩
                  clear hss
                  have k0 := HU3.out.k0
                  have HZ4 := HSB
                  go_wp2_with (first
                    | (go_at_call 14; refine (Und.rows (by repeat (first | exact HU3.out | refine Und.drew ?_)) HZ4.out HOK0.out HMM.out).mono ?_; rintro e w4 ⟨Aw4, cw4, Rw4, rfl, hr, hl, hrow, hu⟩; have heq := rowsOf_unique hr HRS1.out; have HU4 := Lib.hid hu; have HW4 := Lib.hid (heq ▸ hrow); rw [heq]; clear hr hl hrow hu heq HU3 HZ4)
                    | (go_at_call 13; refine (sameRows_val Aw1 Aw4 _ cw1 cw4 _ _ Rw1 _ (HU4.out.ra.below (by repeat (first | exact Below.refl _ _ | refine Below.drew ?_))) (HW4.out.below (by repeat (first | exact Below.refl _ _ | refine Below.drew ?_))) rfl HLE1.out).mono ?_; rintro e w5 ⟨rfl, hb⟩; have HU5 := Lib.hid (HU4.out.then_ (BJp hb (show Below w4.heap.size w4 _ from (by repeat (first | exact Below.refl _ _ | refine Below.drew ?_))))); clear hb HU4 HW4))
                  go_ret
                  exact ⟨rfl, HBW.out.trans (HU5.out.below.mono HBW.out.size)⟩
end Go.Proofs.YtalkdddeiebfmaaGreatDoor
