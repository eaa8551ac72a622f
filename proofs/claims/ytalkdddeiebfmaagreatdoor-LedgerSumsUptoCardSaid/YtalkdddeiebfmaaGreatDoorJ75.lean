/- LedgerSums: the walk (printed by mksums.py). -/
import Derived.Test.YtalkdddeiebfmaaGreatDoorJ74
import Derived.Test.YtalkdddeiebfmaaGreatDoorJL
namespace Go.Proofs.YtalkdddeiebfmaaGreatDoor
open Go.RowKit

set_option maxRecDepth 100000 in
set_option maxHeartbeats 4000000 in
theorem ledgerSums_any (ops : List OpM) (n : Nat) (hn : ops.length = n) (A : Option Addr) (c : Nat) (P : Nat → Prop) (wb : World) (hm : Ml wb) (ht : TextsAt wb) (hr : Row kOp17 P wb A ops) (hok : ∀ x ∈ ops, OpFit x) (hlen : n ≤ 1048576) :
    Calls Tryz.prog 8 #[.slice A n c] wb fun e w' => e = .returned (.bool true) ∧ Below wb.heap.size wb w' := by
  have HR := Lib.hid (hr.lt)
  have HOK := Lib.hid hok
  have HNL := Lib.hid hn
  have HM := Lib.hid hm
  have HTX := Lib.hid ht
  have HSG := Lib.hid (show 1 < wb.heap.size from let ⟨_, hc⟩ := hm; World.block_lt_of_cell? wb _ hc)
  have HSTX := Lib.hid (show 0 < wb.heap.size from ht.low)
  clear hm ht hr hok hn
  go_enter Tryz.func8, Tryz.ntmps8
  go_upto_region 2 with (go_at_call 16; refine (lives_any wb HM.out HTX.out).mono ?_; rintro e w1 ⟨g, b1, b2, rfl, hka, hla, hb1⟩; have HB1 := Lib.hid hb1; have HKA := Lib.hid hka; have HLA := Lib.hid hla; clear hka hla hb1)
  obtain ⟨bb, hbb⟩ : ∃ bb, w1.heap.size = bb := ⟨_, rfl⟩
  have hx2 := heap_alloc_new w1 (.cells #[.pointer (some ⟨g, 0, none⟩), .slice none 0 0] 63)
  have hb2 := (Below.refl w1.heap.size w1).alloc (Nat.le_refl _) (.cells #[.pointer (some ⟨g, 0, none⟩), .slice none 0 0] 63)
  obtain ⟨w2, hw2⟩ : ∃ w2, w1.alloc (.cells #[.pointer (some ⟨g, 0, none⟩), .slice none 0 0] 63) = w2 := ⟨_, rfl⟩
  rw [hw2] at hx2 hb2
  have hs2 : w2.heap.size = bb + 1 := by rw [← hw2, heap_size_alloc', hbb]
  rw [hbb] at hx2
  have HSB := Lib.hid (show SoloB wb bb g b1 b2 from ⟨fun i hi => by
    have s1 := HB1.out.size
    rcases hi with hi | hi
    · omega
    · exact HLA.out i hi, HM.out, HTX.out, HSG.out, HSTX.out⟩)
  obtain ⟨N, hN⟩ : ∃ N, w2.heap.size = N := ⟨_, rfl⟩
  have HP0 := Lib.hid (show Solo wb w2 N bb g b1 b2 0 none 0 0 (fun _ => False) (runV []) from by
    have s1 := HB1.out.size; have ka := HKA.out.lt
    refine ⟨⟨hx2, HKA.out.below hb2, ledOk_zero, ListAt.nil _ _ _ _, fun _ h => (nomatch h), by simp [runV], by omega, fun i hi => ?_⟩, bookInv_nil, HB1.out.trans (hb2.mono HB1.out.size), by omega, by omega⟩
    have := ka i hi; exact ⟨by omega, by omega⟩)
  have k0 := HP0.out.b.cells.1
  clear HB1 HKA HLA
  rw [hw2, hbb]
  clear hx2 hb2 hs2 hw2 hbb hN
  go_upto_region 4 with fail
  clear k0
  go_wp2_with fail
  go_loopw [4] (fun iv wr => ∃ (i : Nat) (A1 : Option Addr) (n1 m1 : Nat) (R1 : Nat → Prop), iv = .int .i64 i ∧ i ≤ n ∧ i ≤ 30 ∧ Hid (Solo wb wr N bb g b1 b2 (i * 60000000000) A1 n1 m1 R1 (runV (ops.take i)))) (fun iv _ => n - (intOf iv).toNat)
  case atStart => exact ⟨0, _, _, _, _, rfl, Nat.zero_le _, by omega, HP0.out⟩
  case round =>
    obtain ⟨i, A1, n1, m1, R1, rfl, hi, hi3, hpr⟩ := hrel
    obtain ⟨wq, rfl⟩ : ∃ wq, wq = wr := ⟨_, rfl⟩
    have HPR := Lib.hid hpr.out
    clear hpr HP0
    go_upto_region 5 with fail
    go_cut [21] (fun s wx => s = .bool (decide (i < n ∧ i < 30)) ∧ wq = wx)
    case first =>
      by_cases hjl : i < n
      · have hjl' : (i : Int) < (n : Int) := by omega
        by_cases hj4 : i < 30
        · have hj4' : (i : Int) < 30 := by omega
          go_wp2
          go_meet
          exact ⟨by simp [hjl, hj4], rfl⟩
        · have hj4' : ¬ (i : Int) < 30 := by omega
          go_wp2
          go_meet
          exact ⟨by simp [hj4], rfl⟩
      · have hjl' : ¬ (i : Int) < (n : Int) := by omega
        go_wp2
        go_meet
        exact ⟨by simp [hjl], rfl⟩
    case rest =>
      obtain ⟨rfl, rfl⟩ := hcut
      by_cases hgo : i < n ∧ i < 30
      · rw [decide_eq_true hgo]
        obtain ⟨hlt, hlt3⟩ := hgo
        have hil : i < ops.length := by rw [HNL.out]; exact hlt
        obtain ⟨a, d, rfl, hPa, hcl, hrw⟩ := op_at HR.out i hil
        have hfx := HOK.out _ (List.getElem_mem hil)
        have htk : runV (ops.take (i + 1)) = (stepV (runV (ops.take i)).1 (runV (ops.take i)).2.1 (runV (ops.take i)).2.2 ops[i]).2 := by rw [List.take_succ_eq_append_getElem hil, runV_snoc]
        obtain ⟨x, hx⟩ : ∃ x, ops[i] = x := ⟨_, rfl⟩
        rw [hx] at hcl hrw hfx htk
        obtain ⟨st, hst⟩ : ∃ st, runV (ops.take i) = st := ⟨_, rfl⟩
        rw [hst] at htk HPR
        have HTK := Lib.hid htk
        have HFX := Lib.hid hfx
        have HCL := Lib.hid (show ∀ j v, ([.bool x.two, .int .i64 x.kind, .string x.o.path, .string x.o.name, .slice d.L x.o.ls.length d.m, .int .i64 x.o.prio, .int .i64 x.o.dl, .slice d.B x.o.parts.length d.c, .int .i64 x.o.ver, .string x.p.path, .string x.p.name, .slice d.L' x.p.ls.length d.m', .int .i64 x.p.prio, .int .i64 x.p.dl, .slice d.B' x.p.parts.length d.c', .int .i64 x.p.ver, .int .i64 x.s.kind, .int .i64 x.s.arg, .string x.r] : List Value)[j]? = some v → wq.cell? ((a.add (i * 19)).add j) = some v from op_cells (hcl.below HPR.out.below))
        have hlti : (i : Int) < (n : Int) := by omega
        have hi0 : (0 : Int) ≤ (i : Int) := by omega
        have HS1 := Lib.hid (step_any (HPR.out.stepIn HSB.out hrw (fun k hk => hk.2) HFX.out (by omega)))
        clear hcl hrw hfx htk hx hst
        go_upto_region 7 with fail
        iterate 13 go_step
        refine wpList_load_list rfl 58 (.tmp 27) rfl (a.add (i * 19)) rfl [.bool x.two, .int .i64 x.kind, .string x.o.path, .string x.o.name, .slice d.L x.o.ls.length d.m, .int .i64 x.o.prio, .int .i64 x.o.dl, .slice d.B x.o.parts.length d.c, .int .i64 x.o.ver, .string x.p.path, .string x.p.name, .slice d.L' x.p.ls.length d.m', .int .i64 x.p.prio, .int .i64 x.p.dl, .slice d.B' x.p.parts.length d.c', .int .i64 x.p.ver, .int .i64 x.s.kind, .int .i64 x.s.arg, .string x.r] _ HCL.out Tryz.underlying58 rfl 19 rfl (by kernel_rfl) ?_
        go_wp2_with (first
          | (go_at_call 23; refine HS1.out.mono ?_; rintro e w5 hp5; obtain ⟨rfl, A3, n3, m3, R3, hp6⟩ := HPR.out.on HSB.out HFX.out.o hp5; have HP6 := Lib.hid hp6; clear hp5 hp6 HS1)
          | (go_at_call 25; refine (agrees_any (HM.out.below HP6.out.below) (HTX.out.below HP6.out.below) HP6.out.b HP6.out.inv (by omega)).mono ?_; rintro e w6 ⟨rfl, hb6⟩; have HP7 := Lib.hid (HP6.out.then_ hb6); clear hb6 HP6))
        go_roundw
        case rel =>
          refine ⟨i + 1, A3, n3, m3, R3, by go_num, hlt, hlt3, ?_⟩
          rw [HTK.out, show (i + 1) * 60000000000 = i * 60000000000 + 60000000000 from by omega]
          exact HP7.out
        case measure => simp [intOf]; omega
      · rw [decide_eq_false hgo]
        go_wp2_with fail
        go_ret
        exact ⟨rfl, HPR.out.below⟩
end Go.Proofs.YtalkdddeiebfmaaGreatDoor
