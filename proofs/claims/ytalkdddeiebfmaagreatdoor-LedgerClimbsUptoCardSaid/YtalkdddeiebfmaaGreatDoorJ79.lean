/- LedgerClimbs: the walk (printed by mksums.py). -/
import Derived.Test.YtalkdddeiebfmaaGreatDoorJ78
import Derived.Test.YtalkdddeiebfmaaGreatDoorJL
namespace Go.Proofs.YtalkdddeiebfmaaGreatDoor
open Go.RowKit

set_option maxRecDepth 100000 in
set_option maxHeartbeats 4000000 in
theorem ledgerClimbs_any (ops : List OpM) (n : Nat) (hn : ops.length = n) (A : Option Addr) (c : Nat) (P : Nat → Prop) (wb : World) (hm : Ml wb) (ht : TextsAt wb) (hr : Row kOp17 P wb A ops) (hok : ∀ x ∈ ops, OpFit x) (hlen : n ≤ 1048576) :
    Calls Tryz.prog 9 #[.slice A n c] wb fun e w' => e = .returned (.bool true) ∧ Below wb.heap.size wb w' := by
  have HR := Lib.hid (hr.lt)
  have HOK := Lib.hid hok
  have HNL := Lib.hid hn
  have HM := Lib.hid hm
  have HTX := Lib.hid ht
  have HSG := Lib.hid (show 1 < wb.heap.size from let ⟨_, hc⟩ := hm; World.block_lt_of_cell? wb _ hc)
  have HSTX := Lib.hid (show 0 < wb.heap.size from ht.low)
  clear hm ht hr hok hn
  go_enter Tryz.func9, Tryz.ntmps9
  go_upto_region 2 with (go_at_call 16; refine (lives_any wb HM.out HTX.out).mono ?_; rintro e w1 ⟨g, b1, b2, rfl, hka, hla, hb1⟩; have HB1 := Lib.hid hb1; have HKA := Lib.hid hka; have HLA := Lib.hid hla; clear hka hla hb1)
  obtain ⟨bb, hbb⟩ : ∃ bb, w1.heap.size = bb := ⟨_, rfl⟩
  have hx2 := heap_alloc_new w1 (.cells #[.pointer (some ⟨g, 0, none⟩), .slice none 0 0] 63)
  have hb2 := (Below.refl w1.heap.size w1).alloc (Nat.le_refl _) (.cells #[.pointer (some ⟨g, 0, none⟩), .slice none 0 0] 63)
  obtain ⟨w2, hw2⟩ : ∃ w2, w1.alloc (.cells #[.pointer (some ⟨g, 0, none⟩), .slice none 0 0] 63) = w2 := ⟨_, rfl⟩
  rw [hw2] at hx2 hb2
  have hs2 : w2.heap.size = bb + 1 := by rw [← hw2, heap_size_alloc', hbb]
  rw [hbb] at hx2
  have HSB := Lib.hid (show SoloB wb bb g b1 b2 from ⟨fun i hi => by
    have s1 := HB1.out.size
    rcases hi with hi | hi
    · omega
    · exact HLA.out i hi, HM.out, HTX.out, HSG.out, HSTX.out⟩)
  obtain ⟨N, hN⟩ : ∃ N, w2.heap.size = N := ⟨_, rfl⟩
  have HP0 := Lib.hid (show Solo wb w2 N bb g b1 b2 0 none 0 0 (fun _ => False) (runV []) from by
    have s1 := HB1.out.size; have ka := HKA.out.lt
    refine ⟨⟨hx2, HKA.out.below hb2, ledOk_zero, ListAt.nil _ _ _ _, fun _ h => (nomatch h), by simp [runV], by omega, fun i hi => ?_⟩, bookInv_nil, HB1.out.trans (hb2.mono HB1.out.size), by omega, by omega⟩
    have := ka i hi; exact ⟨by omega, by omega⟩)
  have k0 := HP0.out.b.cells.1
  clear HB1 HKA HLA
  rw [hw2, hbb]
  clear hx2 hb2 hs2 hw2 hbb hN
  go_upto_region 4 with fail
  clear k0
  go_wp2_with fail
  go_loopw [4] (fun iv wr => ∃ (i : Nat) (A1 : Option Addr) (n1 m1 : Nat) (R1 : Nat → Prop), iv = .int .i64 i ∧ i ≤ n ∧ i ≤ 30 ∧ Hid (Solo wb wr N bb g b1 b2 (i * 60000000000) A1 n1 m1 R1 (runV (ops.take i)))) (fun iv _ => n - (intOf iv).toNat)
  case atStart => exact ⟨0, _, _, _, _, rfl, Nat.zero_le _, by omega, HP0.out⟩
  case round =>
    as_aux_lemma =>
      refine id ?_
      obtain ⟨i, A1, n1, m1, R1, rfl, hi, hi3, hpr⟩ := hrel
      obtain ⟨wq, rfl⟩ : ∃ wq, wq = wr := ⟨_, rfl⟩
      have HPR := Lib.hid hpr.out
      clear hpr HP0
      go_upto_region 5 with fail
      go_cut [34] (fun s wx => s = .bool (decide (i < n ∧ i < 30)) ∧ wq = wx)
      case first =>
        as_aux_lemma =>
          refine id ?_
          by_cases hjl : i < n
          · have hjl' : (i : Int) < (n : Int) := by omega
            by_cases hj4 : i < 30
            · have hj4' : (i : Int) < 30 := by omega
              go_wp2
              go_meet
              exact ⟨by simp [hjl, hj4], rfl⟩
            · have hj4' : ¬ (i : Int) < 30 := by omega
              go_wp2
              go_meet
              exact ⟨by simp [hj4], rfl⟩
          · have hjl' : ¬ (i : Int) < (n : Int) := by omega
            go_wp2
            go_meet
            exact ⟨by simp [hjl], rfl⟩
      case rest =>
        as_aux_lemma =>
          refine id ?_
          obtain ⟨rfl, rfl⟩ := hcut
          by_cases hgo : i < n ∧ i < 30
          · rw [decide_eq_true hgo]
            obtain ⟨hlt, hlt3⟩ := hgo
            have hil : i < ops.length := by rw [HNL.out]; exact hlt
            obtain ⟨a, d, rfl, hPa, hcl, hrw⟩ := op_at HR.out i hil
            have hfx := HOK.out _ (List.getElem_mem hil)
            have htk : runV (ops.take (i + 1)) = (stepV (runV (ops.take i)).1 (runV (ops.take i)).2.1 (runV (ops.take i)).2.2 ops[i]).2 := by rw [List.take_succ_eq_append_getElem hil, runV_snoc]
            obtain ⟨x, hx⟩ : ∃ x, ops[i] = x := ⟨_, rfl⟩
            rw [hx] at hcl hrw hfx htk
            obtain ⟨st, hst⟩ : ∃ st, runV (ops.take i) = st := ⟨_, rfl⟩
            rw [hst] at htk HPR
            have HTK := Lib.hid htk
            have HFX := Lib.hid hfx
            have HCL := Lib.hid (show ∀ j v, ([.bool x.two, .int .i64 x.kind, .string x.o.path, .string x.o.name, .slice d.L x.o.ls.length d.m, .int .i64 x.o.prio, .int .i64 x.o.dl, .slice d.B x.o.parts.length d.c, .int .i64 x.o.ver, .string x.p.path, .string x.p.name, .slice d.L' x.p.ls.length d.m', .int .i64 x.p.prio, .int .i64 x.p.dl, .slice d.B' x.p.parts.length d.c', .int .i64 x.p.ver, .int .i64 x.s.kind, .int .i64 x.s.arg, .string x.r] : List Value)[j]? = some v → wq.cell? ((a.add (i * 19)).add j) = some v from op_cells (hcl.below HPR.out.below))
            have hlti : (i : Int) < (n : Int) := by omega
            have hi0 : (0 : Int) ≤ (i : Int) := by omega
            have HS1 := Lib.hid (step_any (HPR.out.stepIn HSB.out hrw (fun k hk => hk.2) HFX.out (by omega)))
            clear hcl hrw hfx htk hx hst
            go_upto_region 7 with fail
            iterate 13 go_step
            refine wpList_load_list rfl 58 (.tmp 40) rfl (a.add (i * 19)) rfl [.bool x.two, .int .i64 x.kind, .string x.o.path, .string x.o.name, .slice d.L x.o.ls.length d.m, .int .i64 x.o.prio, .int .i64 x.o.dl, .slice d.B x.o.parts.length d.c, .int .i64 x.o.ver, .string x.p.path, .string x.p.name, .slice d.L' x.p.ls.length d.m', .int .i64 x.p.prio, .int .i64 x.p.dl, .slice d.B' x.p.parts.length d.c', .int .i64 x.p.ver, .int .i64 x.s.kind, .int .i64 x.s.arg, .string x.r] _ HCL.out Tryz.underlying58 rfl 19 rfl (by kernel_rfl) ?_
            go_wp2_with (go_at_call 23; refine HS1.out.mono ?_; rintro e w5 hp5; obtain ⟨rfl, A3, n3, m3, R3, hp6⟩ := HPR.out.on HSB.out HFX.out.o hp5; have HP6 := Lib.hid hp6; clear hp5 hp6 HS1)
            go_roundw
            case rel =>
              refine ⟨i + 1, A3, n3, m3, R3, by go_num, hlt, hlt3, ?_⟩
              rw [HTK.out, show (i + 1) * 60000000000 = i * 60000000000 + 60000000000 from by omega]
              exact HP6.out
            case measure => simp [intOf]; omega
          · rw [decide_eq_false hgo]
            obtain ⟨M, hM⟩ : ∃ M, i * 60000000000 = M := ⟨_, rfl⟩
            have hM' : M ≤ 2400000000000 := by omega
            rw [hM] at HPR
            obtain ⟨⟨S, C, held⟩, hst⟩ : ∃ st, runV (ops.take i) = st := ⟨_, rfl⟩
            rw [hst] at HPR
            have HK := Lib.hid (show IsBook wq N bb g b1 b2 M A1 n1 m1 R1 S C held from HPR.out.b)
            have HI := Lib.hid (show BookInv S C held from HPR.out.inv)
            have HBW := Lib.hid HPR.out.below
            have HMQ := Lib.hid (HM.out.below HPR.out.below)
            have HTQ := Lib.hid (HTX.out.below HPR.out.below)
            have HN := Lib.hid HK.out.hn
            have HN4 := Lib.hid (show n1 ≤ 40 from by rw [HK.out.hn]; exact HK.out.len)
            have HRH := Lib.hid (show Row kObj (fun k => N ≤ k) wq A1 held from HK.out.list.row.2.1)
            have HCE := Lib.hid (show ∀ W, Below wq.heap.size wq W → (W.cell? ⟨bb, 0, none⟩ = some (.pointer (some ⟨g, 0, none⟩)) ∧ W.cell? ⟨bb, 1, none⟩ = some (.slice A1 n1 m1)) from fun W hW => (HK.out.below hW).cells)
            clear hst hM hgo HPR
            obtain ⟨k0, k1⟩ := HCE.out wq (Below.refl _ _)
            go_upto_region 9 with (go_at_call 14; refine (lrows_any wq HMQ.out HK.out.led HK.out.ok (by omega)).mono ?_; rintro e w1 ⟨Aw, cw, Rs, rfl, ho, hrs, hb1⟩; have HB1 := Lib.hid hb1; have HRS := Lib.hid hrs; have HRW := Lib.hid (show Row kSh (fun _ => True) w1 Aw Rs from ho.row'.2.1.mono fun _ _ => trivial); have HLE := Lib.hid (show Rs.length ≤ 9223372036854775807 by have h1 := ho.row'.2.2.1; have h2 := ho.row'.2.2.2; unfold maxLen at h2; omega); clear ho hrs hb1)
            clear k0 k1
            obtain ⟨q, hq⟩ : ∃ q, Rs.length = q := ⟨_, rfl⟩
            rw [hq] at HLE ⊢
            have HQ := Lib.hid hq
            have hle := HLE.out
            have HPOS := Lib.hid (show ∀ z ∈ Rs, 0 ≤ z.2 ∧ isPath z.1.1 = true ∧ PlOk z.1 ∧ z.2 ≤ 9223372036854775807 from fun z hz => by
              obtain ⟨h1, h2⟩ := (HRS.out.mem z).1 hz
              have h3 := HK.out.ok.pl z.1 h1
              exact ⟨by rw [h2]; exact HK.out.ok.lo _, h3.2.1, h3.1, by rw [h2]; exact HK.out.ok.hi _⟩)
            clear hq hi hi3
            go_wp2
            go_loopw [6] (fun iv wr => ∃ i : Nat, iv = .int .i64 i ∧ i ≤ q ∧ Hid (Below w1.heap.size w1 wr)) (fun iv _ => q - (intOf iv).toNat)
            case atStart => exact ⟨0, rfl, Nat.zero_le _, Below.refl _ _⟩
            case round =>
              as_aux_lemma =>
                refine id ?_
                obtain ⟨i, rfl, hi, hb⟩ := hrel
                obtain ⟨wz, rfl⟩ : ∃ wz, wz = wr := ⟨_, rfl⟩
                have HBZ := Lib.hid hb.out
                clear hb
                by_cases hlt : i < q
                · have hil : i < Rs.length := by rw [HQ.out]; exact hlt
                  obtain ⟨aw, rfl, -, l0, l1, l2, l3, l4⟩ := sh_at (HRW.out.below HBZ.out) i hil
                  have hmem := (HRS.out.mem Rs[i]).1 (List.getElem_mem hil)
                  have hpos := HPOS.out _ (List.getElem_mem hil)
                  obtain ⟨u, hu⟩ : ∃ u, Rs[i] = u := ⟨_, rfl⟩
                  rw [hu] at l0 l1 l2 l3 l4 hmem hpos
                  have HU := Lib.hid hpos
                  have HCL := Lib.hid (show sumC Rs u.1.1 ⟨u.1.2.1.1, u.1.2.1.2⟩ u.1.2.2 + sumM held u.1.1 ⟨u.1.2.1.1, u.1.2.1.2⟩ u.1.2.2 = u.2 from by rw [climbs HI.out HRS.out, hmem.2])
                  have HME := Lib.hid hmem
                  have hlti : (i : Int) < (q : Int) := by omega
                  have hi0 : (0 : Int) ≤ (i : Int) := by omega
                  have hx2 := heap_alloc_new wz (.cells #[.string u.1.1, .int .i64 u.1.2.1.1, .int .i64 u.1.2.1.2, .string u.1.2.2, .int .i64 u.2] 49)
                  have hb2 := (Below.refl wz.heap.size wz).alloc (Nat.le_refl _) (.cells #[.string u.1.1, .int .i64 u.1.2.1.1, .int .i64 u.1.2.1.2, .string u.1.2.2, .int .i64 u.2] 49)
                  clear hmem hpos hu
                  go_upto_region 12 with fail
                  iterate 16 go_step
                  refine wpList_store_new rfl 49 (.tmp 7) (.tmp 57) rfl _ #[.string u.1.1, .int .i64 u.1.2.1.1, .int .i64 u.1.2.1.2, .string u.1.2.2, .int .i64 u.2] rfl rfl 5 rfl (by kernel_rfl) rfl (use_one u) rfl ?_
                  go_upto_region 13 with fail
                  clear l0 l1 l2 l3 l4
                  obtain ⟨t7, ht7⟩ : ∃ t, wz.heap.size = t := ⟨_, rfl⟩
                  rw [ht7] at hx2 ⊢
                  generalize hw2 : wz.alloc (.cells #[.string u.1.1, .int .i64 u.1.2.1.1, .int .i64 u.1.2.1.2, .string u.1.2.2, .int .i64 u.2] 49) = w2 at hx2 hb2 ⊢
                  have HX2 := Lib.hid (show w2.cell? ⟨t7, 0, none⟩ = some (.string u.1.1) ∧ w2.cell? ⟨t7, 1, none⟩ = some (.int .i64 u.1.2.1.1) ∧ w2.cell? ⟨t7, 2, none⟩ = some (.int .i64 u.1.2.1.2) ∧ w2.cell? ⟨t7, 3, none⟩ = some (.string u.1.2.2) ∧ w2.cell? ⟨t7, 4, none⟩ = some (.int .i64 u.2) from ⟨(cell_of_row _ _ 0 _ _ _ hx2).trans rfl, (cell_of_row _ _ 1 _ _ _ hx2).trans rfl, (cell_of_row _ _ 2 _ _ _ hx2).trans rfl, (cell_of_row _ _ 3 _ _ _ hx2).trans rfl, (cell_of_row _ _ 4 _ _ _ hx2).trans rfl⟩)
                  have HB2 := Lib.hid (HBZ.out.trans (hb2.mono HBZ.out.size))
                  have HBQ2 := Lib.hid (show Below wq.heap.size wq w2 from HB1.out.trans (HB2.out.mono HB1.out.size))
                  have HS := Lib.hid (show ∀ W, Below w2.heap.size w2 W → (W.cell? ⟨bb, 0, none⟩ = some (.pointer (some ⟨g, 0, none⟩)) ∧ W.cell? ⟨bb, 1, none⟩ = some (.slice A1 n1 m1) ∧ W.cell? ⟨t7, 0, none⟩ = some (.string u.1.1) ∧ W.cell? ⟨t7, 1, none⟩ = some (.int .i64 u.1.2.1.1) ∧ W.cell? ⟨t7, 2, none⟩ = some (.int .i64 u.1.2.1.2) ∧ W.cell? ⟨t7, 3, none⟩ = some (.string u.1.2.2) ∧ W.cell? ⟨t7, 4, none⟩ = some (.int .i64 u.2)) from fun W hW => by
                    obtain ⟨k0, k1⟩ := HCE.out W (HBQ2.out.trans (hW.mono HBQ2.out.size))
                    obtain ⟨l0, l1, l2, l3, l4⟩ := HX2.out
                    exact ⟨k0, k1, (hW.cell (World.block_lt_of_cell? _ _ l0)).trans l0, (hW.cell (World.block_lt_of_cell? _ _ l1)).trans l1, (hW.cell (World.block_lt_of_cell? _ _ l2)).trans l2, (hW.cell (World.block_lt_of_cell? _ _ l3)).trans l3, (hW.cell (World.block_lt_of_cell? _ _ l4)).trans l4⟩)
                  clear hx2 hb2 hw2 ht7
                  obtain ⟨k0, k1, l0, l1, l2, l3, l4⟩ := HS.out _ (Below.refl _ _)
                  obtain ⟨up, hup⟩ : ∃ up, parentV u.1.1 = up := ⟨_, rfl⟩
                  have HUP := Lib.hid hup
                  go_upto_region 14 with (go_at_call 26; refine (parent_any u.1.1 HU.out.2.1 w2 (HMQ.out.below HBQ2.out)).mono ?_; rw [hup]; rintro e w3 ⟨rfl, hb3⟩; have HB3 := Lib.hid hb3; clear hb3)
                  clear hup k0 k1 l0 l1 l2 l3 l4
                  go_cut [96] (fun v wx => v = .bool false ∧ Below w2.heap.size w2 wx)
                  case first =>
                    as_aux_lemma =>
                      refine id ?_
                      by_cases hz : up.2 = 0
                      · have e1 : (up.2 == 0) = true := by simpa using hz
                        have hroot : u.1.1 ≠ rootB := fun e => by
                          have := HUP.out
                          unfold parentV at this
                          rw [if_pos e] at this
                          rw [← this] at hz
                          exact absurd hz (by decide)
                        have hup1 : up.1 = parentB u.1.1 := by
                          have := HUP.out
                          unfold parentV at this
                          rw [if_neg hroot] at this
                          rw [← this]
                        have hge := up_ge HI.out hroot ⟨u.1.2.1.1, u.1.2.1.2⟩ u.1.2.2
                        have hsz := up_path HU.out.2.1 hroot
                        rw [← hup1] at hge hsz
                        obtain ⟨X, hX⟩ : ∃ X, S (up.1, (u.1.2.1.1, u.1.2.1.2), u.1.2.2) = X := ⟨_, rfl⟩
                        obtain ⟨Y, hY⟩ : ∃ Y, C up.1 = Y := ⟨_, rfl⟩
                        obtain ⟨Z, hZ⟩ : ∃ Z, C u.1.1 = Z := ⟨_, rfl⟩
                        have hX1 : ¬ (X < u.2) := by
                          have h1 : S u.1 ≤ X := by rw [← hX]; exact hge.1
                          rw [HME.out.2]; omega
                        have hY1 : ¬ (Y < Z) := by rw [← hY, ← hZ]; have := hge.2; omega
                        have HUS := Lib.hid (fun W (hW : Below w2.heap.size w2 W) => used_any (up.1, (u.1.2.1.1, u.1.2.1.2), u.1.2.2) ⟨show up.1.size ≤ maxLen from by unfold maxLen; omega, HU.out.2.2.1.kind, HU.out.2.2.1.arg, HU.out.2.2.1.res⟩ X (Lib.hid hX) W (HK.out.led.below (HBQ2.out.trans (hW.mono HBQ2.out.size))))
                        have HC1 := Lib.hid (fun W (hW : Below w2.heap.size w2 W) => count_any up.1 (show StOk up.1 from by unfold StOk maxLen; omega) Y (Lib.hid hY) W (HK.out.led.below (HBQ2.out.trans (hW.mono HBQ2.out.size))))
                        have HC2 := Lib.hid (fun W (hW : Below w2.heap.size w2 W) => count_any u.1.1 HU.out.2.2.1.path Z (Lib.hid hZ) W (HK.out.led.below (HBQ2.out.trans (hW.mono HBQ2.out.size))))
                        have hX2 : decide (X < u.2) = false := by simpa using hX1
                        have hY2 : decide (Y < Z) = false := by simpa using hY1
                        clear hz hroot hup1 hge hsz hX hY hZ
                        go_region_held3 (fun w' => w'.cell? ⟨bb, 0, none⟩ = some (.pointer (some ⟨g, 0, none⟩)) ∧ w'.cell? ⟨bb, 1, none⟩ = some (.slice A1 n1 m1) ∧ w'.cell? ⟨t7, 0, none⟩ = some (.string u.1.1) ∧ w'.cell? ⟨t7, 1, none⟩ = some (.int .i64 u.1.2.1.1) ∧ w'.cell? ⟨t7, 2, none⟩ = some (.int .i64 u.1.2.1.2) ∧ w'.cell? ⟨t7, 3, none⟩ = some (.string u.1.2.2) ∧ w'.cell? ⟨t7, 4, none⟩ = some (.int .i64 u.2)) (exact HS.out _ (by repeat (first | exact HW6.out | exact HW5.out | exact HW4.out | exact HB3.out | exact Below.refl _ _ | refine Below.drew ?_))) (first
                          | (go_at_call 27; refine (HUS.out _ (by repeat (first | exact HB3.out | exact Below.refl _ _ | refine Below.drew ?_))).mono ?_; rintro e w4 ⟨rfl, hb⟩; have HW4 := Lib.hid (BJp hb (show Below w2.heap.size w2 _ from (by repeat (first | exact HB3.out | exact Below.refl _ _ | refine Below.drew ?_)))); clear hb HUS)
                          | (go_at_call 19; refine (HC1.out _ (by repeat (first | exact HW4.out | exact Below.refl _ _ | refine Below.drew ?_))).mono ?_; rintro e w5 ⟨rfl, hb⟩; have HW5 := Lib.hid (BJp hb (show Below w2.heap.size w2 _ from (by repeat (first | exact HW4.out | exact Below.refl _ _ | refine Below.drew ?_)))); clear hb HC1)
                          | (go_at_call 19; refine (HC2.out _ (by repeat (first | exact HW5.out | exact Below.refl _ _ | refine Below.drew ?_))).mono ?_; rintro e w6 ⟨rfl, hb⟩; have HW6 := Lib.hid (BJp hb (show Below w2.heap.size w2 _ from (by repeat (first | exact HW5.out | exact Below.refl _ _ | refine Below.drew ?_)))); clear hb HC2))
                        all_goals (go_wp2_with fail; go_meet; exact ⟨rfl, HW6.out⟩)
                      · have e1 : (up.2 == 0) = false := by simpa using hz
                        clear hz
                        go_quiet (fail)
                        go_wp2
                        go_meet
                        exact ⟨rfl, below_drewN HB3.out _⟩
                  case rest =>
                    as_aux_lemma =>
                      refine id ?_
                      obtain ⟨rfl, hb4⟩ := hcut
                      rename World => w4
                      have HB4 := Lib.hid hb4
                      clear hb4 HB3 HUP
                      go_upto_region 17 with fail
                      go_wp2
                      go_loopw [10, 11] (fun sv jv wr => ∃ j : Nat, jv = .int .i64 j ∧ sv = .int .i64 (sumC (Rs.take j) u.1.1 ⟨u.1.2.1.1, u.1.2.1.2⟩ u.1.2.2) ∧ j ≤ q ∧ Hid (Below w2.heap.size w2 wr)) (fun _ jv _ => q - (intOf jv).toNat)
                      case atStart => exact ⟨0, rfl, rfl, Nat.zero_le _, HB4.out⟩
                      case round =>
                        as_aux_lemma =>
                          refine id ?_
                          obtain ⟨j, rfl, rfl, hj, hbj⟩ := hrel
                          obtain ⟨wj, rfl⟩ : ∃ wj, wj = wr := ⟨_, rfl⟩
                          have HBJ := Lib.hid hbj.out
                          clear hbj
                          by_cases hjq : j < q
                          · have hjl : j < Rs.length := by rw [HQ.out]; exact hjq
                            have hrow := HRW.out.below (HB2.out.trans (HBJ.out.mono HB2.out.size))
                            obtain ⟨av, hav, -, hvz⟩ := sh_at hrow j hjl
                            cases hav
                            have hpv := HPOS.out _ (List.getElem_mem hjl)
                            have hstep := sumC_step hjl u.1.1 ⟨u.1.2.1.1, u.1.2.1.2⟩ u.1.2.2
                            have hle1 := sumC_le (fun z hz => (HPOS.out z hz).1) (j + 1) u.1.1 ⟨u.1.2.1.1, u.1.2.1.2⟩ u.1.2.2
                            have hle2 := sumC_le (fun z hz => (HPOS.out z hz).1) j u.1.1 ⟨u.1.2.1.1, u.1.2.1.2⟩ u.1.2.2
                            have hmn := sumM_nonneg (p := u.1.1) (s := ⟨u.1.2.1.1, u.1.2.1.2⟩) (r := u.1.2.2) HI.out.acc
                            have hcl := HCL.out
                            have huhi := HU.out.2.2.2
                            obtain ⟨v, hv⟩ : ∃ v, Rs[j] = v := ⟨_, rfl⟩
                            rw [hv] at hvz hpv hstep
                            have HV := Lib.hid hpv
                            have HVZ := Lib.hid hvz
                            have HSTEP := Lib.hid hstep
                            obtain ⟨T, hT⟩ : ∃ T, sumC (Rs.take j) u.1.1 ⟨u.1.2.1.1, u.1.2.1.2⟩ u.1.2.2 = T := ⟨_, rfl⟩
                            rw [hT] at HSTEP hstep hle2 ⊢
                            have HTB := Lib.hid (show childOf u.1.1 ⟨u.1.2.1.1, u.1.2.1.2⟩ u.1.2.2 v = true → wrap64 (T + v.2) = T + v.2 from fun h => by
                              rw [if_pos h] at hstep
                              exact wrap_id (by omega) (by omega))
                            have hjq' : (j : Int) < (q : Int) := by omega
                            have hj0 : (0 : Int) ≤ (j : Int) := by omega
                            have HSJ := Lib.hid (show ∀ W, Below wj.heap.size wj W → (W.cell? ⟨bb, 0, none⟩ = some (.pointer (some ⟨g, 0, none⟩)) ∧ W.cell? ⟨bb, 1, none⟩ = some (.slice A1 n1 m1) ∧ W.cell? ⟨t7, 0, none⟩ = some (.string u.1.1) ∧ W.cell? ⟨t7, 1, none⟩ = some (.int .i64 u.1.2.1.1) ∧ W.cell? ⟨t7, 2, none⟩ = some (.int .i64 u.1.2.1.2) ∧ W.cell? ⟨t7, 3, none⟩ = some (.string u.1.2.2) ∧ W.cell? ⟨t7, 4, none⟩ = some (.int .i64 u.2) ∧ W.cell? (aw.add (j * 5)) = some (.string v.1.1) ∧ W.cell? ⟨(aw.add (j * 5)).block, (aw.add (j * 5)).off + 1, none⟩ = some (.int .i64 v.1.2.1.1) ∧ W.cell? ⟨(aw.add (j * 5)).block, (aw.add (j * 5)).off + 2, none⟩ = some (.int .i64 v.1.2.1.2) ∧ W.cell? ⟨(aw.add (j * 5)).block, (aw.add (j * 5)).off + 3, none⟩ = some (.string v.1.2.2) ∧ W.cell? ⟨(aw.add (j * 5)).block, (aw.add (j * 5)).off + 4, none⟩ = some (.int .i64 v.2)) from fun W hW => by
                              obtain ⟨k0, k1, l0, l1, l2, l3, l4⟩ := HS.out W (HBJ.out.trans (hW.mono HBJ.out.size))
                              obtain ⟨z0, z1, z2, z3, z4⟩ := HVZ.out
                              exact ⟨k0, k1, l0, l1, l2, l3, l4, (hW.cell (World.block_lt_of_cell? _ _ z0)).trans z0, (hW.cell (p := ⟨_, _, none⟩) (World.block_lt_of_cell? _ _ z1)).trans z1, (hW.cell (p := ⟨_, _, none⟩) (World.block_lt_of_cell? _ _ z2)).trans z2, (hW.cell (p := ⟨_, _, none⟩) (World.block_lt_of_cell? _ _ z3)).trans z3, (hW.cell (p := ⟨_, _, none⟩) (World.block_lt_of_cell? _ _ z4)).trans z4⟩)
                            clear hrow hpv hstep hle1 hle2 hmn hcl huhi hv hvz hT
                            obtain ⟨k0, k1, l0, l1, l2, l3, l4, z0, z1, z2, z3, z4⟩ := HSJ.out _ (Below.refl _ _)
                            obtain ⟨pv, hpv⟩ : ∃ pv, parentV v.1.1 = pv := ⟨_, rfl⟩
                            have HPV := Lib.hid hpv
                            go_upto_region 21 with (go_at_call 26; refine (parent_any v.1.1 HV.out.2.1 wj (HMQ.out.below (HBQ2.out.trans (HBJ.out.mono HBQ2.out.size)))).mono ?_; rw [hpv]; rintro e w5 ⟨rfl, hb5⟩; have HBP := Lib.hid hb5; clear hb5)
                            clear hpv k0 k1 l0 l1 l2 l3 l4 z0 z1 z2 z3 z4
                            obtain ⟨ch, hch⟩ : ∃ ch, childOf u.1.1 ⟨u.1.2.1.1, u.1.2.1.2⟩ u.1.2.2 v = ch := ⟨_, rfl⟩
                            have HCH := Lib.hid hch
                            go_cut [139] (fun b wx => b = .bool ch ∧ Below wj.heap.size wj wx)
                            case first =>
                              as_aux_lemma =>
                                refine id ?_
                                have HCH0 := Lib.hid (show (decide (pv.2 = 0) && decide (pv.1 = u.1.1) && eqSc ⟨v.1.2.1.1, v.1.2.1.2⟩ ⟨u.1.2.1.1, u.1.2.1.2⟩ && decide (v.1.2.2 = u.1.2.2)) = ch from by rw [← hch, ← HPV.out]; rfl)
                                clear hch
                                obtain ⟨k0, k1, l0, l1, l2, l3, l4, z0, z1, z2, z3, z4⟩ := HSJ.out _ HBP.out
                                by_cases h1 : pv.2 = 0
                                · have e1 : (pv.2 == 0) = true := by simpa using h1
                                  by_cases h2 : pv.1 = u.1.1
                                  · have e2 : (pv.1.toList == u.1.1.toList) = true := by rw [bytes_beq]; simpa using h2
                                    cases h3 : eqSc ⟨v.1.2.1.1, v.1.2.1.2⟩ ⟨u.1.2.1.1, u.1.2.1.2⟩
                                    · have hrun := fun W => run_eqlSc ⟨v.1.2.1.1, v.1.2.1.2⟩ ⟨u.1.2.1.1, u.1.2.1.2⟩ false h3 W
                                      have HF := Lib.hid (show (false : Bool) = ch from by rw [← HCH0.out, h3]; simp)
                                      clear h1 h2 h3
                                      go_wp2
                                      go_quiet (fail)
                                      go_wp2
                                      go_meet
                                      exact ⟨by rw [HF.out], below_drewN HBP.out _⟩
                                    · have hrun := fun W => run_eqlSc ⟨v.1.2.1.1, v.1.2.1.2⟩ ⟨u.1.2.1.1, u.1.2.1.2⟩ true h3 W
                                      by_cases h4 : v.1.2.2 = u.1.2.2
                                      · have e4 : (v.1.2.2.toList == u.1.2.2.toList) = true := by rw [bytes_beq]; simpa using h4
                                        have HF := Lib.hid (show (true : Bool) = ch from by rw [← HCH0.out, h3]; simp [h1, h2, h4])
                                        clear h1 h2 h3 h4
                                        go_wp2
                                        go_quiet (fail)
                                        go_wp2
                                        go_meet
                                        exact ⟨by rw [HF.out], below_drewN HBP.out _⟩
                                      · have e4 : (v.1.2.2.toList == u.1.2.2.toList) = false := by rw [bytes_beq]; simpa using h4
                                        have HF := Lib.hid (show (false : Bool) = ch from by rw [← HCH0.out]; simp [h4])
                                        clear h1 h2 h3 h4
                                        go_wp2
                                        go_quiet (fail)
                                        go_wp2
                                        go_meet
                                        exact ⟨by rw [HF.out], below_drewN HBP.out _⟩
                                  · have e2 : (pv.1.toList == u.1.1.toList) = false := by rw [bytes_beq]; simpa using h2
                                    have HF := Lib.hid (show (false : Bool) = ch from by rw [← HCH0.out]; simp [h2])
                                    clear h1 h2
                                    go_wp2
                                    go_quiet (fail)
                                    go_wp2
                                    go_meet
                                    exact ⟨by rw [HF.out], below_drewN HBP.out _⟩
                                · have e1 : (pv.2 == 0) = false := by simpa using h1
                                  have HF := Lib.hid (show (false : Bool) = ch from by rw [← HCH0.out]; simp [h1])
                                  clear h1
                                  go_wp2
                                  go_quiet (fail)
                                  go_wp2
                                  go_meet
                                  exact ⟨by rw [HF.out], below_drewN HBP.out _⟩
                            case rest =>
                              as_aux_lemma =>
                                refine id ?_
                                obtain ⟨rfl, hb6⟩ := hcut
                                rename World => w6
                                have HB6 := Lib.hid hb6
                                clear hb6 HBP hch
                                cases ch
                                · rw [HCH.out] at HSTEP HTB
                                  go_wp2
                                  go_roundw
                                  case rel => exact ⟨j + 1, by go_num, by rw [HSTEP.out]; simp, hjq, HBJ.out.trans (HB6.out.mono HBJ.out.size)⟩
                                  case measure => simp [intOf]; omega
                                · rw [HCH.out] at HSTEP HTB
                                  have hw1 : wrap64 (T + v.2) = T + v.2 := HTB.out rfl
                                  obtain ⟨k0, k1, l0, l1, l2, l3, l4, z0, z1, z2, z3, z4⟩ := HSJ.out _ HB6.out
                                  go_wp2
                                  go_roundw
                                  case rel => exact ⟨j + 1, by go_num, by rw [HSTEP.out]; simp [hw1], hjq, HBJ.out.trans (HB6.out.mono HBJ.out.size)⟩
                                  case measure => simp [intOf]; omega
                          · have hgej : ¬ ((j : Int) < (q : Int)) := by omega
                            obtain rfl : j = q := by omega
                            rw [List.take_of_length_le (show Rs.length ≤ j from by rw [HQ.out]; exact Nat.le_refl _)]
                            obtain ⟨X, hX⟩ : ∃ X, sumC Rs u.1.1 ⟨u.1.2.1.1, u.1.2.1.2⟩ u.1.2.2 = X := ⟨_, rfl⟩
                            have hcl := HCL.out
                            rw [hX] at hcl ⊢
                            have HX := Lib.hid hcl
                            have hXn : 0 ≤ X := by rw [← hX]; exact sumC_nonneg fun z hz => (HPOS.out z hz).1
                            have HXN := Lib.hid hXn
                            have hn4 := HN4.out
                            clear hX hcl hXn
                            obtain ⟨k0, k1, l0, l1, l2, l3, l4⟩ := HS.out _ HBJ.out
                            go_wp2
                            go_loopw [14, 15] (fun mv jv wr => ∃ j : Nat, jv = .int .i64 j ∧ mv = .int .i64 (sumM (held.take j) u.1.1 ⟨u.1.2.1.1, u.1.2.1.2⟩ u.1.2.2) ∧ j ≤ n1 ∧ Hid (Below w2.heap.size w2 wr)) (fun _ jv _ => n1 - (intOf jv).toNat)
                            case atStart => exact ⟨0, rfl, rfl, Nat.zero_le _, HBJ.out⟩
                            case round =>
                              as_aux_lemma =>
                                refine id ?_
                                obtain ⟨k, rfl, rfl, hk, hbk⟩ := hrel
                                obtain ⟨wk, rfl⟩ : ∃ wk, wk = wr := ⟨_, rfl⟩
                                have HBK := Lib.hid hbk.out
                                have HBKQ := Lib.hid (HBQ2.out.trans (hbk.out.mono HBQ2.out.size))
                                clear hbk k0 k1 l0 l1 l2 l3 l4
                                by_cases hkn : k < n1
                                · have hkl : k < held.length := by rw [← HN.out]; exact hkn
                                  obtain ⟨a, Ly, my, By, cy, hA, -, hoa⟩ := obj_at (HRH.out.below HBKQ.out) k hkl
                                  subst hA
                                  have hfo := HI.out.fit _ (List.getElem_mem hkl)
                                  have hzo := HI.out.acc _ (List.getElem_mem hkl)
                                  have hst := sumM_take hkl HI.out.acc u.1.1 ⟨u.1.2.1.1, u.1.2.1.2⟩ u.1.2.2
                                  obtain ⟨y, hy⟩ : ∃ y, held[k] = y := ⟨_, rfl⟩
                                  rw [hy] at hoa hfo hzo hst
                                  have HOA := Lib.hid hoa
                                  have HFO := Lib.hid hfo
                                  have HZO := Lib.hid hzo
                                  have HST := Lib.hid hst
                                  obtain ⟨T, hT⟩ : ∃ T, sumM (held.take k) u.1.1 ⟨u.1.2.1.1, u.1.2.1.2⟩ u.1.2.2 = T := ⟨_, rfl⟩
                                  rw [hT] at HST ⊢
                                  have hkn' : (k : Int) < (n1 : Int) := by omega
                                  have hk0 : (0 : Int) ≤ (k : Int) := by omega
                                  have HSY := Lib.hid (show ∀ W, Below wk.heap.size wk W → (W.cell? ⟨bb, 0, none⟩ = some (.pointer (some ⟨g, 0, none⟩)) ∧ W.cell? ⟨bb, 1, none⟩ = some (.slice (some a) n1 m1) ∧ W.cell? ⟨t7, 0, none⟩ = some (.string u.1.1) ∧ W.cell? ⟨t7, 1, none⟩ = some (.int .i64 u.1.2.1.1) ∧ W.cell? ⟨t7, 2, none⟩ = some (.int .i64 u.1.2.1.2) ∧ W.cell? ⟨t7, 3, none⟩ = some (.string u.1.2.2) ∧ W.cell? ⟨t7, 4, none⟩ = some (.int .i64 u.2) ∧ W.cell? (a.add (k * 7)) = some (.string y.path) ∧ W.cell? ⟨(a.add (k * 7)).block, (a.add (k * 7)).off + 1, none⟩ = some (.string y.name) ∧ W.cell? ⟨(a.add (k * 7)).block, (a.add (k * 7)).off + 2, none⟩ = some (.slice Ly y.ls.length my) ∧ W.cell? ⟨(a.add (k * 7)).block, (a.add (k * 7)).off + 3, none⟩ = some (.int .i64 y.prio) ∧ W.cell? ⟨(a.add (k * 7)).block, (a.add (k * 7)).off + 4, none⟩ = some (.int .i64 y.dl) ∧ W.cell? ⟨(a.add (k * 7)).block, (a.add (k * 7)).off + 5, none⟩ = some (.slice By y.parts.length cy) ∧ W.cell? ⟨(a.add (k * 7)).block, (a.add (k * 7)).off + 6, none⟩ = some (.int .i64 y.ver)) from fun W hW => by
                                    obtain ⟨k0, k1, l0, l1, l2, l3, l4⟩ := HS.out W (HBK.out.trans (hW.mono HBK.out.size))
                                    obtain ⟨y0, y1, y2, y3, y4, y5, y6, -, -⟩ := HOA.out.below hW
                                    exact ⟨k0, k1, l0, l1, l2, l3, l4, y0, y1, y2, y3, y4, y5, y6⟩)
                                  have HOW := Lib.hid (fun W (hW : Below wk.heap.size wk W) => own_objM y Ly my By cy W ((HOA.out.below hW).fit HFO.out))
                                  have HOW2 := HOW
                                  clear hoa hfo hzo hst hy hT
                                  obtain ⟨k0, k1, l0, l1, l2, l3, l4, y0, y1, y2, y3, y4, y5, y6⟩ := HSY.out _ (Below.refl _ _)
                                  go_upto_region 27 with fail
                                  obtain ⟨gb, hgb⟩ : ∃ gb, (decide (y.path = u.1.1) && inS y.prio y.dl y.parts ⟨u.1.2.1.1, u.1.2.1.2⟩) = gb := ⟨_, rfl⟩
                                  have HGB := Lib.hid hgb
                                  clear hgb
                                  go_cut [179] (fun b wx => b = .bool gb ∧ Below wk.heap.size wk wx)
                                  case first =>
                                    as_aux_lemma =>
                                      refine id ?_
                                      by_cases hp : y.path = u.1.1
                                      · have e1 : (y.path.toList == u.1.1.toList) = true := by rw [bytes_beq]; simpa using hp
                                        have HGI := Lib.hid (show inS y.prio y.dl y.parts ⟨u.1.2.1.1, u.1.2.1.2⟩ = gb from by rw [← HGB.out]; simp [hp])
                                        obtain ⟨gi, hgi⟩ : ∃ gi, inS y.prio y.dl y.parts ⟨u.1.2.1.1, u.1.2.1.2⟩ = gi := ⟨_, rfl⟩
                                        have HIN := Lib.hid (fun (L3 : Option Addr) (m3 : Nat) (B3 : Option Addr) (e3 : Nat) (Q : Nat → Prop) W (hr : Row kPart Q W B3 y.parts) (ht : TextsAt W) => inM_any HFO.out.ok ⟨u.1.2.1.1, u.1.2.1.2⟩ L3 m3 B3 e3 hr ht)
                                        rw [hgi] at HGI HIN
                                        clear hp hgi k0 k1 l0 l1 l2 l3 l4 y0 y1 y2 y3 y4 y5 y6
                                        go_region_held3 (fun w' => w'.cell? ⟨bb, 0, none⟩ = some (.pointer (some ⟨g, 0, none⟩)) ∧ w'.cell? ⟨bb, 1, none⟩ = some (.slice (some a) n1 m1) ∧ w'.cell? ⟨t7, 0, none⟩ = some (.string u.1.1) ∧ w'.cell? ⟨t7, 1, none⟩ = some (.int .i64 u.1.2.1.1) ∧ w'.cell? ⟨t7, 2, none⟩ = some (.int .i64 u.1.2.1.2) ∧ w'.cell? ⟨t7, 3, none⟩ = some (.string u.1.2.2) ∧ w'.cell? ⟨t7, 4, none⟩ = some (.int .i64 u.2) ∧ w'.cell? (a.add (k * 7)) = some (.string y.path) ∧ w'.cell? ⟨(a.add (k * 7)).block, (a.add (k * 7)).off + 1, none⟩ = some (.string y.name) ∧ w'.cell? ⟨(a.add (k * 7)).block, (a.add (k * 7)).off + 2, none⟩ = some (.slice Ly y.ls.length my) ∧ w'.cell? ⟨(a.add (k * 7)).block, (a.add (k * 7)).off + 3, none⟩ = some (.int .i64 y.prio) ∧ w'.cell? ⟨(a.add (k * 7)).block, (a.add (k * 7)).off + 4, none⟩ = some (.int .i64 y.dl) ∧ w'.cell? ⟨(a.add (k * 7)).block, (a.add (k * 7)).off + 5, none⟩ = some (.slice By y.parts.length cy) ∧ w'.cell? ⟨(a.add (k * 7)).block, (a.add (k * 7)).off + 6, none⟩ = some (.int .i64 y.ver)) (exact HSY.out _ (by repeat (first | exact HW4.out | exact HW3.out | exact Below.refl _ _ | refine Below.drew ?_))) (first
                                          | (go_at_call 10; refine (HOW.out _ (by repeat (first | exact Below.refl _ _ | refine Below.drew ?_))).mono ?_; rintro e w3 ⟨L3, m3, B3, e3, rfl, hr3, hb3⟩; have HW3 := Lib.hid (BJp hb3 (show Below wk.heap.size wk _ from (by repeat (first | exact Below.refl _ _ | refine Below.drew ?_)))); have HR3 := Lib.hid (kObj_parts hr3).1; clear hr3 hb3 HOW)
                                          | (go_at_call 28; refine (HIN.out L3 m3 B3 e3 _ _ (HR3.out.below (by repeat (first | exact Below.refl _ _ | refine Below.drew ?_))) (HTQ.out.below (HBKQ.out.trans ((show Below wk.heap.size wk _ from (by repeat (first | exact HW3.out | exact Below.refl _ _ | refine Below.drew ?_))).mono HBKQ.out.size)))).mono ?_; rintro e w4 ⟨rfl, hb4⟩; have HW4 := Lib.hid (BJp hb4 (show Below wk.heap.size wk _ from (by repeat (first | exact HW3.out | exact Below.refl _ _ | refine Below.drew ?_)))); clear hb4 HR3))
                                        all_goals (go_wp2_with fail; go_meet; exact ⟨by rw [HGI.out], HW4.out⟩)
                                      · have e1 : (y.path.toList == u.1.1.toList) = false := by rw [bytes_beq]; simpa using hp
                                        have HGI := Lib.hid (show (false : Bool) = gb from by rw [← HGB.out]; simp [hp])
                                        clear hp k0 k1 l0 l1 l2 l3 l4 y0 y1 y2 y3 y4 y5 y6
                                        have zk0 := fun z : BW wk => (HSY.out z.w z.h).1
                                        have zk1 := fun z : BW wk => (HSY.out z.w z.h).2.1
                                        have zl0 := fun z : BW wk => (HSY.out z.w z.h).2.2.1
                                        have zy0 := fun z : BW wk => (HSY.out z.w z.h).2.2.2.2.2.2.2.1
                                        refine wp_region_pure (by kernel_rfl) (by kernel_rfl) ?_
                                        repeat (first | go_big_quiet_step (fail) | quiet_step (fail))
                                        refine wpQuiet_nil ?_
                                        rintro _ ⟨z, rfl⟩
                                        clear zk0 zk1 zl0 zy0
                                        go_wp2
                                        go_meet
                                        exact ⟨by rw [HGI.out], z.h⟩
                                  case rest =>
                                    as_aux_lemma =>
                                      refine id ?_
                                      obtain ⟨rfl, hb5⟩ := hcut
                                      rename World => w5
                                      have HB5 := Lib.hid hb5
                                      clear hb5 k0 k1 l0 l1 l2 l3 l4 y0 y1 y2 y3 y4 y5 y6
                                      cases gb
                                      · have hgo := HGB.out
                                        have HPW := Lib.hid (show mineW y u.1.1 ⟨u.1.2.1.1, u.1.2.1.2⟩ u.1.2.2 = 0 from by
                                          unfold mineW
                                          refine if_neg fun e => ?_
                                          rw [Bool.and_eq_false_iff, decide_eq_false_iff_not] at hgo
                                          rcases hgo with h | h
                                          · exact h e.1
                                          · rw [h] at e; exact absurd e.2 (by decide))
                                        clear hgo
                                        go_wp2
                                        go_roundw
                                        case rel => exact ⟨k + 1, by go_num, by rw [HST.out.1, HPW.out, Int.add_zero], hkn, HBK.out.trans (HB5.out.mono HBK.out.size)⟩
                                        case measure => simp [intOf]; omega
                                      · have hgo := HGB.out
                                        have HPW := Lib.hid (show mineW y u.1.1 ⟨u.1.2.1.1, u.1.2.1.2⟩ u.1.2.2 = valAt (usesU y.v) u.1.2.2 from by
                                          unfold mineW
                                          rw [Bool.and_eq_true, decide_eq_true_iff] at hgo
                                          exact if_pos hgo)
                                        have HUPS := Lib.hid (usesU_pos (shares_path HZO.out).2.1)
                                        have HU0 := Lib.hid (shares_path HZO.out).2.1
                                        clear hgo
                                        obtain ⟨k0, k1, l0, l1, l2, l3, l4, y0, y1, y2, y3, y4, y5, y6⟩ := HSY.out _ HB5.out
                                        go_upto_region 29 with (first
                                          | (go_at_call 10; refine (HOW2.out _ HB5.out).mono ?_; rintro e w6 ⟨L3, m3, B3, e3, rfl, hr3, hb3⟩; have HB6 := Lib.hid (HB5.out.trans (hb3.mono HB5.out.size)); have HR3 := Lib.hid (kObj_parts hr3).1; clear hr3 hb3 HOW2)
                                          | (go_at_call 29; refine (usesM_any HFO.out.ok L3 m3 B3 e3 HR3.out).mono ?_; rintro e w7 ⟨A7, k7, rfl, hr7, hl7, hb7⟩; have HB7 := Lib.hid (HB6.out.trans (hb7.mono HB6.out.size)); have HR7 := Lib.hid hr7; have HL7 := Lib.hid hl7; clear hr7 hl7 hb7 HR3 HB6))
                                        clear k0 k1 l0 l1 l2 l3 l4 y0 y1 y2 y3 y4 y5 y6
                                        obtain ⟨U, hU⟩ : ∃ U, usesU y.v = U := ⟨_, rfl⟩
                                        rw [hU] at HPW HUPS HR7 HL7 ⊢
                                        obtain ⟨nu, hnu⟩ : ∃ q, U.length = q := ⟨_, rfl⟩
                                        rw [hnu] at HL7 ⊢
                                        have HNU := Lib.hid hnu
                                        have hlq := HL7.out
                                        clear hU hnu
                                        go_wp2
                                        go_loopw [14, 18] (fun tv jv wr => ∃ j : Nat, jv = .int .i64 j ∧ tv = .int .i64 (T + valAt (U.take j) u.1.2.2) ∧ j ≤ nu ∧ Hid (Below w7.heap.size w7 wr)) (fun _ jv _ => nu - (intOf jv).toNat)
                                        case atStart => exact ⟨0, rfl, by rw [show valAt (U.take 0) u.1.2.2 = 0 from rfl, Int.add_zero], Nat.zero_le _, Below.refl _ _⟩
                                        case round =>
                                          as_aux_lemma =>
                                            refine id ?_
                                            obtain ⟨m, rfl, rfl, hmm, hbm⟩ := hrel
                                            obtain ⟨wm, rfl⟩ : ∃ wm, wm = wr := ⟨_, rfl⟩
                                            have HBM := Lib.hid hbm.out
                                            clear hbm
                                            have HBMK := Lib.hid (show Below wk.heap.size wk wm from HB7.out.trans (HBM.out.mono HB7.out.size))
                                            by_cases hml : m < nu
                                            · have hmU : m < U.length := by rw [HNU.out]; exact hml
                                              obtain ⟨b, rfl, -, a0, a1⟩ := amt_at (HR7.out.below HBM.out) m hmU
                                              have hv := valAt_step hmU u.1.2.2
                                              have hle := valAt_take_le (r := u.1.2.2) (U := U) (fun x hx => (HUPS.out x hx).1) (m + 1)
                                              have hpo := valAt_nonneg (r := u.1.2.2) (U := U.take m) fun x hx => (HUPS.out x (List.mem_of_mem_take hx)).1
                                              have hup := HUPS.out _ (List.getElem_mem hmU)
                                              obtain ⟨x, hx⟩ : ∃ x, U[m] = x := ⟨_, rfl⟩
                                              rw [hx] at a0 a1 hv hup
                                              have hml' : (m : Int) < (nu : Int) := by omega
                                              have hm0 : (0 : Int) ≤ (m : Int) := by omega
                                              have h1 := HST.out
                                              rw [HPW.out] at h1
                                              have htt := HX.out
                                              have hxn := HXN.out
                                              have huhi := HU.out.2.2.2
                                              have HV := Lib.hid hv
                                              obtain ⟨V, hV⟩ : ∃ V, T + valAt (U.take m) u.1.2.2 = V := ⟨_, rfl⟩
                                              have HVV := Lib.hid hV
                                              rw [hV]
                                              obtain ⟨-, -, l0, l1, l2, l3, l4, -⟩ := HSY.out _ HBMK.out
                                              by_cases he : x.name = u.1.2.2
                                              · have e1 : (x.name.toList == u.1.2.2.toList) = true := by rw [bytes_beq]; simpa using he
                                                rw [if_pos he] at hv
                                                have hw2 : wrap64 (V + x.val) = V + x.val := wrap_id (by omega) (by omega)
                                                have HE := Lib.hid he
                                                clear he hv hle hpo hup h1 htt hxn huhi hV hx
                                                go_wp2
                                                go_quiet (fail)
                                                go_wp2
                                                go_roundw
                                                case rel => exact ⟨m + 1, by go_num, by first | rw [hw2, HV.out, if_pos HE.out, ← HVV.out, Int.add_assoc] | (simp only [hw2]; rw [HV.out, if_pos HE.out, ← HVV.out, Int.add_assoc]), hml, below_drewN HBM.out _⟩
                                                case measure => simp [intOf]; omega
                                              · have e1 : (x.name.toList == u.1.2.2.toList) = false := by rw [bytes_beq]; simpa using he
                                                have HE := Lib.hid he
                                                clear he hv hle hpo hup h1 htt hxn huhi hV hx
                                                go_wp2
                                                go_quiet (fail)
                                                go_wp2
                                                go_roundw
                                                case rel => exact ⟨m + 1, by go_num, by rw [HV.out, if_neg HE.out, Int.add_zero, HVV.out], hml, below_drewN HBM.out _⟩
                                                case measure => simp [intOf]; omega
                                            · have hgem : ¬ ((m : Int) < (nu : Int)) := by omega
                                              obtain rfl : m = nu := by omega
                                              have hfin : T + valAt (U.take m) u.1.2.2 = sumM (held.take (k + 1)) u.1.1 ⟨u.1.2.1.1, u.1.2.1.2⟩ u.1.2.2 := by
                                                rw [HST.out.1, HPW.out, List.take_of_length_le (by rw [HNU.out]; exact Nat.le_refl _)]
                                              rw [hfin]
                                              go_wp2
                                              go_roundw
                                              case rel => exact ⟨k + 1, by go_num, rfl, hkn, HBK.out.trans (HBMK.out.mono HBK.out.size)⟩
                                              case measure => simp [intOf]; omega
                                · have hgek : ¬ ((k : Int) < (n1 : Int)) := by omega
                                  obtain rfl : k = n1 := by omega
                                  rw [List.take_of_length_le (show held.length ≤ k from by rw [← HN.out]; exact Nat.le_refl _)]
                                  obtain ⟨Y, hY⟩ : ∃ Y, sumM held u.1.1 ⟨u.1.2.1.1, u.1.2.1.2⟩ u.1.2.2 = Y := ⟨_, rfl⟩
                                  have hcl := HX.out
                                  rw [hY] at hcl ⊢
                                  have hhi := HU.out.2.2.2
                                  have hlo := HU.out.1
                                  have hw1 : wrap64 (X + Y) = X + Y := wrap_id (by omega) (by omega)
                                  have e9 : (X + Y != u.2) = false := by rw [hcl]; simp
                                  obtain ⟨k0, k1, l0, l1, l2, l3, l4⟩ := HS.out _ HBK.out
                                  clear hcl hhi hlo hY
                                  go_wp2
                                  go_roundw
                                  case rel => exact ⟨i + 1, by go_num, hlt, HB2.out.trans (HBK.out.mono HB2.out.size)⟩
                                  case measure => simp [intOf]; omega
                · have hge : ¬ ((i : Int) < (q : Int)) := by omega
                  go_wp2
                  go_ret
                  exact ⟨rfl, HBW.out.trans ((HB1.out.trans (HBZ.out.mono HB1.out.size)).mono HBW.out.size)⟩
end Go.Proofs.YtalkdddeiebfmaaGreatDoor
