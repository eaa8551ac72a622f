/- LedgerOrders: the walk. -/
import Derived.Test.YtalkdddeiebfmaaGreatDoorJ32
namespace Go.Proofs.YtalkdddeiebfmaaGreatDoor
open Go.RowKit

set_option maxRecDepth 100000 in
set_option maxHeartbeats 1000000 in
theorem ledgerOrders_any (d : ObjM) (os : List ObjM) (order : List Int) (A B : Option Addr) (c cb : Nat) (P Q : Nat → Prop) (w : World) (hm : Ml w) (ht : TextsAt w) (hr : Row kObj P w A os) (hq : Row (Kn.int .i64) Q w B order) (hok : ∀ o ∈ os, ObjMFit o)
    (hlo : os.length ≤ 9223372036854775806) (hlq : order.length ≤ 9223372036854775806) :
    Calls Tryz.prog 5 #[.slice A os.length c, .slice B order.length cb] w fun e w' => e = .returned (.bool true) ∧ Below w.heap.size w w' := by
  have HM := Lib.hid hm
  have HT := Lib.hid ht
  have HR := Lib.hid hr
  have HQ := Lib.hid hq
  have HOK := Lib.hid hok
  clear hm ht hr hq hok
  have HL := Lib.hid (fun W (h : Below w.heap.size w W) => lives_any W (HM.out.below h) (HT.out.below h))
  have HL0 := Lib.hid (HL.out w (Below.refl _ _))
  by_cases h40 : os.length ≤ 40
  · by_cases hne : order.length = os.length
    · obtain ⟨n, hn⟩ : ∃ n, os.length = n := ⟨_, rfl⟩
      rw [hn] at h40 hne hlo ⊢
      rw [hne] at hlq ⊢
      have HN := Lib.hid hn
      have HNE := Lib.hid hne
      have e1 : ¬ ((n : Int) > 40) := by omega
      have e2 : ((n : Int) != (n : Int)) = false := by simp
      clear hn hne
      go_enter Tryz.func5, Tryz.ntmps5
      go_upto_region 2 with (go_at_call 16; refine HL0.out.mono ?_; rintro e w1 ⟨ga, a1, a2, rfl, hka, hla, hb1⟩; have HB1 := Lib.hid hb1; have HKA := Lib.hid hka; have HLA := Lib.hid hla; clear hka hla hb1)
      have HL1 := Lib.hid (HL.out w1 HB1.out)
      go_upto_region 8 with (go_at_call 16; refine HL1.out.mono ?_; rintro e w2 ⟨gb, b1, b2, rfl, hkb, hlb, hb2⟩; have HB2 := Lib.hid hb2; have HKB := Lib.hid hkb; have HLB := Lib.hid hlb; clear hkb hlb hb2)
      clear HL HL0 HL1
      go_wp2_with (first
        | (refine wpList_make_full _ rfl _ _ 52 rfl w2.heap.size 4 _ _ 1 Tryz.underlying52 rfl rfl rfl .i64 .i64 _ _ n rfl rfl rfl rfl (by show 1 * n ≤ _; omega) (by unfold maxLen; omega) (Nat.le_refl _) ?_; intro w3 hrow3 hg3; have HS3 := Lib.hid hrow3; have HG3 := Lib.hid hg3; clear hrow3 hg3)
        | go_in)
      have HB3 := Lib.hid (show Below w2.heap.size w2 w3 from (Below.refl _ _).grown HG3.out (Nat.le_refl _) (fun j hj => by cases hj))
      have HBLK := Lib.hid (show OrdBlk w ga a1 a2 gb b1 b2 w2.heap.size from by
        have h1 := HB1.out.size
        have h2 := HB2.out.size
        refine ⟨fun j hj => ⟨HLA.out j hj, ?_⟩, fun j hj => ⟨Nat.le_trans h1 (HLB.out j hj), HKB.out.lt j hj⟩, fun j hj hj2 => ?_, Nat.le_trans h1 h2⟩
        · exact Nat.lt_of_lt_of_le (HKA.out.lt j hj) h2
        · have h3 := HKA.out.lt j hj
          have h4 := HLB.out j hj2
          omega)
      have HAT := Lib.hid (show OrdAt d w w3 ga a1 a2 gb b1 b2 w2.heap.size n 0 os (.slice none 0 0) [] Z0 Z0 C0 C0 (fun _ => False) from by
        have hs := HS3.out
        rw [made_bools] at hs
        refine ⟨HB1.out.trans ((HB2.out.trans (HB3.out.mono HB2.out.size)).mono HB1.out.size), ListAt.nil _ _ _ _, ?_, ?_, own_seen hs, List.nodup_nil, rfl, fun k hk => by cases hk⟩
        · exact (LedRun.start ((HKA.out.below HB2.out).below HB3.out))
        · exact LedRun.start (HKB.out.below HB3.out))
      clear HS3 HG3 HKA HKB HLA HLB
      try go_frame
      go_loopw [7, 9] (fun lv iv wr => ∃ (i cc : Nat) (A7 : Option Addr) (ks : List Nat) (Sa Sb : Pl → Int) (Ca Cb : ByteArray → Int) (R : Nat → Prop), iv = .int .i64 i ∧ lv = .slice A7 i cc ∧ i ≤ n ∧ Hid (OrdAt d w wr ga a1 a2 gb b1 b2 w2.heap.size n i os lv ks Sa Sb Ca Cb R)) (fun _ iv _ => n - (intOf iv).toNat)
      case atStart => exact ⟨0, 0, none, [], Z0, Z0, C0, C0, _, rfl, rfl, Nat.zero_le _, HAT.out⟩
      case round =>
        obtain ⟨i, cc, A7, ks, Sa, Sb, Ca, Cb, R, rfl, rfl, hi, hat⟩ := hrel
        obtain ⟨wq, rfl⟩ : ∃ wq, wq = wr := ⟨_, rfl⟩
        by_cases hlt : i < n
        · have hio : i < os.length := by rw [HN.out]; exact hlt
          obtain ⟨a, L, m, B0, cp, rfl, -, hoa⟩ := obj_at HR.out i hio
          have hfit := HOK.out _ (List.getElem_mem hio)
          have htk := List.take_succ_eq_append_getElem hio
          obtain ⟨o, ho⟩ : ∃ o, os[i] = o := ⟨_, rfl⟩
          rw [ho] at hoa hfit htk
          have HTK := Lib.hid htk
          have HFIT := Lib.hid hfit
          have HBQ := Lib.hid hat.out.below
          have HLO := hat.out.below
          have HOA := Lib.hid hoa
          obtain ⟨x0, x1, x2, x3, x4, x5, x6, xl, xr⟩ := hoa
          have y0 := (HLO.cell (World.block_lt_of_cell? _ _ x0)).trans x0
          have y1 := (HLO.cell (p := ⟨_, _, none⟩) (World.block_lt_of_cell? _ _ x1)).trans x1
          have y2 := (HLO.cell (p := ⟨_, _, none⟩) (World.block_lt_of_cell? _ _ x2)).trans x2
          have y3 := (HLO.cell (p := ⟨_, _, none⟩) (World.block_lt_of_cell? _ _ x3)).trans x3
          have y4 := (HLO.cell (p := ⟨_, _, none⟩) (World.block_lt_of_cell? _ _ x4)).trans x4
          have y5 := (HLO.cell (p := ⟨_, _, none⟩) (World.block_lt_of_cell? _ _ x5)).trans x5
          have y6 := (HLO.cell (p := ⟨_, _, none⟩) (World.block_lt_of_cell? _ _ x6)).trans x6
          have HOW := Lib.hid (fun W (h : Below w.heap.size w W) => own_objM o L m B0 cp W ((HOA.out.fit HFIT.out).below h))
          have HAT := Lib.hid hat.out
          have hi0 : (0 : Int) ≤ (i : Int) := by omega
          have hi1 : (i : Int) < (n : Int) := by omega
          clear hfit htk x0 x1 x2 x3 x4 x5 x6 xl xr HLO hat
          go_upto_region 12 with (fail)
          have HLL := Lib.hid (show (os.take i).length = i from by rw [List.length_take]; omega)
          have hszq := HBQ.out.size
          have hsbq : w2.heap.size + 1 ≤ wq.heap.size := by
            have h := (HAT.out.seen.block_lt w2.heap.size rfl).2
            omega
          obtain ⟨aq, rfl, hcq⟩ := row_int_at HQ.out i (by rw [HNE.out]; exact hlt)
          obtain ⟨kk, hkk⟩ : ∃ kk, order[i]'(by rw [HNE.out]; exact hlt) = kk := ⟨_, rfl⟩
          rw [hkk] at hcq
          have HCQ := Lib.hid hcq
          clear hcq hkk
          have HOIO := Lib.hid (show os[i]'hio = o from ho)
          clear ho
          go_upto_region 13 with (first
            | (go_at_call 10; have q := HOW.out _ HBQ.out; refine q.mono ?_; clear q; rintro e w4 ⟨L4, m4, B4, c4, rfl, hr4, hb4⟩
               have HC := Lib.hid (show Row kObj (fun k => (wq.heap.size ≤ k ∧ k < w4.heap.size) ∨ k = w4.heap.size) (w4.alloc (.cells #[.string o.path, .string o.name, .slice L4 o.ls.length m4, .int .i64 o.prio, .int .i64 o.dl, .slice B4 o.parts.length c4, .int .i64 o.ver] 26)) (some ⟨w4.heap.size, 0, none⟩) [o] from
                 Row.newOne (cs := [.string o.path, .string o.name, .slice L4 o.ls.length m4, .int .i64 o.prio, .int .i64 o.dl, .slice B4 o.parts.length c4, .int .i64 o.ver]) (kObj.keep (fun k _ hk => heap_alloc_old _ _ hk) hr4))
               have HB4 := Lib.hid (hb4.alloc hb4.size (.cells #[.string o.path, .string o.name, .slice L4 o.ls.length m4, .int .i64 o.prio, .int .i64 o.dl, .slice B4 o.parts.length c4, .int .i64 o.ver] 26))
               have HS4 := Lib.hid (show ∀ k, ((wq.heap.size ≤ k ∧ k < w4.heap.size) ∨ k = w4.heap.size) → wq.heap.size ≤ k ∧ k < (w4.alloc (.cells #[.string o.path, .string o.name, .slice L4 o.ls.length m4, .int .i64 o.prio, .int .i64 o.dl, .slice B4 o.parts.length c4, .int .i64 o.ver] 26)).heap.size from fun k hk => by
                 have := hb4.size
                 simp only [World.alloc, Array.size_push]
                 omega)
               have HLS := Lib.hid (HAT.out.list.below HB4.out)
               have hsz4 := hb4.size
               clear hr4 hb4 y0 y1 y2 y3 y4 y5 y6)
            | (at_builtin; refine wpList_app objElem (w2.heap.size + 1) rfl (.tmp 40) (.tmp 46) rfl (v := .slice A7 i cc) (xs := os.take i) (ys := [o]) rfl HLS.out.own (fun k hk => (HLS.out.low k hk).2.2) (fun k hk e => by have := (HAT.out.list.own.block_lt _ e).2; omega) rfl rfl HC.out (by rw [HLL.out]; simp only [List.length_singleton]; omega) (by simp; omega) ?_; intro A8 c8 w8 happ
               have HG := Lib.hid (HAT.out.g.app HBLK.out HTK.out HB4.out HS4.out happ); clear happ HLS HC HS4 HB4 hsz4))
          rw [HLL.out, List.length_singleton] at HG
          try rw [HLL.out, List.length_singleton]
          have HCQ8 := HG.out.below.cell (World.block_lt_of_cell? _ _ HCQ.out)
          rw [HCQ.out] at HCQ8
          clear HCQ HLL
          by_cases hk0 : kk < 0
          · have HE := Lib.hid HG.out.below
            clear HTK HFIT HBQ HOA HOW HAT HG HOIO
            go_wp2
            go_ret
            exact ⟨rfl, HE.out⟩
          · by_cases hkn : kk < n
            · obtain ⟨k, rfl⟩ : ∃ k : Nat, kk = k := ⟨kk.toNat, by omega⟩
              have hkl : k < n := by omega
              have e1 : ¬ ((k : Int) ≥ (n : Int)) := by omega
              obtain ⟨z0, zf⟩ := HG.out.cell hkl
              by_cases hks : k ∈ ks
              · have e2 : decide (k ∈ ks) = true := by simpa using hks
                rw [e2] at z0
                have HE := Lib.hid HG.out.below
                clear HTK HFIT HBQ HOA HOW HAT HG HOIO hks e2
                go_wp2
                go_ret
                exact ⟨rfl, HE.out⟩
              · have e2 : decide (k ∈ ks) = false := by simpa using hks
                rw [e2] at z0
                have HKS := Lib.hid hks
                clear e2 hks
                go_upto_region 17 with fail
                clear z0 zf HCQ8
                rw [show min i os.length = i from Nat.min_eq_left (Nat.le_of_lt hio)]
                have HG9 := Lib.hid (HG.out.see HBLK.out hkl)
                obtain ⟨w9, hw9⟩ : ∃ w9, w8.setCell ⟨w2.heap.size, k, none⟩ (.bool true) = w9 := ⟨_, rfl⟩
                rw [hw9] at HG9 ⊢
                clear hw9 HG
                have hko : k < os.length := by rw [HN.out]; exact hkl
                have hgd : os.getD k d = os[k] := by rw [List.getD_eq_getElem?_getD, List.getElem?_eq_getElem hko, Option.getD_some]
                obtain ⟨a', L', m', B', cp', ha', -, hoa'⟩ := obj_at HR.out k hko
                cases ha'
                have hfit' := HOK.out _ (List.getElem_mem hko)
                obtain ⟨p, hp⟩ : ∃ p, os[k] = p := ⟨_, rfl⟩
                rw [hp] at hoa' hfit' hgd
                have HGD := Lib.hid hgd
                have HFIT' := Lib.hid hfit'
                have HOA' := Lib.hid hoa'
                have HOW' := Lib.hid (fun W (h : Below w.heap.size w W) => own_objM p L' m' B' cp' W ((HOA'.out.fit HFIT'.out).below h))
                obtain ⟨⟨za, Sa', Ca'⟩, hca⟩ : ∃ r, chargeV Sa Ca o.v = r := ⟨_, rfl⟩
                obtain ⟨⟨zb, Sb', Cb'⟩, hcb⟩ : ∃ r, chargeV Sb Cb p.v = r := ⟨_, rfl⟩
                have HCA := Lib.hid hca
                have HCB := Lib.hid hcb
                have HL40 := Lib.hid (show (os.take i).length ≤ 40 ∧ (ks.map fun k => os.getD k d).length ≤ 40 from by
                  have h1 := HAT.out.len
                  rw [List.length_take, List.length_map]; omega)
                have HOAX := Lib.hid (HOA.out.below HG9.out.below)
                obtain ⟨y0, y1, y2, y3, y4, y5, y6, -, -⟩ := HOAX.out
                clear hp hfit' hoa' hgd hca hcb HOAX
                by_cases hza : za = 0
                · subst hza
                  by_cases hzb : zb = 0
                  · subst hzb
                    go_wp2_with (first
                      | (go_at_call 10; have q := HOW.out _ HG9.out.below; refine q.mono ?_; clear q HOW; rintro e w10 ⟨L5, m5, B5, c5, rfl, hr5, hb5⟩; have HR5 := Lib.hid hr5; have HG10 := Lib.hid (HG9.out.then_ hb5); clear hr5 hb5 HG9 y0 y1 y2 y3 y4 y5 y6)
                      | (go_at_call 17; have q := HG10.out.a.charge' HL40.out.1 o HFIT.out.ok HCA.out L5 m5 B5 c5 _ (oarg_of HR5.out HFIT.out.ok (HM.out.below HG10.out.below) (HT.out.below HG10.out.below)); refine q.mono ?_; clear q; rintro e w11 ⟨rfl, hz, ht⟩; have HG11 := Lib.hid (HG10.out.chA HBLK.out ht (hz rfl)); obtain ⟨y0, y1, y2, y3, y4, y5, y6, -, -⟩ := HOA'.out.below HG11.out.below; clear hz ht HG10 HR5)
                      | (go_at_call 10; have q := HOW'.out _ HG11.out.below; refine q.mono ?_; clear q HOW'; rintro e w12 ⟨L6, m6, B6, c6, rfl, hr6, hb6⟩; have HR6 := Lib.hid hr6; have HG12 := Lib.hid (HG11.out.then_ hb6); clear hr6 hb6 HG11 y0 y1 y2 y3 y4 y5 y6)
                      | (go_at_call 17; have q := HG12.out.b.charge' HL40.out.2 p HFIT'.out.ok HCB.out L6 m6 B6 c6 _ (oarg_of HR6.out HFIT'.out.ok (HM.out.below HG12.out.below) (HT.out.below HG12.out.below)); refine q.mono ?_; clear q; rintro e w13 ⟨rfl, hz, ht⟩; have HG13 := Lib.hid (HG12.out.chB HBLK.out ht (hz rfl)); clear hz ht HG12 HR6))
                    go_roundw
                    case rel => exact ⟨i + 1, c8, A8, ks ++ [k], Sa', Sb', Ca', Cb', _, by go_num, rfl, hlt, OrdG.at_ hio hkl HN.out HOIO.out HGD.out HG13.out HAT.out.nod HAT.out.len HAT.out.lt HKS.out⟩
                    case measure => simp [intOf]; omega
                  · have e3 : (zb != 0) = true := by simpa using hzb
                    clear hzb
                    go_wp2_with (first
                      | (go_at_call 10; have q := HOW.out _ HG9.out.below; refine q.mono ?_; clear q HOW; rintro e w10 ⟨L5, m5, B5, c5, rfl, hr5, hb5⟩; have HR5 := Lib.hid hr5; have HG10 := Lib.hid (HG9.out.then_ hb5); clear hr5 hb5 HG9 y0 y1 y2 y3 y4 y5 y6)
                      | (go_at_call 17; have q := HG10.out.a.charge' HL40.out.1 o HFIT.out.ok HCA.out L5 m5 B5 c5 _ (oarg_of HR5.out HFIT.out.ok (HM.out.below HG10.out.below) (HT.out.below HG10.out.below)); refine q.mono ?_; clear q; rintro e w11 ⟨rfl, hz, ht⟩; have HG11 := Lib.hid (HG10.out.chA HBLK.out ht (hz rfl)); obtain ⟨y0, y1, y2, y3, y4, y5, y6, -, -⟩ := HOA'.out.below HG11.out.below; clear hz ht HG10 HR5)
                      | (go_at_call 10; have q := HOW'.out _ HG11.out.below; refine q.mono ?_; clear q HOW'; rintro e w12 ⟨L6, m6, B6, c6, rfl, hr6, hb6⟩; have HR6 := Lib.hid hr6; have HG12 := Lib.hid (HG11.out.then_ hb6); clear hr6 hb6 HG11 y0 y1 y2 y3 y4 y5 y6)
                      | (go_at_call 17; have q := HG12.out.b.charge' HL40.out.2 p HFIT'.out.ok HCB.out L6 m6 B6 c6 _ (oarg_of HR6.out HFIT'.out.ok (HM.out.below HG12.out.below) (HT.out.below HG12.out.below)); refine q.mono ?_; clear q; rintro e w13 ⟨rfl, hz, ht⟩; have HB13 := Lib.hid (HG12.out.below.trans (ht.below HG12.out.below.size fun k e => (HBLK.out.b k (.inr e)).1)); clear hz ht HG12 HR6))
                    go_ret
                    exact ⟨rfl, HB13.out⟩
                · have e3 : (za != 0) = true := by simpa using hza
                  clear hza
                  go_wp2_with (first
                    | (go_at_call 10; have q := HOW.out _ HG9.out.below; refine q.mono ?_; clear q HOW; rintro e w10 ⟨L5, m5, B5, c5, rfl, hr5, hb5⟩; have HR5 := Lib.hid hr5; have HG10 := Lib.hid (HG9.out.then_ hb5); clear hr5 hb5 HG9 y0 y1 y2 y3 y4 y5 y6)
                    | (go_at_call 17; have q := HG10.out.a.charge' HL40.out.1 o HFIT.out.ok HCA.out L5 m5 B5 c5 _ (oarg_of HR5.out HFIT.out.ok (HM.out.below HG10.out.below) (HT.out.below HG10.out.below)); refine q.mono ?_; clear q; rintro e w11 ⟨rfl, hz, ht⟩; have HB11 := Lib.hid (HG10.out.below.trans (ht.below HG10.out.below.size fun k e => (HBLK.out.a k (.inr e)).1)); clear hz ht HG10 HR5))
                  go_ret
                  exact ⟨rfl, HB11.out⟩
            · have e1 : (kk : Int) ≥ (n : Int) := by omega
              have HE := Lib.hid HG.out.below
              clear HTK HFIT HBQ HOA HOW HAT HG HOIO
              go_wp2
              go_ret
              exact ⟨rfl, HE.out⟩
        · have hge : ¬ ((i : Int) < (n : Int)) := by omega
          obtain rfl : i = n := by omega
          have hos : os.take i = os := List.take_of_length_le (by rw [HN.out]; exact Nat.le_refl _)
          obtain ⟨q1, q2, q3, q4, q5, q6, q7, q8⟩ := hat.out
          rw [hos] at q2 q3
          have HRW := Lib.hid q2.row.2.1
          have HLA := Lib.hid q3
          have HLB := Lib.hid q4
          have HBQ := Lib.hid q1
          have hof := q3.of
          have hS : Sb = Sa := by
            have h1 := ofV_acc q4.of
            have h2 := ofV_acc q3.of
            funext x
            rw [h1.1, h2.1, sumAt_perm (ordered_perm d q6 (by rw [q7, HN.out]) (fun k hk => by rw [HN.out]; exact q8 k hk))]
          have hcnt : Ca ⟨#[47]⟩ = (i : Int) := by
            rw [root_count hof, HN.out]; simp [C0]
          have HSB := Lib.hid hS
          have HKL := Lib.hid q7
          have HCN := Lib.hid hcnt
          have hwt := objs_wt (fun o ho => (HOK.out o ho).ok)
          rw [HN.out] at hwt
          have HCO := Lib.hid (show Calls Tryz.prog 11 #[.slice A7 i cc] wq (LOfPost os ((os.map objWt).sum) wq) from by
            have := ledgerOf_any os A7 cc _ wq (HM.out.below HBQ.out) (HT.out.below HBQ.out) HRW.out (fun o ho => (HOK.out o ho).ok) (by rw [HN.out]; omega) (by omega)
            rw [HN.out] at this
            exact this)
          obtain ⟨N, hNN⟩ : ∃ N, (os.map objWt).sum = N := ⟨_, rfl⟩
          rw [hNN] at hwt HCO
          have HOF := Lib.hid hof
          clear q1 q2 q3 q4 q5 q6 q7 q8 hos hof hS hcnt hNN
          go_upto_region 20 with (go_at_call 11; refine HCO.out.mono ?_; rintro e w4 ⟨hres, hb4⟩; have HB4 := Lib.hid hb4; have HRES := Lib.hid hres; clear hb4 hres; rw [HOF.out] at HRES; rcases HRES.out with ⟨h0, -⟩ | ⟨-, gc, c1, c2, rfl, hkc, hokc, -⟩; first | exact absurd rfl h0 | skip)
          have HKC := Lib.hid hkc
          have HOKC := Lib.hid hokc
          have HM4 := Lib.hid (HM.out.below (HBQ.out.trans (HB4.out.mono HBQ.out.size)))
          have HRA := Lib.hid (fun W (h : Below w4.heap.size w4 W) => lrows_any W (HM4.out.below h) ((HLA.out.led.below HB4.out).below h) HLA.out.ok (by have := HN.out; omega))
          rw [HSB.out] at HLB
          have HRB := Lib.hid (fun W (h : Below w4.heap.size w4 W) => lrows_any W (HM4.out.below h) ((HLB.out.led.below HB4.out).below h) HLB.out.ok (by rw [List.length_map, HKL.out]; omega))
          have HRC := Lib.hid (fun W (h : Below w4.heap.size w4 W) => lrows_any W (HM4.out.below h) (HKC.out.below h) HOKC.out (by omega))
          have HCT := Lib.hid (fun W (h : Below w4.heap.size w4 W) => count_any ⟨#[47]⟩ live_st (i : Int) HCN W ((HLA.out.led.below HB4.out).below h))
          have HA1 := HRA
          have HA2 := HRA
          have HB1x := HRB
          clear hkc hokc HRES HRA HRB
          go_upto_region 22 with (fail)
          go_wp2_with (first
            | (go_at_call 14; have q := HA1.out _ (Below.refl _ _); clear HA1; refine q.mono ?_; clear q; rintro e w5 ⟨A5, c5, R5, rfl, ho5, hr5, hb5⟩; have HRR := Lib.hid hr5; have HB5 := Lib.hid hb5; have HO5 := Lib.hid ho5.row'.2.1; have HLE := Lib.hid (show R5.length ≤ 9223372036854775807 by have h1 := ho5.row'.2.2.1; have h2 := ho5.row'.2.2.2; unfold maxLen at h2; omega); clear ho5 hr5 hb5)
            | (go_at_call 14; have q := HB1x.out _ HB5.out; clear HB1x; refine q.mono ?_; clear q; rintro e w6 ⟨A6, c6, R6, rfl, ho6, hr6, hb6⟩; have h6 := rowsOf_unique hr6 HRR.out; have HB6 := Lib.hid (HB5.out.trans (hb6.mono HB5.out.size)); have HB56 := Lib.hid hb6; have HO6 := Lib.hid (h6 ▸ ho6.row'.2.1); have HL6 := Lib.hid h6; rw [h6]; clear ho6 hr6 hb6 h6)
            | (go_at_call 13; have q := sameRows_val A5 A6 _ c5 c6 _ _ R5 w6 (HO5.out.below HB56.out) HO6.out rfl HLE.out; clear HO6; refine q.mono ?_; clear q; rintro e w7 ⟨rfl, hb7⟩; have HB7 := Lib.hid (HB6.out.trans (hb7.mono HB6.out.size)); clear hb7 HB56)
            | (go_at_call 14; have q := HA2.out _ HB7.out; clear HA2; refine q.mono ?_; clear q; rintro e w8 ⟨A8, c8, R8, rfl, ho8, hr8, hb8⟩; have h8 := rowsOf_unique hr8 HRR.out; have HB8 := Lib.hid (HB7.out.trans (hb8.mono HB7.out.size)); have HO8 := Lib.hid (h8 ▸ ho8.row'.2.1); rw [h8]; clear ho8 hr8 hb8 h8)
            | (go_at_call 14; have q := HRC.out _ HB8.out; clear HRC; refine q.mono ?_; clear q; rintro e w9 ⟨A9, c9, R9, rfl, ho9, hr9, hb9⟩; have h9 := rowsOf_unique hr9 HRR.out; have HB9 := Lib.hid (HB8.out.trans (hb9.mono HB8.out.size)); have HB89 := Lib.hid hb9; have HO9 := Lib.hid (h9 ▸ ho9.row'.2.1); rw [h9]; clear ho9 hr9 hb9 h9)
            | (go_at_call 13; have q := sameRows_val A8 A9 _ c8 c9 _ _ R5 w9 (HO8.out.below HB89.out) HO9.out rfl HLE.out; clear HO9; refine q.mono ?_; clear q; rintro e w10 ⟨rfl, hb10⟩; have HB10 := Lib.hid (HB9.out.trans (hb10.mono HB9.out.size)); clear hb10 HB89)
            | (go_at_call 19; have q := HCT.out _ HB10.out; clear HCT; refine q.mono ?_; clear q; rintro e w11 ⟨rfl, hb11⟩; have HB11 := Lib.hid (HB10.out.trans (hb11.mono HB10.out.size)); clear hb11))
          go_ret
          exact ⟨rfl, HBQ.out.trans ((HB4.out.trans (HB11.out.mono HB4.out.size)).mono HBQ.out.size)⟩
    · obtain ⟨n, hn⟩ : ∃ n, os.length = n := ⟨_, rfl⟩
      obtain ⟨q, hq⟩ : ∃ q, order.length = q := ⟨_, rfl⟩
      rw [hn] at h40 hne hlo ⊢
      rw [hq] at hne hlq ⊢
      have e1 : ¬ ((n : Int) > 40) := by omega
      have e2 : ((q : Int) != (n : Int)) = true := by simp; omega
      clear hn hq
      go_enter Tryz.func5, Tryz.ntmps5
      go_upto_region 2 with (go_at_call 16; refine HL0.out.mono ?_; rintro e w1 ⟨ga, a1, a2, rfl, hka, hla, hb1⟩; have HB1 := Lib.hid hb1; clear hka hla hb1)
      have HL1 := Lib.hid (HL.out w1 HB1.out)
      go_wp2_with (go_at_call 16; refine HL1.out.mono ?_; rintro e w2 ⟨gb, b1, b2, rfl, hkb, hlb, hb2⟩; have HB2 := Lib.hid hb2; clear hkb hlb hb2)
      go_ret
      exact ⟨rfl, HB1.out.trans (HB2.out.mono HB1.out.size)⟩
  · have e1 : ((os.length : Int) > 40) := by omega
    go_enter Tryz.func5, Tryz.ntmps5
    go_upto_region 2 with (go_at_call 16; refine HL0.out.mono ?_; rintro e w1 ⟨ga, a1, a2, rfl, hka, hla, hb1⟩; have HB1 := Lib.hid hb1; clear hka hla hb1)
    have HL1 := Lib.hid (HL.out w1 HB1.out)
    go_wp2_with (go_at_call 16; refine HL1.out.mono ?_; rintro e w2 ⟨gb, b1, b2, rfl, hkb, hlb, hb2⟩; have HB2 := Lib.hid hb2; clear hkb hlb hb2)
    go_ret
    exact ⟨rfl, HB1.out.trans (HB2.out.mono HB1.out.size)⟩
end Go.Proofs.YtalkdddeiebfmaaGreatDoor
