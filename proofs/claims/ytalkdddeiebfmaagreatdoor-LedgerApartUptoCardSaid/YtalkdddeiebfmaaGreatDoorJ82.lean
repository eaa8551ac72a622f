/- LedgerApart: the walk (printed by mkapart.py). -/
import Derived.Test.YtalkdddeiebfmaaGreatDoorJ81
namespace Go.Proofs.YtalkdddeiebfmaaGreatDoor
open Go.RowKit

def InP (a b k : Nat) : Prop := a ≤ k ∧ k < b
theorem own_sh_val {base g n c : Nat} {w : World} {M : List Sh} (h : Own kSh 49 base (fun _ => False) w (.slice (some ⟨g, 0, none⟩) n c) M) (i : Nat) (hi : i < M.length) (v : Int) :
    Own kSh 49 base (fun _ => False) (w.setCell ⟨g, i * 5 + 4, none⟩ (.int .i64 v)) (.slice (some ⟨g, 0, none⟩) n c) (M.set i (M[i].1, v)) :=
  Own.setEnc (f := Sh.cells) (n := 5) h i hi 4 (by omega) _ _ rfl
theorem own_sh_path {base g n c : Nat} {w : World} {M : List Sh} {u : Sh} {i : Nat} (h : Own kSh 49 base (fun _ => False) w (.slice (some ⟨g, 0, none⟩) n c) (M.set i u)) (hi : i < M.length) (p : ByteArray) :
    Own kSh 49 base (fun _ => False) (w.setCell ⟨g, i * 5, none⟩ (.string p)) (.slice (some ⟨g, 0, none⟩) n c) (M.set i ((p, u.1.2), u.2)) :=
  Own.setMore (f := Sh.cells) (n := 5) h hi 0 (by omega) _ _ rfl
theorem own_ltP {α : Type} {d : Kn α} {e base : Nat} {w : World} {A : Option Addr} {n c : Nat} {xs : List α} (h : Own d e base (fun _ => False) w (.slice A n c) xs) : Row d (fun _ => True) w A xs := (own_rows h).mono fun _ _ => trivial
/-- the rows that are written: so far -/
def Told (M : List Sh) (k : Nat) : Prop := ∀ i (h : i < M.length), i < k → M[i].2 = -1 ∧ M[i].1.1 = ⟨#[47, 122, 122]⟩
theorem told_set {M : List Sh} {k : Nat} (hk : k < M.length) (h : Told M k) : Told (M.set k ((⟨#[47, 122, 122]⟩, M[k].1.2), -1)) (k + 1) := by
  intro i hi hik
  rw [List.getElem_set]
  split
  · exact ⟨rfl, rfl⟩
  · exact h i (by simpa using hi) (by omega)
set_option maxRecDepth 100000 in
set_option maxHeartbeats 1000000 in
theorem ledgerApart_any (o : ObjM) (Lo : Option Addr) (mo : Nat) (Bo : Option Addr) (co : Nat) (w : World) (hm : Ml w) (ht : TextsAt w) (ho : ObjFit w (o.at_ Lo mo) Bo o.ls) (hfo : ObjMFit o) :
    Calls Tryz.prog 4 #[.agg #[.string o.path, .string o.name, .slice Lo o.ls.length mo, .int .i64 o.prio, .int .i64 o.dl, .slice Bo o.parts.length co, .int .i64 o.ver]] w fun e w' => e = .returned (.bool true) ∧ Below w.heap.size w w' := by
  have hb1 := (Below.refl w.heap.size w).alloc (Nat.le_refl _) (.cells #[.string o.path, .string o.name, .slice Lo o.ls.length mo, .int .i64 o.prio, .int .i64 o.dl, .slice Bo o.parts.length co, .int .i64 o.ver] 26)
  have hx1 := heap_alloc_new w (.cells #[.string o.path, .string o.name, .slice Lo o.ls.length mo, .int .i64 o.prio, .int .i64 o.dl, .slice Bo o.parts.length co, .int .i64 o.ver] 26)
  obtain ⟨t1, ht1⟩ : ∃ t, w.heap.size = t := ⟨_, rfl⟩
  obtain ⟨w0, hw0⟩ : ∃ w0, w.alloc (.cells #[.string o.path, .string o.name, .slice Lo o.ls.length mo, .int .i64 o.prio, .int .i64 o.dl, .slice Bo o.parts.length co, .int .i64 o.ver] 26) = w0 := ⟨_, rfl⟩
  have hs0 : w0.heap.size = t1 + 1 := by rw [← hw0, heap_size_alloc', ht1]
  rw [hw0] at hb1 hx1
  have HB0 := Lib.hid hb1
  have HM := Lib.hid (fun W (h : Below w0.heap.size w0 W) => hm.below (hb1.trans (h.mono hb1.size)))
  have HTX := Lib.hid (fun W (h : Below w0.heap.size w0 W) => ht.below (hb1.trans (h.mono hb1.size)))
  have HFIT := Lib.hid (fun W (h : Below w0.heap.size w0 W) => ho.below (hb1.trans (h.mono hb1.size)))
  rw [ht1] at hx1
  have HOB := Lib.hid (show ∀ W, Below w0.heap.size w0 W → (W.cell? ⟨t1, 0, none⟩ = some (.string o.path) ∧ W.cell? ⟨t1, 1, none⟩ = some (.string o.name) ∧ W.cell? ⟨t1, 2, none⟩ = some (.slice Lo o.ls.length mo) ∧ W.cell? ⟨t1, 3, none⟩ = some (.int .i64 o.prio) ∧ W.cell? ⟨t1, 4, none⟩ = some (.int .i64 o.dl) ∧ W.cell? ⟨t1, 5, none⟩ = some (.slice Bo o.parts.length co) ∧ W.cell? ⟨t1, 6, none⟩ = some (.int .i64 o.ver)) from fun W h => by
    have hx := (h.block t1 (by omega)).trans hx1
    exact ⟨(cell_of_row _ _ 0 _ _ _ hx).trans rfl, (cell_of_row _ _ 1 _ _ _ hx).trans rfl, (cell_of_row _ _ 2 _ _ _ hx).trans rfl, (cell_of_row _ _ 3 _ _ _ hx).trans rfl, (cell_of_row _ _ 4 _ _ _ hx).trans rfl, (cell_of_row _ _ 5 _ _ _ hx).trans rfl, (cell_of_row _ _ 6 _ _ _ hx).trans rfl⟩)
  have HT1 := Lib.hid (show w.heap.size = t1 from ht1)
  have HS0 := Lib.hid hs0
  have HF := Lib.hid hfo
  obtain ⟨⟨z, S1, C1⟩, hz⟩ : ∃ r, chargeV Z0 C0 o.v = r := ⟨_, rfl⟩
  have hok1 := chargeV_six (ledOk_zero : LedOk 0 Z0 C0) hfo.ok
  rw [hz] at hok1
  have HZ := Lib.hid hz
  have HOK1 := Lib.hid (show LedOk (0 + 60000000000) S1 C1 from hok1)
  have HSZ := Lib.hid (show ((0 + 60000000000) + 1) * 56 ≤ 140737488355328 from by omega)
  have HSZ0 := Lib.hid (show (0 + 1) * 56 ≤ 140737488355328 from by omega)
  clear hm ht ho hfo hz hok1 hb1 hx1 hs0
  go_enter Tryz.func4, Tryz.ntmps4
  go_upto_region 1 with fail
  try rw [ht1]
  clear hw0 ht1
  go_upto_region 2 with (go_at_call 16; refine (lives_any w0 (HM.out w0 (Below.refl _ _)) (HTX.out w0 (Below.refl _ _))).mono ?_; rintro e w1 ⟨g, b1, b2, rfl, hka, hla, hb⟩; have HB1 := Lib.hid hb; have HK1 := Lib.hid hka; have HLA := Lib.hid hla; clear hka hla hb)
  go_upto_region 4 with fail
  obtain ⟨x0, x1, x2, x3, x4, x5, x6⟩ := HOB.out w1 HB1.out
  go_upto_region 5 with (go_at_call 10; refine (own_objU o Lo mo Bo co w1 (HFIT.out w1 HB1.out)).mono ?_; rintro e w2 ⟨L2, m2, B2, c2, R2, rfl, hp2, hu2, hb2⟩; have HP2 := Lib.hid hp2; have HU2 := Lib.hid hu2; have HB2 := Lib.hid hb2; clear hp2 hu2 hb2)
  clear x0 x1 x2 x3 x4 x5 x6
  have hx3 := heap_alloc_new w2 (.cells #[.string o.path, .string o.name, .slice L2 o.ls.length m2, .int .i64 o.prio, .int .i64 o.dl, .slice B2 o.parts.length c2, .int .i64 o.ver] 26)
  have hb3 := (Below.refl w2.heap.size w2).alloc (Nat.le_refl _) (.cells #[.string o.path, .string o.name, .slice L2 o.ls.length m2, .int .i64 o.prio, .int .i64 o.dl, .slice B2 o.parts.length c2, .int .i64 o.ver] 26)
  obtain ⟨pb, hpb⟩ : ∃ pb, w2.heap.size = pb := ⟨_, rfl⟩
  rw [hpb] at hx3 ⊢
  generalize hw3 : w2.alloc (.cells #[.string o.path, .string o.name, .slice L2 o.ls.length m2, .int .i64 o.prio, .int .i64 o.dl, .slice B2 o.parts.length c2, .int .i64 o.ver] 26) = w3 at hx3 hb3 ⊢
  have HX3 := Lib.hid (OBox.of hx3)
  have HB3 := Lib.hid hb3
  have HPB := Lib.hid hpb
  have HK3 := Lib.hid ((HK1.out.below HB2.out).below hb3)
  have HB13 := Lib.hid (show Below w1.heap.size w1 w3 from HB2.out.trans (hb3.mono HB2.out.size))
  have HB03 := Lib.hid (show Below w0.heap.size w0 w3 from HB1.out.trans (HB13.out.mono HB1.out.size))
  have HL := Lib.hid (show ∀ i, ledB g b1 b2 i → w0.heap.size ≤ i ∧ i < w1.heap.size from fun i hi => ⟨HLA.out i hi, HK1.out.lt i hi⟩)
  have HRP := Lib.hid (show Row kPart (fun k => w1.heap.size ≤ k) w3 B2 o.parts from HP2.out.row.2.1.below hb3)
  have HPS := Lib.hid (show pb < w3.heap.size from (Array.getElem?_eq_some_iff.1 hx3).1)
  have HP1 := Lib.hid (show w1.heap.size ≤ pb from by rw [← hpb]; exact HB2.out.size)
  have HWP := Lib.hid (show o.parts.length = 0 ∨ ∃ gp, B2 = some ⟨gp, 0, none⟩ ∧ WParts w1.heap.size pb w3 gp o.parts.length from by
    by_cases hne : o.parts = []
    · exact .inl (by rw [hne]; rfl)
    · obtain ⟨gp, e, hw⟩ := WParts.of (top := pb) HP2.out HU2.out (by omega) (fun p hp => (HF.out.n24 p hp).1) hne
      exact .inr ⟨gp, e, hw.move fun k _ hk => hb3.block k (by omega)⟩)
  clear hw3 hx3 hb3 hpb HP2 HU2 HB2 HK1 HLA HB3
  obtain ⟨-, p0, p1, p2, p3, p4, p5, p6, -⟩ := HX3.out
  go_upto_region 6 with (go_at_call 17; refine (charge_any o.v 0 L2 o.ls.length m2 B2 c2 _ w3 (oarg_row L2 m2 HRP.out HF.out.ok (HM.out w3 HB03.out) (HTX.out w3 HB03.out)) HK3.out ledOk_zero (by omega) (0 + 60000000000) (Nat.le_refl _) (by unfold maxLen; omega)).mono ?_; rintro e w4 hp; unfold LedPost at hp; rw [HZ.out] at hp; obtain ⟨rfl, hk4, htn⟩ := hp; have HK4 := Lib.hid hk4; have HT4 := Lib.hid htn; clear hk4 htn)
  clear p0 p1 p2 p3 p4 p5 p6 HK3 HRP
  have HB04 := Lib.hid (show Below w0.heap.size w0 w4 from HB03.out.trans (HT4.out.below HB03.out.size fun k hk => (HL.out k (.inr hk)).1))
  have HX4 := Lib.hid (HX3.out.turn HT4.out fun hk => by have := (HL.out pb (.inr hk)).2; have := HP1.out; omega)
  have HWP4 := Lib.hid (show o.parts.length = 0 ∨ ∃ gp, B2 = some ⟨gp, 0, none⟩ ∧ WParts w1.heap.size pb w4 gp o.parts.length from HWP.out.imp id fun ⟨gp, e, hw⟩ => ⟨gp, e, hw.turn HT4.out (Nat.le_of_lt HPS.out) fun k h1 _ hk => by have := (HL.out k (.inr hk)).2; omega⟩)
  have HPS4 := Lib.hid (show pb < w4.heap.size from Nat.lt_of_lt_of_le HPS.out HT4.out.size)
  have HW14 := Lib.hid (show w1.heap.size ≤ w4.heap.size from Nat.le_trans HB13.out.size HT4.out.size)
  clear HX3 HWP HPS HB13 HT4
  by_cases hz0 : z = 0
  · subst hz0
    have HRLV := Lib.hid (releaseV_charged (ledOk_zero : LedOk 0 Z0 C0) HF.out.ok.use HZ.out)
    go_upto_region 9 with (go_at_call 14; refine (lrows_any w4 (HM.out w4 HB04.out) HK4.out HOK1.out HSZ.out).mono ?_; rintro e w5 ⟨A5, c5, Ra, rfl, ho, hrs, hb⟩; have HOA := Lib.hid ho; have HRS := Lib.hid hrs; have HB5 := Lib.hid hb; clear ho hrs hb)
    have HK5 := Lib.hid (HK4.out.below HB5.out)
    have HB05 := Lib.hid (HB04.out.trans (HB5.out.mono HB04.out.size))
    go_upto_region 10 with (go_at_call 14; refine (lrows_any w5 (HM.out w5 HB05.out) HK5.out HOK1.out HSZ.out).mono ?_; rintro e w6 ⟨A6, c6, Rb, rfl, ho, hrs, hb⟩; obtain rfl : Ra = Rb := rowsOf_unique HRS.out hrs; have HOB6 := Lib.hid ho; have HB6 := Lib.hid hb; clear ho hrs hb)
    have HQL := Lib.hid (rowsOf_le HOK1.out HRS.out)
    obtain ⟨q, hq⟩ : ∃ q, Ra.length = q := ⟨_, rfl⟩
    rw [hq] at HOA HOB6 HQL ⊢
    have HQ := Lib.hid hq
    have HK6 := Lib.hid (HK5.out.below HB6.out)
    have HB06 := Lib.hid (HB05.out.trans (HB6.out.mono HB05.out.size))
    have HB46 := Lib.hid (HB5.out.trans (HB6.out.mono HB5.out.size))
    have HX6 := Lib.hid (HX4.out.below HB46.out)
    have HWP6 := Lib.hid (show o.parts.length = 0 ∨ ∃ gp, B2 = some ⟨gp, 0, none⟩ ∧ WParts w1.heap.size pb w6 gp o.parts.length from HWP4.out.imp id fun ⟨gp, e, hw⟩ => ⟨gp, e, hw.move fun k _ hk => HB46.out.block k (Nat.lt_trans hk HPS4.out)⟩)
    have HOA6 := Lib.hid (HOA.out.below HB6.out)
    have hs45 := HB5.out.size
    have hs56 := HB6.out.size
    have hq9 := HQL.out
    have hn64 := HF.out.n64
    have HA5 := Lib.hid (show ∀ k, (Value.slice A5 q c5).ownBlock = some k → k < w5.heap.size from fun k hk => (HOA.out.block_lt k hk).2)
    clear hq HX4 HWP4 HK5 HOA
    go_wp2
    go_loopw [8] (fun iv wr => ∃ k : Nat, iv = .int .i64 k ∧ k ≤ o.parts.length ∧ Hid (Turn (InP w1.heap.size pb) w6 wr) ∧ Hid (o.parts.length = 0 ∨ ∃ gp, B2 = some ⟨gp, 0, none⟩ ∧ WParts w1.heap.size pb wr gp o.parts.length)) (fun iv _ => o.parts.length - (intOf iv).toNat)
    case atStart => exact ⟨0, rfl, Nat.zero_le _, Turn.refl _ _, HWP6.out⟩
    case round =>
      obtain ⟨k, rfl, hk, htn, hwp⟩ := hrel
      obtain ⟨wo, rfl⟩ : ∃ wo, wo = wr := ⟨_, rfl⟩
      have HTN := Lib.hid htn.out
      have HWPO := Lib.hid hwp.out
      have HXO := Lib.hid (HX6.out.turn HTN.out fun h => Nat.lt_irrefl _ h.2)
      clear htn hwp
      obtain ⟨-, -, -, -, -, -, p5, -, -⟩ := HXO.out
      by_cases hlt : k < o.parts.length
      · obtain ⟨gp, hB, hw⟩ := HWPO.out.resolve_left (by omega)
        subst hB
        obtain ⟨A, n, c, hreq, h24, hcan⟩ := hw.req k hlt
        have HWO := Lib.hid hw
        have HREQ := Lib.hid hreq
        have HCAN := Lib.hid hcan
        have hlt' : (k : Int) < (o.parts.length : Int) := by omega
        have hk0 : (0 : Int) ≤ (k : Int) := by omega
        clear hw hreq hcan
        go_upto_region 13 with fail
        clear p5
        go_wp2
        go_loopw [9] (fun jv wr => ∃ j : Nat, jv = .int .i64 j ∧ j ≤ n ∧ Hid (Turn (InP w1.heap.size pb) w6 wr) ∧ Hid (WParts w1.heap.size pb wr gp o.parts.length) ∧ Hid (CanW w1.heap.size pb gp wr A (n * 2)) ∧ Hid (wr.cell? ⟨gp, k * 3 + 1, none⟩ = some (.slice A n c))) (fun jv _ => n - (intOf jv).toNat)
        case atStart => exact ⟨0, rfl, Nat.zero_le _, HTN.out, HWO.out, HCAN.out, HREQ.out⟩
        case round =>
          obtain ⟨j, rfl, hj, htn, hwp, hcan, hreq⟩ := hrel
          obtain ⟨wp, rfl⟩ : ∃ wp, wp = wr := ⟨_, rfl⟩
          have HTP := Lib.hid htn.out
          have HWQ := Lib.hid hwp.out
          have HCQ := Lib.hid hcan.out
          have HRQ := Lib.hid hreq.out
          have HXP := Lib.hid (HX6.out.turn HTP.out fun h => Nat.lt_irrefl _ h.2)
          clear htn hwp hcan hreq
          obtain ⟨-, -, -, -, -, -, p5, -, -⟩ := HXP.out
          have r1 := HRQ.out
          by_cases hjn : j < n
          · obtain ⟨a, v0, v1, hA, ha1, ha2, ha3, c0, f0, c1, f1⟩ := HCQ.out.at_ hjn
            subst hA
            have hjn' : (j : Int) < (n : Int) := by omega
            have hj0 : (0 : Int) ≤ (j : Int) := by omega
            clear c0 f0
            go_upto_region 17 with fail
            clear c1 f1 p5 r1
            have hbl : (a.add (j * 2)).block = a.block := add_block _ _
            have HTS := Lib.hid (HTP.out.setCell (p := ⟨(a.add (j * 2)).block, (a.add (j * 2)).off + 1, none⟩) (.inl (show InP w1.heap.size pb (a.add (j * 2)).block from by rw [hbl]; exact ⟨ha1, ha2⟩)) (.int .i64 1))
            have HWS := Lib.hid (HWQ.out.setReq (p := ⟨(a.add (j * 2)).block, (a.add (j * 2)).off + 1, none⟩) (show (a.add (j * 2)).block ≠ gp from by rw [hbl]; exact ha3) (.int .i64 1))
            have HCS := Lib.hid (HCQ.out.setCell ⟨(a.add (j * 2)).block, (a.add (j * 2)).off + 1, none⟩ (.int .i64 1))
            have HRS' := Lib.hid ((cell_same (w := wp) (w' := wp.setCell ⟨(a.add (j * 2)).block, (a.add (j * 2)).off + 1, none⟩ (.int .i64 1)) (p := ⟨gp, k * 3 + 1, none⟩) (Below.heap_setCell _ _ _ _ (show gp ≠ (a.add (j * 2)).block from by rw [hbl]; exact Ne.symm ha3))).trans HRQ.out)
            generalize hws : wp.setCell ⟨(a.add (j * 2)).block, (a.add (j * 2)).off + 1, none⟩ (.int .i64 1) = ws at HTS HWS HCS HRS' ⊢
            clear hws HTP HWQ HCQ HRQ HXP
            have HXS := Lib.hid (HX6.out.turn HTS.out fun h => Nat.lt_irrefl _ h.2)
            obtain ⟨-, -, -, -, -, -, p5, -, -⟩ := HXS.out
            have r1 := HRS'.out
            obtain ⟨a', v0', v1', hA', -, -, -, c0, f0, -, -⟩ := HCS.out.at_ hjn
            cases hA'
            go_wp2
            go_roundw
            case rel => exact ⟨j + 1, by go_num, hjn, HTS.out.setCell (.inl (show InP w1.heap.size pb (a.add (j * 2)).block from by rw [hbl]; exact ⟨ha1, ha2⟩)) _, HWS.out.setReq (show (a.add (j * 2)).block ≠ gp from by rw [hbl]; exact ha3) _, HCS.out.setCell _ _, (cell_same (p := ⟨gp, k * 3 + 1, none⟩) (Below.heap_setCell _ _ _ _ (show gp ≠ (a.add (j * 2)).block from by rw [hbl]; exact Ne.symm ha3))).trans HRS'.out⟩
            case measure => simp [intOf]; omega
          · have hgej : ¬ ((j : Int) < (n : Int)) := by omega
            obtain ⟨vl, l0, lf⟩ := HWQ.out.lim_at hlt
            have hat := HWQ.out.at_
            go_wp2
            go_roundw
            case rel => exact ⟨k + 1, by go_num, hlt, HTP.out.setCell (.inl (show InP w1.heap.size pb gp from hat)) _, .inr ⟨gp, rfl, HWQ.out.setLim k _⟩⟩
            case measure => simp [intOf]; omega
      · have hge : ¬ ((k : Int) < (o.parts.length : Int)) := by omega
        have HB07 := Lib.hid (HB06.out.trans (HTN.out.below HB06.out.size fun k hk => by have := HB1.out.size; have := hk.1; omega))
        have HNP := Lib.hid (show ∀ k, InP w1.heap.size pb k → k < w4.heap.size from fun k hk => Nat.lt_trans hk.2 HPS4.out)
        have HK7 := Lib.hid (HK6.out.turn HTN.out fun i hi hp => by have := (HL.out i hi).2; have := hp.1; omega)
        have HOA7 := Lib.hid (show Own kSh 49 w4.heap.size (fun _ => False) wo (.slice A5 q c5) Ra from HOA6.out.move fun k hk hl => HTN.out.block k hl fun hp => by
          rcases hk with hk | hk
          · have h1 := (HOA6.out.block_lt k hk).1
            have h2 := HNP.out k hp
            omega
          · exact hk.elim)
        have HOB7 := Lib.hid (show Own kSh 49 w5.heap.size (fun _ => False) wo (.slice A6 q c6) Ra from HOB6.out.move fun k hk hl => HTN.out.block k hl fun hp => by
          rcases hk with hk | hk
          · have h1 := (HOB6.out.block_lt k hk).1
            have h2 := HNP.out k hp
            omega
          · exact hk.elim)
        go_wp2
        go_loopw [10] (fun iv wr => ∃ (i : Nat) (M : List Sh), iv = .int .i64 i ∧ i ≤ q ∧ Hid (Own kSh 49 w4.heap.size (fun _ => False) wr (.slice A5 q c5) M) ∧ Hid (Turn (InP w4.heap.size w5.heap.size) wo wr) ∧ Hid (Told M i)) (fun iv _ => q - (intOf iv).toNat)
        case atStart => exact ⟨0, Ra, rfl, Nat.zero_le _, HOA7.out, Turn.refl _ _, fun i h h2 => absurd h2 (by omega)⟩
        case round =>
          obtain ⟨i, M, rfl, hi, hown, htn, htold⟩ := hrel
          obtain ⟨wp, rfl⟩ : ∃ wp, wp = wr := ⟨_, rfl⟩
          have HOW := Lib.hid hown.out
          have HTO := Lib.hid htn.out
          have HTD := Lib.hid htold.out
          have HML := Lib.hid (show q = M.length from hown.out.row'.1)
          clear hown htn htold
          by_cases hlti : i < q
          · have hlti' : (i : Int) < (q : Int) := by omega
            have hi0 : (0 : Int) ≤ (i : Int) := by omega
            have him : i < M.length := by rw [← HML.out]; exact hlti
            obtain ⟨ga, cur, hA, -, hblk⟩ := own_blk HOW.out (fun e => by rw [e] at him; simp at him)
            subst hA
            obtain ⟨a, ha, -, l0, l1, l2, l3, l4⟩ := sh_at (own_rows HOW.out) i him
            cases ha
            rw [add_new] at l4
            have hfz := frozen_of_row wp ga (i * 5 + 4) cur 49 hblk
            have HGA := Lib.hid (show InP w4.heap.size w5.heap.size ga from ⟨(HOW.out.block_lt ga (by simp [Value.ownBlock])).1, HA5.out ga (by simp [Value.ownBlock])⟩)
            clear hblk l0 l1 l2 l3
            go_upto_region 23 with fail
            have HO2 := Lib.hid (own_sh_val HOW.out i him (-1))
            have HT2 := Lib.hid (HTO.out.setCell (p := ⟨ga, i * 5 + 4, none⟩) (.inl HGA.out) (.int .i64 (-1)))
            generalize hws : wp.setCell ⟨ga, i * 5 + 4, none⟩ (.int .i64 (-1)) = ws at HO2 HT2 ⊢
            clear hws l4 hfz HOW HTO
            obtain ⟨ga', cur', hA', -, hblk⟩ := own_blk HO2.out (fun e => by have := congrArg List.length e; rw [List.length_set, List.length_nil] at this; omega)
            cases hA'
            obtain ⟨a', ha', -, l0, l1, l2, l3, l4⟩ := sh_at (own_rows HO2.out) i (by rw [List.length_set]; exact him)
            cases ha'
            rw [add_new] at l0
            have hfz := frozen_of_row ws ga (i * 5) cur' 49 hblk
            clear hblk l1 l2 l3 l4
            go_wp2
            go_roundw
            case rel => exact ⟨i + 1, M.set i ((⟨#[47, 122, 122]⟩, M[i].1.2), -1), by go_num, hlti, own_sh_path HO2.out him ⟨#[47, 122, 122]⟩, HT2.out.setCell (.inl HGA.out) _, told_set him HTD.out⟩
            case measure => simp [intOf]; omega
          · have hgei : ¬ ((i : Int) < (q : Int)) := by omega
            have HALL := Lib.hid (show ∀ k (h : k < M.length), M[k].2 = -1 ∧ M[k].1.1 = ⟨#[47, 122, 122]⟩ from fun k h => HTD.out k h (by have := HML.out; omega))
            have h56 : (M.length + 1) * 56 ≤ 140737488355328 := by have := HML.out; omega
            have hwp4 : w4.heap.size ≤ wp.heap.size := Nat.le_trans (Nat.le_trans (Nat.le_trans hs45 hs56) HTN.out.size) HTO.out.size
            clear HTD
            go_upto_region 25 with (at_builtin; refine wpList_app_keep useElem kSh_plain w4.heap.size rfl (.tmp 87) (.tmp 89) rfl (v := .slice A5 q c5) (xs := M) (ys := [((⟨#[120]⟩, (0, 0), ⟨#[]⟩), 0)]) rfl (HOW.out.alloc _) rfl rfl (Row.newOnePlain (cs := Sh.cells ((⟨#[120]⟩, (0, 0), ⟨#[]⟩), 0)) kSh_plain rfl) (by simp) (by exact h56) (by simp; omega) ?_; intro Ag cg wG happ hkeep; rw [← HML.out] at happ ⊢; have HAG := Lib.hid happ; have HKG := Lib.hid hkeep; clear happ hkeep)
            have HTG := Lib.hid (show Turn (InP w4.heap.size w5.heap.size) wo wG from (HTO.out.alloc _).grown HAG.out.grown fun k hk => .inl ⟨(HOW.out.block_lt k hk).1, HA5.out k hk⟩)
            have HB0G := Lib.hid (HB07.out.trans (HTG.out.below HB07.out.size fun k hk => Nat.le_trans HB04.out.size hk.1))
            have HKG7 := Lib.hid (HK7.out.turn HTG.out fun j hj hp => by have := (HL.out j hj).2; have := hp.1; have := HW14.out; omega)
            have HRB := Lib.hid (show Row kSh (fun _ => True) wG A6 Ra from own_ltP (HOB7.out.move (w' := wG) fun k hk hl => HTG.out.block k hl fun hp => by
              rcases hk with hk | hk
              · have h1 := (HOB7.out.block_lt k hk).1
                have := hp.2
                omega
              · exact hk.elim))
            have HRA := Lib.hid (own_ltP HKG.out)
            have HRG := Lib.hid (own_ltP HAG.out.own)
            clear HAG HKG HTG HOW HTO HOB7 HOA7 HK7 h56 hwp4
            go_upto_region 26 with (go_at_call 14; refine (lrows_any wG (HM.out wG HB0G.out) HKG7.out HOK1.out HSZ.out).mono ?_; rintro e wH ⟨Ac, cc, Rc, rfl, ho, hrs, hb⟩; obtain rfl : Ra = Rc := rowsOf_unique HRS.out hrs; have HRC := Lib.hid (own_ltP ho); have HBH := Lib.hid hb; clear ho hrs hb)
            have HQ' := HQ.out
            try rw [HQ']
            clear HQ'
            have HKH := Lib.hid (HKG7.out.below HBH.out)
            have HB0H := Lib.hid (HB0G.out.trans (HBH.out.mono HB0G.out.size))
            have HRBH := Lib.hid (HRB.out.below HBH.out)
            have HRAH := Lib.hid (HRA.out.below HBH.out)
            have HRGH := Lib.hid (HRG.out.below HBH.out)
            clear HRB HRA HRG HKG7
            go_wp2
            go_loopw [13] (fun iv wr => ∃ i : Nat, iv = .int .i64 i ∧ i ≤ q ∧ Hid (Below wH.heap.size wH wr)) (fun iv _ => q - (intOf iv).toNat)
            case atStart => exact ⟨0, rfl, Nat.zero_le _, Below.refl _ _⟩
            case round =>
              obtain ⟨k, rfl, hk, hbk⟩ := hrel
              obtain ⟨wK, rfl⟩ : ∃ wK, wK = wr := ⟨_, rfl⟩
              have HBK := Lib.hid hbk.out
              clear hbk
              by_cases hltk : k < q
              · have hltk' : (k : Int) < (q : Int) := by omega
                have hk0 : (0 : Int) ≤ (k : Int) := by omega
                have hkm : k < M.length := by rw [← HML.out]; exact hltk
                obtain ⟨a, ha, -, l0, l1, l2, l3, l4⟩ := sh_at (HRAH.out.below HBK.out) k hkm
                obtain ⟨m1, m2⟩ := HALL.out k hkm
                rw [m2] at l0
                rw [m1] at l4
                subst ha
                clear l1 l2 l3 m1 m2
                go_wp2
                go_roundw
                case rel => exact ⟨k + 1, by go_num, hltk, HBK.out⟩
                case measure => simp [intOf]; omega
              · have hgek : ¬ ((k : Int) < (q : Int)) := by omega
                obtain ⟨aG, hAG, -, g0, -, -, -, -⟩ := sh_at (HRGH.out.below HBK.out) q (by rw [List.length_append, ← HML.out]; simp)
                have eG : (M ++ [(((⟨#[120]⟩ : ByteArray), ((0 : Int), (0 : Int)), (⟨#[]⟩ : ByteArray)), (0 : Int))])[q]'(by rw [List.length_append, ← HML.out]; simp) = ((⟨#[120]⟩, (0, 0), ⟨#[]⟩), 0) := by
                  rw [List.getElem_append_right (by rw [← HML.out]; exact Nat.le_refl _)]; simp
                rw [eG] at g0
                subst hAG
                have G0 := Lib.hid g0
                have HB0K := Lib.hid (HB0H.out.trans (HBK.out.mono HB0H.out.size))
                have HKK := Lib.hid (HKH.out.below HBK.out)
                have hq0 : (0 : Int) ≤ (q : Int) := by omega
                have hq1 : (q : Int) < ((q + 1 : Nat) : Int) := by omega
                have hq2 : ((q + 1 : Nat) : Int) - 1 = (q : Int) := by omega
                clear eG g0
                go_wp2_with (first
                  | (go_at_call 13; refine (sameRows_val _ _ q _ _ _ _ Ra wK (HRBH.out.below HBK.out) (HRC.out.below HBK.out) HQ.out (by omega)).mono ?_; rintro e wP ⟨rfl, hb⟩; have HBP := Lib.hid hb; have HB0P := Lib.hid (HB0K.out.trans (hb.mono HB0K.out.size)); have g0 := (hb.cell (World.block_lt_of_cell? _ _ G0.out)).trans G0.out; obtain ⟨x0, x1, x2, x3, x4, x5, x6⟩ := HOB.out wP HB0P.out; clear hb)
                  | (go_at_call 10; refine (own_objM o Lo mo Bo co wP (HFIT.out wP HB0P.out)).mono ?_; rintro e wQ ⟨L4, m4, B4, c4, rfl, hr4, hb4⟩; have HR4 := Lib.hid (kObj_parts hr4).1; have HB0Q := Lib.hid (HB0P.out.trans (hb4.mono HB0P.out.size)); have HKQ := Lib.hid ((HKK.out.below HBP.out).below hb4); clear hr4 hb4)
                  | (go_at_call 18; refine (release_any o.v (0 + 60000000000) L4 o.ls.length m4 B4 c4 _ wQ (oarg_row L4 m4 HR4.out HF.out.ok (HM.out wQ HB0Q.out) (HTX.out wQ HB0Q.out)) HKQ.out HOK1.out (by omega) ((0 + 60000000000) + 60000000000) (Nat.le_refl _) (by unfold maxLen; omega)).mono ?_; rintro e wR hp; unfold LedPost at hp; rw [HRLV.out] at hp; obtain ⟨rfl, hkr, htr⟩ := hp; have HKR := Lib.hid hkr; have HB0R := Lib.hid (HB0Q.out.trans (htr.below HB0Q.out.size fun k hk => (HL.out k (.inr hk)).1)); clear hkr htr)
                  | (go_at_call 14; refine (lrows_any wR (HM.out wR HB0R.out) HKR.out (ledOk_zero : LedOk 0 Z0 C0) HSZ0.out).mono ?_; rintro e wS ⟨As, cs, Rs, rfl, ho, hrs, hb⟩
                     have e9 : Rs.length = 0 := by rw [rowsOf_unique hrs (rowsOf_zero : RowsOf Z0 [])]; rfl
                     rw [e9]; have HB0S := Lib.hid (HB0R.out.trans (hb.mono HB0R.out.size)); clear ho hrs hb e9))
                go_ret
                exact ⟨rfl, HB0.out.trans (HB0S.out.mono HB0.out.size)⟩
  · have e1 : (z != 0) = true := by simpa using hz0
    have hss := chargeV_same (show (chargeV Z0 C0 o.v).1 ≠ 0 from by rw [HZ.out]; exact hz0)
    rw [HZ.out] at hss
    obtain ⟨rfl, rfl⟩ : Z0 = S1 ∧ C0 = C1 := ⟨(congrArg Prod.fst hss).symm, (congrArg Prod.snd hss).symm⟩
    clear hss
    go_wp2_with (go_at_call 14; refine (lrows_any w4 (HM.out w4 HB04.out) HK4.out HOK1.out HSZ.out).mono ?_; rintro e w5 ⟨A5, c5, Ra, rfl, ho, hrs, hb⟩; have e9 : Ra.length = 0 := by rw [rowsOf_unique hrs (rowsOf_zero : RowsOf Z0 [])]; rfl
                 rw [e9]; have HB5 := Lib.hid hb; clear ho hrs hb e9)
    go_ret
    exact ⟨rfl, HB0.out.trans ((HB04.out.trans (HB5.out.mono HB04.out.size)).mono HB0.out.size)⟩
end Go.Proofs.YtalkdddeiebfmaaGreatDoor
