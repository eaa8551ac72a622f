/- The document's Uses: the walk. -/
import Derived.Test.YtdchffghgajbfaaDoorY6
import Derived.Deep.RegionHeld3
namespace Go.Proofs.YtdchffghgajbfaaDoor
open Go.RowKit

def RUsesPost (U : List Amt) (q : Nat) (eu : Int) (w : World) (e : Ending) (w' : World) : Prop :=
  ∃ A c, e = .returned (.tuple #[.slice A q c, .int .i64 eu]) ∧ Row kAmt (fun _ => True) w' A U ∧ Below w.heap.size w w'
theorem RUsesPost.none {U : List Amt} {q : Nat} {eu x : Int} {ps : List PartV} {w w' : World} (h : usesV ps = ([], x)) (hU : (usesV ps).1.map amtOf = U) (hq : U.length = q) (he : (usesV ps).2 = eu) (hb : Below w.heap.size w w') : RUsesPost U q eu w (.returned (.tuple #[.slice none 0 0, .int .i64 x])) w' := by
  rw [h] at hU he
  subst hU
  subst he
  simp only [List.map_nil, List.length_nil] at hq
  subst hq
  exact ⟨Option.none, 0, rfl, Row.nil _ _ _ _, hb⟩
set_option maxRecDepth 100000 in
set_option maxHeartbeats 4000000 in
theorem ruses_any (o : ObjV) (U : List Amt) (q : Nat) (eu : Int) (hU : Hid ((usesV o.parts).1.map amtOf = U)) (hq : Hid (U.length = q)) (he : Hid ((usesV o.parts).2 = eu)) (hN : NamesOk o.parts) (hT : (allB o.parts).length ≤ 1073741824)
    (L : Option Addr) (n m : Nat) (A : Option Addr) (c : Nat) (P : Nat → Prop) (w : World) (hr : Row kPart P w A o.parts) (hlen : o.parts.length ≤ 1152921504606846976) (hps : PartsOk o.parts) :
    Calls Tryd.prog 40 #[.agg #[.string o.path, .string o.name, .slice L n m, .int .i64 o.prio, .int .i64 o.dl, .slice A o.parts.length c, .int .i64 o.ver]] w (RUsesPost U q eu w) := by
  have hb0 : Below w.heap.size w (w.alloc (.cells #[.string o.path, .string o.name, .slice L n m, .int .i64 o.prio, .int .i64 o.dl, .slice A o.parts.length c, .int .i64 o.ver] 58)) := (Below.refl _ _).alloc (Nat.le_refl _) _
  have hx1 := OBox.of (heap_alloc_new w (.cells #[.string o.path, .string o.name, .slice L n m, .int .i64 o.prio, .int .i64 o.dl, .slice A o.parts.length c, .int .i64 o.ver] 58))
  have hs0 : (w.alloc (.cells #[.string o.path, .string o.name, .slice L n m, .int .i64 o.prio, .int .i64 o.dl, .slice A o.parts.length c, .int .i64 o.ver] 58)).heap.size = w.heap.size + 1 := by simp
  have hrx : Row kPart (fun k => k < (w.alloc (.cells #[.string o.path, .string o.name, .slice L n m, .int .i64 o.prio, .int .i64 o.dl, .slice A o.parts.length c, .int .i64 o.ver] 58)).heap.size) (w.alloc (.cells #[.string o.path, .string o.name, .slice L n m, .int .i64 o.prio, .int .i64 o.dl, .slice A o.parts.length c, .int .i64 o.ver] 58)) A o.parts := (hr.lt.below hb0).mono fun k hk => by rw [hs0]; omega
  obtain ⟨w0, hw0⟩ : ∃ w0, w.alloc (.cells #[.string o.path, .string o.name, .slice L n m, .int .i64 o.prio, .int .i64 o.dl, .slice A o.parts.length c, .int .i64 o.ver] 58) = w0 := ⟨_, rfl⟩
  rw [hw0] at hb0 hx1 hs0 hrx
  have HB0 := Lib.hid hb0
  have X1 := Lib.hid hx1
  have RX := Lib.hid hrx
  have PS := Lib.hid hps
  have HN := Lib.hid hN
  have HT := Lib.hid hT
  have hxl : w.heap.size < w0.heap.size := by omega
  clear hb0 hx1 hs0 hrx hr hps hN hT
  go_enter Tryd.func40, Tryd.ntmps40
  go_upto_region 2 with fail
  clear hw0
  have HR0 := Lib.hid (rows_start w0)
  have HBW0 := Lib.hid (show Below w0.heap.size w0 (w0.alloc (.cells #[.string ⟨#[99, 111, 117, 110, 116]⟩, .int .i64 0, .int .i64 1000] 117)) from (Below.refl _ _).alloc (Nat.le_refl _) _)
  go_wp2
  go_loopw [4, 5] (fun lv iv wr => ∃ (k n4 : Nat) (A4 : Option Addr) (Rk : List RawV), iv = .int .i64 k ∧ lv = .slice A4 Rk.length n4 ∧ k ≤ o.parts.length ∧ Hid (RowsAt w0.heap.size w0 wr lv (allB (o.parts.take k)).length Rk (rowsR [(countK, 1000)] (allA (o.parts.take k)))) ∧ Hid ((allB (o.parts.take k)).any negA = false)) (fun _ iv _ => o.parts.length - (intOf iv).toNat)
  case atStart => exact ⟨0, 1, some ⟨w0.heap.size, 0, none⟩, [⟨⟨#[99, 111, 117, 110, 116]⟩, 0, 1000⟩], rfl, rfl, Nat.zero_le _, HR0.out, rfl⟩
  case round =>
    obtain ⟨k, n4, A4, Rk, rfl, rfl, hk, hrk, hneg⟩ := hrel
    obtain ⟨wo, rfl⟩ : ∃ wo, wo = wr := ⟨_, rfl⟩
    have HXO := Lib.hid (X1.out.below hrk.out.below)
    have HBE := Lib.hid (HB0.out.trans (hrk.out.below.mono HB0.out.size))
    have hsz := hrk.out.below.size
    by_cases hlt : k < o.parts.length
    · obtain ⟨a, R1, M1, cr1, cm1, rfl, ha⟩ := part_at RX.out k hlt
      have hpx := PS.out _ (List.getElem_mem hlt)
      have hnx := HN.out _ (List.getElem_mem hlt)
      have HSTA := Lib.hid (allA_take hlt)
      have HSTB := Lib.hid (show (allB (o.parts.take (k + 1))).length = (allB (o.parts.take k)).length + (o.parts[k].req.length + o.parts[k].lim.length) by rw [allB_take hlt]; simp)
      have HNEG1 := Lib.hid (fun h => allB_neg_of (ps := o.parts) hlt h)
      have HNEG2 := Lib.hid (fun h1 h2 => allB_neg_step (ps := o.parts) hlt hneg.out h1 h2)
      have HTK := Lib.hid (allB_len_take (ps := o.parts) (k + 1))
      obtain ⟨x, hx⟩ : ∃ x, o.parts[k] = x := ⟨_, rfl⟩
      rw [hx] at ha hpx hnx HSTA HSTB HNEG1 HNEG2
      clear hx
      have hx1 : (k : Int) < (o.parts.length : Int) := by omega
      have hk0 : (0 : Int) ≤ (k : Int) := by omega
      obtain ⟨nr, hnr⟩ : ∃ nr, x.req.length = nr := ⟨_, rfl⟩
      obtain ⟨nm, hnm⟩ : ∃ nm, x.lim.length = nm := ⟨_, rfl⟩
      have HNR := Lib.hid hnr
      have HNM := Lib.hid hnm
      have HNX := Lib.hid hnx
      have AR := Lib.hid ha.r1
      have AM := Lib.hid ha.r2
      obtain ⟨-, e1, e2, -, -, -, -⟩ := ha
      rw [hnr] at e1 hpx HSTB
      rw [hnm] at e2 hpx HSTB
      have E1 := Lib.hid e1
      have E2 := Lib.hid e2
      have e1 := (hrk.out.below.cell (World.block_lt_of_cell? _ _ E1.out)).trans E1.out
      have e2 := (hrk.out.below.cell (World.block_lt_of_cell? _ _ E2.out)).trans E2.out
      obtain ⟨hp1, hp2⟩ := hpx
      have hcnt : (allB (o.parts.take k)).length + (nr + nm) ≤ 1073741824 := by have := HTK.out; have := HT.out; have := HSTB.out; omega
      clear hnr hnm hnx
      obtain ⟨-, -, -, -, -, -, p5, -, -⟩ := HXO.out
      obtain ⟨b1, hb1⟩ : ∃ b1, x.req.any negA = b1 := ⟨_, rfl⟩
      obtain ⟨b2, hb2⟩ : ∃ b2, x.lim.any negA = b2 := ⟨_, rfl⟩
      have HB1 := Lib.hid hb1
      have HB2 := Lib.hid hb2
      clear hb1 hb2
      have T1 := True.intro
      cases b1
      · cases b2
        · go_upto_region 7 with (first
            | (go_at_call 73; have T2 := T1; clear T1; refine (rbelow_any R1 cr1 _ x.req nr HNR.out _ (AR.out.below hrk.out.below) (by omega)).mono ?_; rintro e w1 ⟨rfl, hb⟩; rw [HB1.out]; have HBA := Lib.hid hb; have p5 := (HXO.out.below hb).c5; have HZ := hrk.out.below.trans (hb.mono hsz); have e1 := (HZ.cell (World.block_lt_of_cell? _ _ E1.out)).trans E1.out; have e2 := (HZ.cell (World.block_lt_of_cell? _ _ E2.out)).trans E2.out; clear hb HZ)
            | (go_at_call 73; have T3 := T2; clear T2; refine (rbelow_any M1 cm1 _ x.lim nm HNM.out _ ((AM.out.below hrk.out.below).below HBA.out) (by omega)).mono ?_; rintro e w2 ⟨rfl, hb⟩; rw [HB2.out]; have HBB := Lib.hid (HBA.out.trans (hb.mono HBA.out.size)); have p5 := (HXO.out.below HBB.out).c5; have HZ := hrk.out.below.trans (HBB.out.mono hsz); have e1 := (HZ.cell (World.block_lt_of_cell? _ _ E1.out)).trans E1.out; have e2 := (HZ.cell (World.block_lt_of_cell? _ _ E2.out)).trans E2.out; clear hb HZ))
          have HRA := Lib.hid (hrk.out.move_below (Nat.le_refl _) HBB.out)
          have HRQ := Lib.hid (AR.out.below HRA.out.below)
          have HC1 := Lib.hid (radd_any ⟨#[114, 101, 113, 117, 101, 115, 116, 115, 46]⟩ (by decide) x.req nr HNR.out R1 cr1 w0.heap.size w0 w2 (Nat.le_refl _) _ Rk A4 n4 _ HRA.out HRQ.out HNX.out.1 (pos_of_neg HB1.out) (by omega))
          have J1 := True.intro
          go_wp2_with (first
            | (go_at_call 74; have J2 := J1; clear J1; refine HC1.out.mono ?_; rintro e w3 ⟨A5, c5, R5, rfl, hr5⟩; have HR5 := Lib.hid hr5; have p5 := (X1.out.below hr5.below).c5; have e2 := (hr5.below.cell (World.block_lt_of_cell? _ _ E2.out)).trans E2.out; have HC2 := Lib.hid (radd_any ⟨#[108, 105, 109, 105, 116, 115, 46]⟩ (by decide) x.lim nm HNM.out M1 cm1 w0.heap.size w0 w3 (Nat.le_refl _) _ R5 A5 c5 _ hr5 (AM.out.below hr5.below) HNX.out.2 (pos_of_neg HB2.out) (by omega)); clear hr5)
            | (go_at_call 74; have J3 := J2; clear J2; refine HC2.out.mono ?_; rintro e w4 ⟨A6, c6, R6, rfl, hr6⟩; have HR6 := Lib.hid hr6; clear hr6))
          go_roundw
          case rel =>
            refine ⟨k + 1, c6, A6, R6, by go_num, rfl, hlt, ?_, HNEG2.out HB1.out HB2.out⟩
            have h6 := HR6.out
            unfold Hid
            rw [HSTA.out, rowsR_append, rowsR_append, HSTB.out, ← Nat.add_assoc]
            exact h6
          case measure => simp [intOf]; omega
        · have HF := Lib.hid (usesV_neg (HNEG1.out (.inr HB2.out)))
          go_wp2_with (first
            | (go_at_call 73; have T2 := T1; clear T1; refine (rbelow_any R1 cr1 _ x.req nr HNR.out _ (AR.out.below hrk.out.below) (by omega)).mono ?_; rintro e w1 ⟨rfl, hb⟩; rw [HB1.out]; have HBA := Lib.hid hb; have p5 := (HXO.out.below hb).c5; have HZ := hrk.out.below.trans (hb.mono hsz); have e2 := (HZ.cell (World.block_lt_of_cell? _ _ E2.out)).trans E2.out; clear hb HZ)
            | (go_at_call 73; have T3 := T2; clear T2; refine (rbelow_any M1 cm1 _ x.lim nm HNM.out _ ((AM.out.below hrk.out.below).below HBA.out) (by omega)).mono ?_; rintro e w2 ⟨rfl, hb⟩; rw [HB2.out]; have HBB := Lib.hid (HBA.out.trans (hb.mono HBA.out.size)); clear hb))
          go_ret2
          exact .none HF.out hU.out hq.out he.out (HBE.out.trans (HBB.out.mono HBE.out.size))
      · have HF := Lib.hid (usesV_neg (HNEG1.out (.inl HB1.out)))
        go_wp2_with (go_at_call 73; refine (rbelow_any R1 cr1 _ x.req nr HNR.out _ (AR.out.below hrk.out.below) (by omega)).mono ?_; rintro e w1 ⟨rfl, hb⟩; rw [HB1.out]; have HBA := Lib.hid hb; clear hb)
        go_ret2
        exact .none HF.out hU.out hq.out he.out (HBE.out.trans (HBA.out.mono HBE.out.size))
    · have hge : ¬ ((k : Int) < (o.parts.length : Int)) := by omega
      have hr9 := hrk.out
      have hn9 := hneg.out
      rw [List.take_of_length_le (by omega)] at hr9 hn9
      have HR9 := Lib.hid hr9
      have HN9 := Lib.hid hn9
      obtain ⟨T, hTT⟩ : ∃ T, rowsR [(countK, 1000)] (allA o.parts) = T := ⟨_, rfl⟩
      rw [hTT] at HR9
      have HTT := Lib.hid hTT.symm
      have hRl : Rk.length ≤ 1073741825 := by have := HR9.out.len; have := HT.out; omega
      have HTL := Lib.hid (show T.length = Rk.length by rw [← HR9.out.eq, List.length_map])
      obtain ⟨-, -, -, -, -, -, p5, -, -⟩ := HXO.out
      clear hr9 hn9 hTT hrk hneg
      go_wp2
      clear p5
      go_loopw [6, 7] (fun lv iv wr => ∃ (i n6 : Nat) (A6 : Option Addr) (S : List Amt), iv = .int .i64 i ∧ lv = .slice A6 S.length n6 ∧ i ≤ Rk.length ∧ Hid (S.length ≤ i) ∧ Hid (Own kAmt 64 wo.heap.size (fun _ => False) wr lv S) ∧ Hid (Below wo.heap.size wo wr) ∧ Hid (S.map kvOf = insR [] (T.take i)) ∧ Hid (∀ j (h : j < T.length), j < i → T[j].2 ≤ 9223372036854775807)) (fun _ iv _ => Rk.length - (intOf iv).toNat)
      case atStart => exact ⟨0, 0, none, [], rfl, rfl, Nat.zero_le _, Nat.le_refl _, Own.nil _ _ _ _ _, Below.refl _ _, rfl, fun j h h2 => absurd h2 (by omega)⟩
      case round =>
        obtain ⟨i, n6, A6, S, rfl, rfl, hi, hSl, hown, hbr, hS, hle⟩ := hrel
        obtain ⟨wq, rfl⟩ : ∃ wq, wq = wr := ⟨_, rfl⟩
        by_cases hlti : i < Rk.length
        · have hlt1 : (i : Int) < (Rk.length : Int) := by omega
          have hi0 : (0 : Int) ≤ (i : Int) := by omega
          have hiT : i < T.length := by rw [HTL.out]; exact hlti
          obtain ⟨aR, rfl, hat⟩ := raw_at ((own_rows HR9.out.own).below hbr.out) i hlti
          have hok := HR9.out.ok _ (List.getElem_mem hlti)
          have HTI := Lib.hid (show T[i] = kvR Rk[i] by simp only [← HR9.out.eq, List.getElem_map])
          have HND := Lib.hid HR9.out.nodup
          have HIT := Lib.hid (insR_take hiT)
          obtain ⟨r, hr⟩ : ∃ r, Rk[i] = r := ⟨_, rfl⟩
          rw [hr] at hat hok HTI
          clear hr
          obtain ⟨q0, q1, q2⟩ := hat
          obtain ⟨rh0, -, rl0, rl1⟩ := hok
          by_cases hov : r.hi ≥ 2147483648
          · have e1 : decide (r.hi ≥ 2147483648) = true := by simpa using hov
            have HF := Lib.hid (show usesV o.parts = ([], 7) from uses_over_rows HN9.out HTT.out (List.any_eq_true.2 ⟨T[i], List.getElem_mem _, by
              rw [HTI.out]
              show decide (r.hi * 4294967296 + r.lo > 9223372036854775807) = true
              simp; omega⟩))
            clear hov
            go_wp2
            go_ret2
            exact .none HF.out hU.out hq.out he.out (HBE.out.trans (hbr.out.mono HBE.out.size))
          · have e1 : decide (r.hi ≥ 2147483648) = false := by simp; omega
            have hle2 : r.hi * 4294967296 + r.lo ≤ 9223372036854775807 := by omega
            have HLE2 := Lib.hid (show ∀ j (h : j < T.length), j < i + 1 → T[j].2 ≤ 9223372036854775807 from fun j h h2 => by
              by_cases e : j = i
              · subst e; rw [HTI.out]; exact hle2
              · exact hle.out j h (by omega))
            have wm : wrap64 (r.hi * 4294967296) = r.hi * 4294967296 := wrap_id (by omega) (by omega)
            have wn : wrap64 (r.hi * 4294967296 + r.lo) = r.hi * 4294967296 + r.lo := wrap_id (by omega) hle2
            go_upto_region 15 with fail
            have HWV := Lib.hid (show IntKind.i64.wrap (IntKind.i64.wrap (r.hi * 4294967296) + r.lo) = r.hi * 4294967296 + r.lo by rw [IntWalk.i64_left, IntWalk.i64_left, wm, wn])
            have HZ := Lib.hid (show ∀ W, Below wq.heap.size wq W → W.cell? (aR.add (i * 3)) = some (.string r.name) ∧ W.cell? ⟨(aR.add (i * 3)).block, (aR.add (i * 3)).off + 1, none⟩ = some (.int .i64 r.hi) ∧ W.cell? ⟨(aR.add (i * 3)).block, (aR.add (i * 3)).off + 2, none⟩ = some (.int .i64 r.lo) from fun W hb =>
              ⟨(hb.cell (World.block_lt_of_cell? _ _ q0)).trans q0, (hb.cell (World.block_lt_of_cell? _ _ q1)).trans q1, (hb.cell (World.block_lt_of_cell? _ _ q2)).trans q2⟩)
            go_cut [8] (fun v wx => v = .pointer (some ⟨wq.heap.size, 0, none⟩) ∧ Below wq.heap.size wq wx ∧ wx.heap[wq.heap.size]? = some (.cells #[.string r.name, .int .i64 (r.hi * 4294967296 + r.lo)] 64 (0, 0)))
            case first =>
              go_region_held3 (fun w' => w'.cell? (aR.add (i * 3)) = some (.string r.name) ∧ w'.cell? ⟨(aR.add (i * 3)).block, (aR.add (i * 3)).off + 1, none⟩ = some (.int .i64 r.hi) ∧ w'.cell? ⟨(aR.add (i * 3)).block, (aR.add (i * 3)).off + 2, none⟩ = some (.int .i64 r.lo)) (exact HZ.out _ (by repeat (first | exact Below.refl _ _ | refine Below.drew ?_ | refine Below.alloc ?_ (by simp) _))) (first | fail)
              all_goals (go_wp2_with fail; go_meet; exact ⟨rfl, by repeat (first | exact Below.refl _ _ | refine Below.drew ?_ | refine Below.alloc ?_ (by simp) _), (heap_alloc_new _ _).trans (by rw [HWV.out])⟩)
            case rest =>
              obtain ⟨rfl, hb8, hblk8⟩ := hcut
              rename World => wx
              clear wm wn HZ
              obtain ⟨v, hv⟩ : ∃ v, r.hi * 4294967296 + r.lo = v := ⟨_, rfl⟩
              have HTV := Lib.hid (show T[i] = (r.name.data.toList, v) by rw [HTI.out, ← hv]; rfl)
              rw [hv] at hblk8
              clear hv HWV HTI
              have hbq := hb8.size
              have hbq1 : wq.heap.size < wx.heap.size := (Array.getElem?_eq_some_iff.1 hblk8).1
              have HB8 := Lib.hid hb8
              have HBLK := Lib.hid hblk8
              have hsq := hbr.out.size
              have b0 : wx.cell? ⟨wq.heap.size, 0, none⟩ = some (.string r.name) := (cell_of_row _ _ _ _ _ _ hblk8).trans rfl
              have b1 : wx.cell? ⟨wq.heap.size, 1, none⟩ = some (.int .i64 v) := (cell_of_row _ _ _ _ _ _ hblk8).trans rfl
              have hSl2 : S.length ≤ 1073741825 := by have := hSl.out; omega
              have h24 : (S.length + 1) * 24 ≤ 140737488355328 := by omega
              have HOX := Lib.hid (hown.out.below hb8)
              have HLT := Lib.hid (hown.out.block_lt)
              clear hb8 hblk8
              go_upto_region 17 with (at_builtin; refine wpList_app_plain amtElem kAmt_plain wo.heap.size rfl (.tmp 81) (.tmp 83) rfl (v := .slice A6 S.length n6) (xs := S) (ys := [⟨r.name, v⟩]) rfl (HOX.out.alloc _) rfl rfl (Row.newOnePlain (cs := Amt.cells ⟨r.name, v⟩) kAmt_plain rfl) (by exact h24) (by simp; omega) ?_; intro A7 c7 w7 happ; have HA7 := Lib.hid happ; clear happ)
              obtain ⟨g7, cur7, rfl, -, -⟩ := own_blk HA7.out.own (by simp)
              have hne7 : g7 ≠ wq.heap.size := by
                rcases HA7.out.at_ with e | e
                · have h1 : (Value.slice A6 S.length n6).ownBlock = some g7 := by rw [← e]; simp [Value.ownBlock]
                  have := (HLT.out g7 h1).2
                  omega
                · have h1 : (some g7 : Option Nat) = some ((wx.alloc (.cells #[.string r.name, .int .i64 v] 64)).heap.size) := by rw [← show (Value.slice (some ⟨g7, 0, none⟩) (S.length + [(⟨r.name, v⟩ : Amt)].length) c7).ownBlock = some g7 by simp [Value.ownBlock]]; exact e
                  have := Option.some.inj h1
                  simp at this
                  omega
              have HBX7 := Lib.hid (show w7.heap[wq.heap.size]? = some (.cells #[.string r.name, .int .i64 v] 64 (0, 0)) from
                (HA7.out.grown.block wq.heap.size (by simp; omega) (fun e => by have := (HLT.out _ e.symm).2; omega)).trans ((heap_alloc_old wx _ hbq1).trans HBLK.out))
              have HB7 := Lib.hid (show Below wo.heap.size wo w7 from HA7.out.below ((hbr.out.trans (HB8.out.mono hsq)).alloc (by omega) _) (by simp; omega) (fun q hq => (HOX.out.block_lt q hq).1))
              have HO7 := Lib.hid (show Own kAmt 64 wo.heap.size (fun _ => False) w7 (.slice (some ⟨g7, 0, none⟩) (S.length + 1) c7) (S.take S.length ++ ⟨r.name, v⟩ :: S.drop S.length) from by rw [List.take_length, List.drop_length]; exact HA7.out.own)
              clear b0 b1 HBLK HB8 HOX HLT HA7 q0 q1 q2
              go_wp2
              go_loopw [9] (fun jv wr => ∃ j : Nat, jv = .int .i64 j ∧ j ≤ S.length ∧ Hid (Own kAmt 64 wo.heap.size (fun _ => False) wr (.slice (some ⟨g7, 0, none⟩) (S.length + 1) c7) (S.take j ++ ⟨r.name, v⟩ :: S.drop j)) ∧ Hid (∀ p ∈ S.drop j, r.name.data.toList < p.name.data.toList) ∧ Hid (Below wo.heap.size wo wr) ∧ Hid (wr.heap[wq.heap.size]? = some (.cells #[.string r.name, .int .i64 v] 64 (0, 0)))) (fun jv _ => (intOf jv).toNat)
              case atStart => exact ⟨S.length, by go_num, Nat.le_refl _, HO7.out, by simp [Hid], HB7.out, HBX7.out⟩
              case round =>
                obtain ⟨j, rfl, hj, hom, hgr, hbp, hbx⟩ := hrel
                obtain ⟨wp, rfl⟩ : ∃ wp, wp = wr := ⟨_, rfl⟩
                have b0 : wp.cell? ⟨wq.heap.size, 0, none⟩ = some (.string r.name) := (cell_of_row _ _ _ _ _ _ hbx.out).trans rfl
                have b1 : wp.cell? ⟨wq.heap.size, 1, none⟩ = some (.int .i64 v) := (cell_of_row _ _ _ _ _ _ hbx.out).trans rfl
                have HASC := Lib.hid (show AscK (S.map kvOf) by rw [hS.out]; exact ins_asc _)
                have hml := take_drop_len (S := S) (a := ⟨r.name, v⟩) hj
                have HEXIT := Lib.hid (show (∀ (h : 0 < j) (h2 : j - 1 < S.length), S[j - 1].name.data.toList < r.name.data.toList) → (S.take j ++ (⟨r.name, v⟩ : Amt) :: S.drop j).map kvOf = insR [] (T.take (i + 1)) from fun hl => by
                  have h1 := place_found (a := ⟨r.name, v⟩) HASC.out hl hgr.out hj
                  rw [HIT.out, HTV.out, ← hS.out]
                  exact h1.symm)
                rcases Nat.eq_zero_or_pos j with hj0 | hj0
                · have HEX := Lib.hid (HEXIT.out (fun h => by omega))
                  have HML := Lib.hid hml
                  subst hj0
                  clear hml
                  go_wp2
                  go_quiet (fail)
                  go_wp2
                  go_roundw
                  case rel => exact ⟨i + 1, c7, some ⟨g7, 0, none⟩, S.take 0 ++ (⟨r.name, v⟩ : Amt) :: S.drop 0, by go_num, by rw [HML.out], hlti, by unfold Hid; rw [HML.out]; have := hSl.out; omega, hom.out.below (below_drewN (Below.refl _ _) _), below_drewN hbp.out _, HEX.out, HLE2.out⟩
                  case measure => simp [intOf]; omega
                · obtain ⟨jp, rfl⟩ : ∃ jp, j = jp + 1 := ⟨j - 1, by omega⟩
                  have hjp : jp < S.length := by omega
                  have hl1 : jp < (S.take (jp + 1) ++ (⟨r.name, v⟩ : Amt) :: S.drop (jp + 1)).length := by rw [hml]; omega
                  have hl2 : jp + 1 < (S.take (jp + 1) ++ (⟨r.name, v⟩ : Amt) :: S.drop (jp + 1)).length := by rw [hml]; omega
                  have hc1 := own_cell hom.out jp hl1
                  rw [take_drop_get hjp] at hc1
                  have hc2 := own_cell hom.out (jp + 1) hl2
                  rw [take_drop_get2 hjp] at hc2
                  have HPM := Lib.hid (show S[jp] ∈ S from List.getElem_mem _)
                  have HSET := Lib.hid (shift_set (a := ⟨r.name, v⟩) hjp)
                  have HDJ := Lib.hid (List.drop_eq_getElem_cons hjp)
                  have HLAST := Lib.hid (show S[jp].name.data.toList < r.name.data.toList → ∀ (h : 0 < jp + 1) (h2 : jp + 1 - 1 < S.length), S[jp + 1 - 1].name.data.toList < r.name.data.toList from fun h _ _ => h)
                  have HNE := Lib.hid (show S[jp].name.data.toList ≠ r.name.data.toList from fun e => by
                    have hk : r.name.data.toList ∈ (insR [] (T.take i)).map Prod.fst := by
                      rw [← hS.out, ← e, List.map_map]
                      exact List.mem_map_of_mem (f := Prod.fst ∘ kvOf) HPM.out
                    rcases (keys_ins (T.take i) [] _).1 hk with h | h
                    · obtain ⟨p, hp, he⟩ := List.mem_map.1 h
                      obtain ⟨m', hm', rfl⟩ := List.getElem_of_mem hp
                      rw [List.length_take] at hm'
                      rw [List.getElem_take] at he
                      have hnd := List.pairwise_iff_getElem.1 HND.out m' i (by rw [List.length_map]; omega) (by rw [List.length_map]; exact hiT) (by omega)
                      apply hnd
                      rw [List.getElem_map, List.getElem_map, he, HTV.out]
                    · simp at h)
                  obtain ⟨p, hp⟩ : ∃ p, S[jp] = p := ⟨_, rfl⟩
                  rw [hp] at hc1 HSET HDJ HLAST HNE
                  have HML := Lib.hid hml
                  have hj1 : (0 : Int) ≤ (jp : Int) := by omega
                  have hj2 : (jp : Int) < ((S.length + 1 : Nat) : Int) := by omega
                  have hj3 : ((jp + 1 : Nat) : Int) < ((S.length + 1 : Nat) : Int) := by omega
                  clear hp hml hj0
                  obtain ⟨c10, c11, fz1⟩ := hc1
                  obtain ⟨c20, c21, -⟩ := hc2
                  have HBL := Lib.hid (show Op.bytesLess p.name.toList r.name.toList = decide (p.name.data.toList < r.name.data.toList) by rw [toList_eq, toList_eq, bytesLess_eq])
                  have eb : (p.name.toList == r.name.toList) = false := by
                    rw [toList_eq, toList_eq]
                    simpa using HNE.out
                  by_cases hgt : r.name.data.toList < p.name.data.toList
                  · have eg : Op.bytesLess p.name.toList r.name.toList = false := by rw [HBL.out]; simpa using fun h => List.lt_irrefl _ (List.lt_trans h hgt)
                    have HGT := Lib.hid hgt
                    clear hgt
                    have hgw : wo.heap.size ≤ g7 := (hom.out.block_lt g7 (by simp [Value.ownBlock])).1
                    have hnq : wq.heap.size ≠ g7 := fun e => hne7 e.symm
                    go_wp2
                    go_quiet (fail)
                    go_wp2
                    go_roundw
                    case rel =>
                      have o2 := fun nq : Nat => own_put (own_put (hom.out.below (below_drewN (Below.refl wp.heap.size wp) nq)) hl2 p) (i := jp) (by rw [List.length_set]; exact hl1) ⟨r.name, v⟩
                      simp only [HSET.out] at o2
                      refine ⟨jp, by go_num, by omega, o2 _, ?_, (((((below_drewN hbp.out _).setCell hgw _).setCell hgw _).setCell hgw _).setCell hgw _), ?_⟩
                      · unfold Hid
                        rw [HDJ.out]
                        intro q' hq'
                        rcases List.mem_cons.1 hq' with rfl | h
                        · exact HGT.out
                        · exact hgr.out q' h
                      · exact (Below.heap_setCell _ _ _ _ hnq).trans ((Below.heap_setCell _ _ _ _ hnq).trans ((Below.heap_setCell _ _ _ _ hnq).trans ((Below.heap_setCell _ _ _ _ hnq).trans hbx.out)))
                    case measure => simp [intOf]
                  · have eg : Op.bytesLess p.name.toList r.name.toList = true := by rw [HBL.out]; simpa using key_lt HNE.out hgt
                    have HEX := Lib.hid (HEXIT.out (HLAST.out (key_lt HNE.out hgt)))
                    clear hgt
                    go_wp2
                    go_quiet (fail)
                    go_wp2
                    go_roundw
                    case rel => exact ⟨i + 1, c7, some ⟨g7, 0, none⟩, S.take (jp + 1) ++ (⟨r.name, v⟩ : Amt) :: S.drop (jp + 1), by go_num, by rw [HML.out], hlti, by unfold Hid; rw [HML.out]; have := hSl.out; omega, hom.out.below (below_drewN (Below.refl _ _) _), below_drewN hbp.out _, HEX.out, HLE2.out⟩
                    case measure => simp [intOf]; omega
        · have hgei : ¬ ((i : Int) < (Rk.length : Int)) := by omega
          have HF := Lib.hid (show usesV o.parts = (insR [] T, 0) from uses_of_rows HN9.out HTT.out (by
            rw [List.any_eq_false]
            intro p hp
            obtain ⟨j, hj, rfl⟩ := List.getElem_of_mem hp
            have := hle.out j hj (by have := HTL.out; omega)
            simpa using this))
          have hS2 := hS.out
          rw [List.take_of_length_le (by rw [HTL.out]; omega)] at hS2
          have HSU := Lib.hid (show S = U by
            rw [← hU.out, HF.out, ← hS2, List.map_map]
            conv => lhs; rw [← List.map_id S]
            exact List.map_congr_left fun a _ => (amt_kv a).symm)
          have HSQ := Lib.hid (show S.length = q by rw [HSU.out, hq.out])
          have HE0 := Lib.hid (show eu = 0 by rw [← he.out, HF.out])
          have HO := Lib.hid (own_rows hown.out)
          have HBEND := Lib.hid (HBE.out.trans (hbr.out.mono HBE.out.size))
          clear hS2
          go_wp2
          go_ret2
          refine ⟨A6, n6, by rw [HE0.out, ← HSQ.out]; rfl, by rw [← HSU.out]; exact HO.out.mono fun _ _ => trivial, HBEND.out⟩
end Go.Proofs.YtdchffghgajbfaaDoor
