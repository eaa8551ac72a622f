/- The document's add: the walk. -/
import Derived.Test.YtdchffghgajbfaaDoorY4
namespace Go.Proofs.YtdchffghgajbfaaDoor
open Go.RowKit

def AddPost (base : Nat) (w0 : World) (j : Nat) (T : List (Key × Int)) (e : Ending) (w' : World) : Prop :=
  ∃ A c R, e = .returned (.slice A (List.length R) c) ∧ RowsAt base w0 w' (.slice A R.length c) j R T
set_option maxRecDepth 100000 in
set_option maxHeartbeats 2000000 in
theorem radd_any (s : ByteArray) (hs : s.size ≤ 9) (xs : List Amt) (nx : Nat) (hnx : xs.length = nx) (B : Option Addr) (cb : Nat) (base : Nat) (w0 w : World) (hb0 : base ≤ w0.heap.size) (j0 : Nat) (R : List RawV) (A : Option Addr) (c : Nat) (T : List (Key × Int))
    (hR : RowsAt base w0 w (.slice A R.length c) j0 R T) (hx : Row kAmt (fun k => k < base) w B xs) (hok : ∀ a ∈ xs, AmtOk a) (hpos : ∀ a ∈ xs, 0 ≤ a.val) (hj : j0 + nx ≤ 1073741824) :
    Calls Tryd.prog 74 #[.slice A R.length c, .slice B nx cb, .string s] w (AddPost base w0 (j0 + nx) (rowsR T (xs.map (preA s.data.toList)))) := by
  have HR := Lib.hid hR
  have HX := Lib.hid hx
  have HOK := Lib.hid hok
  have HPOS := Lib.hid hpos
  have HNX := Lib.hid hnx
  have HSZ := Lib.hid hR.below.size
  clear hR hx hok hpos hnx
  go_enter Tryd.func74, Tryd.ntmps74
  go_wp2
  go_loopw [0, 7] (fun lv iv wr => ∃ (k n : Nat) (A : Option Addr) (Rk : List RawV), iv = .int .i64 k ∧ lv = .slice A Rk.length n ∧ k ≤ nx ∧ Hid (Below base w wr) ∧ Hid (RowsAt base w0 wr lv (j0 + k) Rk (rowsR T ((xs.take k).map (preA s.data.toList))))) (fun _ iv _ => nx - (intOf iv).toNat)
  case atStart => exact ⟨0, c, A, R, rfl, rfl, Nat.zero_le _, Below.refl _ _, HR.out⟩
  case round =>
    obtain ⟨k, n, A1, Rk, rfl, rfl, hk, hbr, hrk⟩ := hrel
    obtain ⟨wo, rfl⟩ : ∃ wo, wo = wr := ⟨_, rfl⟩
    by_cases hlt : k < nx
    · have hltx : k < xs.length := by rw [HNX.out]; exact hlt
      obtain ⟨a, rfl, -, m0, m1⟩ := amt_at (HX.out.keep fun q hq hl => hbr.out.block q hq) k hltx
      have HST := Lib.hid (show rowsR T ((xs.take (k + 1)).map (preA s.data.toList)) = addR (preA s.data.toList xs[k]).1 (preA s.data.toList xs[k]).2 (rowsR T ((xs.take k).map (preA s.data.toList))) by
        rw [List.take_succ_eq_append_getElem hltx, List.map_append]
        unfold rowsR
        rw [List.foldl_append]; rfl)
      have hyo := HOK.out _ (List.getElem_mem hltx)
      have hyp := HPOS.out _ (List.getElem_mem hltx)
      obtain ⟨y, hy⟩ : ∃ y, xs[k] = y := ⟨_, rfl⟩
      rw [hy] at m0 m1 HST hyo hyp
      have HY := Lib.hid hy
      clear hy
      have hcat : s.size + y.name.size ≤ 9223372036854775807 := by have := hyo.name; omega
      have hy2 := hyo.hi
      obtain ⟨N, hN⟩ : ∃ N, s ++ y.name = N := ⟨_, rfl⟩
      have HNM := Lib.hid (show (preA s.data.toList y).1 = N.data.toList by rw [← hN]; simp [preA])
      have HLE := Lib.hid hrk.out.len
      clear hyo
      go_wp2
      clear hN
      go_loopw [9, 10] (fun av jv wr => ∃ (j : Nat) (t : Int), jv = .int .i64 j ∧ av = .int .i64 t ∧ j ≤ Rk.length ∧ Hid (FoundTo Rk N j t) ∧ Hid (Below wo.heap.size wo wr)) (fun _ jv _ => Rk.length - (intOf jv).toNat)
      case atStart => exact ⟨0, -1, rfl, rfl, Nat.zero_le _, foundTo_zero _ _, Below.refl _ _⟩
      case round =>
        obtain ⟨j, t, rfl, rfl, hjl, hft, hbp⟩ := hrel
        obtain ⟨wp, rfl⟩ : ∃ wp, wp = wr := ⟨_, rfl⟩
        have hlr : Rk.length ≤ 1073741825 := by have := HLE.out; omega
        by_cases hltj : j < Rk.length
        · have hlt2 : (j : Int) < (Rk.length : Int) := by omega
          obtain ⟨b, rfl, q0, -, -⟩ := raw_at ((own_rows hrk.out.own).below hbp.out) j hltj
          by_cases he : Rk[j].name = N
          · have e1 : (Rk[j].name.toList == N.toList) = true := by rw [he]; simp
            have HF := Lib.hid (foundTo_hit (k := j + 1) hltj he)
            clear he
            go_wp2
            go_roundw
            case rel => exact ⟨j + 1, j, by go_num, rfl, hltj, HF.out, hbp.out⟩
            case measure => simp [intOf]; omega
          · have e1 : (Rk[j].name.toList == N.toList) = false := by
              rw [Bool.eq_false_iff]
              intro h
              exact he (bytes_inj (by rw [← toList_eq, ← toList_eq]; simpa using h))
            have HF := Lib.hid (hft.out.miss hltj he)
            clear he
            go_wp2
            go_roundw
            case rel => exact ⟨j + 1, t, by go_num, rfl, hltj, HF.out, hbp.out⟩
            case measure => simp [intOf]; omega
        · have hge2 : ¬ ((j : Int) < (Rk.length : Int)) := by omega
          have hwb : base ≤ wo.heap.size := by have := hbr.out.size; have := HSZ.out; omega
          have HP := Lib.hid hbp.out
          have HBP := Lib.hid (hbr.out.trans (hbp.out.mono hwb))
          have hwp := hbp.out.size
          have hjl2 : j = Rk.length := by omega
          have HFT := Lib.hid hft.out
          rw [hjl2] at HFT
          clear hft hbp hjl2
          go_upto_if 39 with fail
          go_cut [0, 9] (fun lv av wx => ∃ (i n1 : Nat) (B1 : Option Addr) (R1 : List RawV), lv = .slice B1 R1.length n1 ∧ av = .int .i64 i ∧ Hid (Below base w wx) ∧ Hid (AddMid base w0 wx lv (j0 + k) i R1 N y.val (rowsR T ((xs.take k).map (preA s.data.toList)))))
          case first =>
            rcases HFT.out with ⟨rfl, hmiss⟩ | ⟨i, hi, rfl, hin⟩
            · have HMISS := Lib.hid (show ∀ i (h : i < Rk.length), Rk[i].name ≠ N from fun i h => hmiss i h h)
              have h32 : (Rk.length + 1) * 32 ≤ 140737488355328 := by omega
              have HRP := Lib.hid (show Own kRaw 117 base (fun _ => False) wp (.slice A1 Rk.length n) Rk from hrk.out.own.below HP.out)
              clear hmiss HFT
              go_wp2_with (at_builtin; refine wpList_app_plain rawElem kRaw_plain base rfl (.tmp 42) (.tmp 45) rfl (v := .slice A1 Rk.length n) (xs := Rk) (ys := [⟨N, 0, 0⟩]) rfl (HRP.out.alloc _) rfl rfl (Row.newOnePlain (cs := RawV.cells ⟨N, 0, 0⟩) kRaw_plain rfl) (by exact h32) (by simp; omega) ?_; intro A7 c7 w7 happ; have HA7 := Lib.hid happ; clear happ)
              go_meet
              have hl1 : (Rk ++ [(⟨N, 0, 0⟩ : RawV)]).length = Rk.length + 1 := by rw [List.length_append]; rfl
              exact ⟨Rk.length, c7, A7, Rk ++ [⟨N, 0, 0⟩], by rw [hl1], rfl, HA7.out.below (HBP.out.alloc (by omega) _) (by simp; omega) (fun q hq => (HRP.out.block_lt q hq).1), by have := AddMid.miss (v := y.val) hrk.out hb0 (HP.out.alloc hwp _) HMISS.out HA7.out; exact this⟩
            · have hneg : decide ((i : Int) < 0) = false := by simp
              have HMID := Lib.hid (AddMid.hit (v := y.val) (show RowsAt base w0 wp (.slice A1 Rk.length n) (j0 + k) Rk _ from ⟨hrk.out.own.below HP.out, hrk.out.below.trans (HP.out.mono hwb), hrk.out.eq, hrk.out.nodup, hrk.out.ok, hrk.out.len⟩) hi hin)
              clear HFT
              go_wp2
              go_meet
              exact ⟨i, n, A1, Rk, rfl, rfl, HBP.out, HMID.out⟩
          case rest =>
            obtain ⟨i, n1, B1, R1, rfl, rfl, hbw, hmid⟩ := hcut
            rename World => wx
            have HMID := Lib.hid hmid.out
            have HBW := Lib.hid hbw.out
            have HRO := Lib.hid (HMID.out.ok _ (List.getElem_mem HMID.out.lt))
            have hil := HMID.out.lt
            obtain ⟨g, cur, rfl, hgb, -⟩ := own_blk HMID.out.own (fun e => by rw [e] at hil; simp at hil)
            obtain ⟨r, hr⟩ : ∃ r, R1[i] = r := ⟨_, rfl⟩
            have HRE := Lib.hid hr
            have O0 := Lib.hid (show Own kRaw 117 base (fun _ => False) wx (.slice (some ⟨g, 0, none⟩) R1.length n1) (R1.set i r) from by rw [← hr, List.set_getElem_self]; exact HMID.out.own)
            rw [hr] at HRO
            clear hr
            obtain ⟨rh0, rh1, rl0, rl1⟩ := HRO.out
            have HW0 := Lib.hid HMID.out.below
            have hi0 : (0 : Int) ≤ (i : Int) := by omega
            have hi1 : (i : Int) < (R1.length : Int) := by omega
            have hjk : j0 + k ≤ 1073741824 := by omega
            have wa := wrap_quo hyp hy2
            have wb : wrap64 (r.hi + y.val / 4294967296) = r.hi + y.val / 4294967296 := wrap_id (by omega) (by omega)
            have wc := wrap_rem hyp hy2
            have wd : wrap64 (r.lo + y.val % 4294967296) = r.lo + y.val % 4294967296 := wrap_id (by omega) (by omega)
            go_upto_region 14 with fail
            obtain ⟨q1, q2, hfz, -⟩ := raw_put_at O0.out hil
            obtain ⟨a2, ha2, -, -, my⟩ := amt_at (HX.out.keep fun q hq hl => HBW.out.block q hq) k hltx
            cases ha2
            rw [HY.out] at my
            go_still_tail 16, (by kernel_rfl)
            have d1 : wx.drew.cell? ⟨g, i * 3 + 1, none⟩ = some (.int .i64 r.hi) := q1
            have df : ∀ j, wx.drew.frozen? ⟨g, j, none⟩ = false := hfz
            change wpList _ _ _ _ _ wx.drew
            go_upto_region 15 with fail
            clear q1 q2 hfz my d1 df
            have O1 := Lib.hid ((raw_put1 O0.out hil (r.hi + y.val / 4294967296)).below (Below.refl _ _).drew)
            have HB1 := Lib.hid (show Below base w (wx.setCell ⟨g, i * 3 + 1, none⟩ (.int .i64 (r.hi + y.val / 4294967296))).drew from (HBW.out.setCell hgb _).drew)
            have HW1 := Lib.hid (show Below base w0 (wx.setCell ⟨g, i * 3 + 1, none⟩ (.int .i64 (r.hi + y.val / 4294967296))).drew from (HW0.out.setCell hgb _).drew)
            generalize hw1 : (wx.setCell ⟨g, i * 3 + 1, none⟩ (.int .i64 (r.hi + y.val / 4294967296))).drew = w1 at O1 HB1 HW1 ⊢
            clear hw1 wa wb
            obtain ⟨q1, q2, hfz, -⟩ := raw_put_at O1.out hil
            obtain ⟨a3, ha3, -, -, my⟩ := amt_at (HX.out.keep fun q hq hl => HB1.out.block q hq) k hltx
            cases ha3
            rw [HY.out] at my
            go_still_tail 16, (by kernel_rfl)
            have d2 : w1.drew.cell? ⟨g, i * 3 + 2, none⟩ = some (.int .i64 r.lo) := q2
            have df : ∀ j, w1.drew.frozen? ⟨g, j, none⟩ = false := hfz
            change wpList _ _ _ _ _ w1.drew
            go_upto_region 16 with fail
            clear q1 q2 hfz my d2 df
            have O2 := Lib.hid ((raw_put2 O1.out hil (r.lo + y.val % 4294967296)).below (Below.refl _ _).drew)
            have HB2 := Lib.hid (show Below base w (w1.setCell ⟨g, i * 3 + 2, none⟩ (.int .i64 (r.lo + y.val % 4294967296))).drew from (HB1.out.setCell hgb _).drew)
            have HW2 := Lib.hid (show Below base w0 (w1.setCell ⟨g, i * 3 + 2, none⟩ (.int .i64 (r.lo + y.val % 4294967296))).drew from (HW1.out.setCell hgb _).drew)
            generalize hw2 : (w1.setCell ⟨g, i * 3 + 2, none⟩ (.int .i64 (r.lo + y.val % 4294967296))).drew = w2 at O2 HB2 HW2 ⊢
            clear hw2 wc wd HB1 HW1 O1
            obtain ⟨h1, hh1⟩ : ∃ h1, r.hi + y.val / 4294967296 = h1 := ⟨_, rfl⟩
            obtain ⟨l1, hl1⟩ : ∃ l1, r.lo + y.val % 4294967296 = l1 := ⟨_, rfl⟩
            have HH1 := Lib.hid hh1
            have HL1 := Lib.hid hl1
            have hh1r : 0 ≤ h1 ∧ h1 ≤ 2147483648 * ((j0 + k : Nat) : Int) + 2147483648 := by omega
            have hl1r : 0 ≤ l1 ∧ l1 ≤ 8589934592 := by omega
            rw [hh1, hl1] at O2
            obtain ⟨hh2, hh3⟩ := hh1r
            obtain ⟨hl2, hl3⟩ := hl1r
            clear hh1 hl1
            have we := wrap_quo hl2 (show l1 ≤ 9223372036854775807 by omega)
            have wf : wrap64 (h1 + l1 / 4294967296) = h1 + l1 / 4294967296 := wrap_id (by omega) (by omega)
            have wg := wrap_rem hl2 (show l1 ≤ 9223372036854775807 by omega)
            obtain ⟨q1, q2, hfz, -⟩ := raw_put_at O2.out hil
            go_still_tail 16, (by kernel_rfl)
            have d1 : w2.drew.cell? ⟨g, i * 3 + 1, none⟩ = some (.int .i64 h1) := q1
            have df : ∀ j, w2.drew.frozen? ⟨g, j, none⟩ = false := hfz
            change wpList _ _ _ _ _ w2.drew
            go_upto_region 17 with fail
            clear q1 q2 hfz d1 df
            have O3 := Lib.hid ((raw_put1 O2.out hil (h1 + l1 / 4294967296)).below (Below.refl _ _).drew)
            have HB3 := Lib.hid (show Below base w (w2.setCell ⟨g, i * 3 + 1, none⟩ (.int .i64 (h1 + l1 / 4294967296))).drew from (HB2.out.setCell hgb _).drew)
            have HW3 := Lib.hid (show Below base w0 (w2.setCell ⟨g, i * 3 + 1, none⟩ (.int .i64 (h1 + l1 / 4294967296))).drew from (HW2.out.setCell hgb _).drew)
            generalize hw3 : (w2.setCell ⟨g, i * 3 + 1, none⟩ (.int .i64 (h1 + l1 / 4294967296))).drew = w3 at O3 HB3 HW3 ⊢
            clear hw3 we wf O2 HB2 HW2
            obtain ⟨q1, q2, hfz, -⟩ := raw_put_at O3.out hil
            go_wp2
            go_roundw
            case rel =>
              have hadd : (⟨r.name, h1 + l1 / 4294967296, l1 % 4294967296⟩ : RawV) = rawAdd R1[i] y.val := by rw [HRE.out, ← HH1.out, ← HL1.out]; rfl
              have hO := raw_put2 O3.out hil (l1 % 4294967296)
              rw [show (⟨(⟨r.name, h1 + l1 / 4294967296, l1⟩ : RawV).name, (⟨r.name, h1 + l1 / 4294967296, l1⟩ : RawV).hi, l1 % 4294967296⟩ : RawV) = rawAdd R1[i] y.val from hadd] at hO
              refine ⟨k + 1, n1, some ⟨g, 0, none⟩, R1.set i (rawAdd R1[i] y.val), by go_num, by rw [List.length_set], hlt, HB3.out.setCell hgb _, ?_⟩
              have heq : (R1.set i (rawAdd R1[i] y.val)).map kvR = rowsR T ((xs.take (k + 1)).map (preA s.data.toList)) := by
                rw [HST.out, HNM.out, ← HMID.out.new]; rfl
              refine ⟨hO, HW3.out.setCell hgb _, heq, ?_, fun r' hr' => ?_, by rw [List.length_set]; have := HMID.out.len; omega⟩
              · rw [HST.out]; exact addR_nodup _ _ _ hrk.out.nodup
              · rcases List.mem_or_eq_of_mem_set hr' with h | rfl
                · exact (HMID.out.ok r' h).mono (by omega)
                · exact rawAdd_ok (HMID.out.ok _ (List.getElem_mem _)) hyp hy2
            case measure => simp [intOf]; omega
    · have hge : ¬ ((k : Int) < (nx : Int)) := by omega
      have HF := Lib.hid hrk.out
      rw [List.take_of_length_le (by rw [HNX.out]; omega), show k = nx by omega] at HF
      go_wp2
      go_ret
      exact ⟨A1, n, Rk, rfl, HF.out⟩
end Go.Proofs.YtdchffghgajbfaaDoor
