/- plain: is each the sum over all amounts of all parts? The walk. -/
import Derived.Test.YtdchffghgajbfaaZ1
import Derived.Test.YtdchffghgajbfaaZ2
import Derived.StillTailTactics
import Derived.Deep.DeepCutAuto
namespace Go.Proofs.Ytdchffghgajbfaa
open Go.RowKit

theorem wrap_in {x : Int} (h1 : -9223372036854775808 ≤ x) (h2 : x ≤ 9223372036854775807) : wrap64 x = x := by unfold wrap64; omega
def amtsOf (p : PartV) : List (Key × Int) := p.req.map (preA reqK) ++ p.lim.map (preA limK)
theorem amtsOf_len (p : PartV) : (amtsOf p).length = p.req.length + p.lim.length := by simp [amtsOf]
theorem allA_one (p : PartV) : allA [p] = amtsOf p := by simp [allA, amtsOf]
theorem allA_take {ps : List PartV} {i : Nat} (h : i < ps.length) : allA (ps.take (i + 1)) = allA (ps.take i) ++ amtsOf ps[i] := by rw [List.take_succ_eq_append_getElem h, allA_append, allA_one]
theorem allA_split {ps : List PartV} {i : Nat} (h : i < ps.length) : allA ps = allA (ps.take i) ++ (amtsOf ps[i] ++ allA (ps.drop (i + 1))) := by
  have h1 : ps = ps.take (i + 1) ++ ps.drop (i + 1) := (List.take_append_drop _ _).symm
  have h2 := congrArg allA h1
  rw [allA_append, allA_take h, List.append_assoc] at h2
  exact h2
/-- an amount taken off: where, and it goes not below 0 -/
theorem SumOf.turn {S L D R : List (Key × Int)} {K : Key} {v : Int} (h : SumOf S L) (hL : L = D ++ (K, v) :: R) : ∃ t, ∃ ht : t < S.length, S[t].1 = K ∧ 0 ≤ S[t].2 - totK S[t].1 D - v ∧ S[t].2 - totK S[t].1 D - v ≤ 9223372036854775807 := by
  obtain ⟨p, hp, hk⟩ := List.mem_map.1 (h.mem (K, v) (by rw [hL]; simp))
  obtain ⟨t, ht, rfl⟩ := List.getElem_of_mem hp
  refine ⟨t, ht, hk, ?_⟩
  have := h.left (D := D ++ [(K, v)]) (R := R) (by rw [hL]; simp) ht
  rw [totK_append] at this
  simp only [totK] at this
  rw [if_pos hk] at this
  omega
/-- what is left, in a list of the call's own -/
structure LeftAt (base : Nat) (w0 w : World) (lv : Value) (S D : List (Key × Int)) : Prop where
  own : Own kAmt 36 base (fun _ => False) w lv (leftV S D)
  below : Below base w0 w
theorem LeftAt.drewN {base : Nat} {w0 w : World} {lv : Value} {S D : List (Key × Int)} (h : LeftAt base w0 w lv S D) (n : Nat) : LeftAt base w0 (w.drewN n) lv S D := ⟨h.own.below (below_drewN (Below.refl _ _) n), below_drewN h.below n⟩
/-- the amount that is meant -/
structure SelAt (P : Nat → Prop) (w0 : World) (x : PartV) (j : Nat) (s : ByteArray) (k : Nat) (A : Option Addr) (ys : List Amt) (y : Amt) : Prop where
  row : Row kAmt P w0 A ys
  lt : k < ys.length
  get : ys[k]? = some y
  is : (amtsOf x)[j]? = some (s.data.toList ++ y.name.data.toList, y.val)
  small : s.size ≤ 9
  ok : AmtOk y
theorem selReq {P : Nat → Prop} {w0 : World} {x : PartV} {j : Nat} {A : Option Addr} (hr : Row kAmt P w0 A x.req) (hj : j < x.req.length) (ho : ∀ a ∈ x.req, AmtOk a) : SelAt P w0 x j ⟨#[114, 101, 113, 117, 101, 115, 116, 115, 46]⟩ j A x.req x.req[j] := by
  refine ⟨hr, hj, List.getElem?_eq_getElem hj, ?_, by decide, ho _ (List.getElem_mem hj)⟩
  unfold amtsOf
  rw [List.getElem?_append_left (by simpa using hj), List.getElem?_map, List.getElem?_eq_getElem hj]
  rfl
theorem selLim {P : Nat → Prop} {w0 : World} {x : PartV} {j : Nat} {A : Option Addr} (hr : Row kAmt P w0 A x.lim) (h1 : ¬ j < x.req.length) (hj : j - x.req.length < x.lim.length) (ho : ∀ a ∈ x.lim, AmtOk a) : SelAt P w0 x j ⟨#[108, 105, 109, 105, 116, 115, 46]⟩ (j - x.req.length) A x.lim x.lim[j - x.req.length] := by
  refine ⟨hr, hj, List.getElem?_eq_getElem hj, ?_, by decide, ho _ (List.getElem_mem hj)⟩
  unfold amtsOf
  rw [List.getElem?_append_right (by simpa using h1), List.getElem?_map, List.length_map, List.getElem?_eq_getElem hj]
  rfl
set_option maxRecDepth 100000 in
set_option maxHeartbeats 2000000 in
theorem plain_val (o : ObjV) (S : List (Key × Int)) (q : Nat) (hS : SumOf S (allA o.parts)) (hN : NamesOk o.parts) (hq : S.length = q) (hq0 : 0 < q) (hq24 : q * 24 ≤ 140737488355328) (L : Option Addr) (n m : Nat) (B : Option Addr) (c : Nat) (P : Nat → Prop) (A : Option Addr) (cu : Nat) (Q : Nat → Prop) (w : World)
    (ho : ObjOk w (o.re L n m) B P) (hu : Row kAmt Q w A (S.map amtOf)) :
    Calls Try.prog 9 #[.agg #[.string o.path, .string o.name, .slice L n m, .int .i64 o.prio, .int .i64 o.dl, .slice B o.parts.length c, .int .i64 o.ver], .slice A q cu] w fun e w' => e = .returned (.bool true) ∧ Below w.heap.size w w' := by
  have hrow : Row kPart P w B o.parts := ho.row
  have hlen : o.parts.length ≤ 9223372036854775807 := ho.len
  have HSM := Lib.hid (show PartsOk o.parts from ho.small)
  have hb0 : Below w.heap.size w (w.alloc (.cells #[.string o.path, .string o.name, .slice L n m, .int .i64 o.prio, .int .i64 o.dl, .slice B o.parts.length c, .int .i64 o.ver] 25)) := (Below.refl _ _).alloc (Nat.le_refl _) _
  have hbx := heap_alloc_new w (.cells #[.string o.path, .string o.name, .slice L n m, .int .i64 o.prio, .int .i64 o.dl, .slice B o.parts.length c, .int .i64 o.ver] 25)
  obtain ⟨w0, hw0⟩ : ∃ w0, w.alloc (.cells #[.string o.path, .string o.name, .slice L n m, .int .i64 o.prio, .int .i64 o.dl, .slice B o.parts.length c, .int .i64 o.ver] 25) = w0 := ⟨_, rfl⟩
  rw [hw0] at hb0 hbx
  have hp5 : w0.cell? ⟨w.heap.size, 5, none⟩ = some (.slice B o.parts.length c) := (cell_of_row _ _ _ _ _ _ hbx).trans rfl
  have HP5 := Lib.hid (show ∀ w', Below w0.heap.size w0 w' → w'.cell? ⟨w.heap.size, 5, none⟩ = some (.slice B o.parts.length c) from fun w' hb => (hb.cell (p := ⟨w.heap.size, 5, none⟩) (World.block_lt_of_cell? _ _ hp5)).trans hp5)
  have HB0 := Lib.hid hb0
  have HROW := Lib.hid (hrow.below hb0)
  have HU := Lib.hid (hu.below hb0)
  have HQ := Lib.hid hq
  have HS := Lib.hid hS
  have HN := Lib.hid hN
  clear hrow hb0 hbx hp5 ho hu hS hN hq
  go_enter Try.func9, Try.ntmps9
  go_upto_region 2 with (at_builtin; refine wpList_app_plain amtElem kAmt_plain w0.heap.size rfl (.const (.slice none 0 0)) (.tmp 14) rfl (v := .slice none 0 0) (xs := []) (ys := S.map amtOf) rfl (Own.nil kAmt 36 _ (fun _ => False) _) rfl (by rw [List.length_map]; exact HQ.out.symm) HU.out (by rw [List.length_map, HQ.out, List.length_nil]; omega) (Nat.le_refl _) ?_; intro A1 c1 w1 happ; rw [List.length_nil, Nat.zero_add, List.length_map, HQ.out] at happ ⊢; rw [List.nil_append] at happ; have HA1 := Lib.hid happ; clear happ)
  clear hw0
  have HL1 := Lib.hid (show LeftAt w0.heap.size w0 w1 (.slice A1 q c1) S [] from ⟨by rw [leftV_nil]; exact HA1.out.own, HA1.out.below (Below.refl w0.heap.size w0) (Nat.le_refl _) (fun q hq => by cases hq)⟩)
  have HNE := Lib.hid (show ∀ D, leftV S D ≠ [] from fun D e => by have := leftV_len S D; rw [e, HQ.out] at this; simp at this; omega)
  obtain ⟨g, cur1, rfl, hgb, -⟩ := own_blk HL1.out.own (HNE.out _)
  clear HA1 cur1 HU
  go_wp2
  go_loopw [6] (fun iv wr => ∃ i : Nat, iv = .int .i64 i ∧ i ≤ o.parts.length ∧ Hid (LeftAt w0.heap.size w0 wr (.slice (some ⟨g, 0, none⟩) q c1) S (allA (o.parts.take i)))) (fun iv _ => o.parts.length - (intOf iv).toNat)
  case atStart => exact ⟨0, rfl, Nat.zero_le _, HL1.out⟩
  case round =>
    obtain ⟨i, rfl, hi, hla⟩ := hrel
    obtain ⟨wo, rfl⟩ : ∃ wo, wo = wr := ⟨_, rfl⟩
    have p5 := HP5.out _ hla.out.below
    by_cases hlt : i < o.parts.length
    · have hlt1 : (i : Int) < (o.parts.length : Int) := by omega
      obtain ⟨a, Rq, M, cr, cm, rfl, hpa⟩ := part_at HROW.out i hlt
      have HTK := Lib.hid (allA_take hlt)
      have HSP := Lib.hid (allA_split hlt)
      have HNX := Lib.hid (HN.out _ (List.getElem_mem hlt))
      have hsm := HSM.out _ (List.getElem_mem hlt)
      obtain ⟨x, hx⟩ : ∃ x, o.parts[i] = x := ⟨_, rfl⟩
      obtain ⟨D0, hD0⟩ : ∃ D0, allA (o.parts.take i) = D0 := ⟨_, rfl⟩
      rw [hx] at hpa HTK HSP HNX hsm
      rw [hD0] at HTK HSP hla
      have HPA := Lib.hid hpa
      have HLA := Lib.hid hla.out
      obtain ⟨hsm1, hsm2⟩ := hsm
      clear hx hD0 hpa hla
      go_wp2
      go_loopw [7] (fun jv wr => ∃ j : Nat, jv = .int .i64 j ∧ j ≤ x.req.length + x.lim.length ∧ Hid (LeftAt w0.heap.size w0 wr (.slice (some ⟨g, 0, none⟩) q c1) S (D0 ++ (amtsOf x).take j))) (fun jv _ => x.req.length + x.lim.length - (intOf jv).toNat)
      case atStart => exact ⟨0, rfl, Nat.zero_le _, by show LeftAt _ _ _ _ _ _; rw [List.take_zero, List.append_nil]; exact HLA.out⟩
      case round =>
        obtain ⟨j, rfl, hj, hlb⟩ := hrel
        obtain ⟨wq, rfl⟩ : ∃ wq, wq = wr := ⟨_, rfl⟩
        clear p5
        have p5 := HP5.out _ hlb.out.below
        have e1 := (hlb.out.below.cell (World.block_lt_of_cell? _ _ HPA.out.c1)).trans HPA.out.c1
        have e2 := (hlb.out.below.cell (World.block_lt_of_cell? _ _ HPA.out.c2)).trans HPA.out.c2
        have hwl : IntKind.i64.wrap ((x.req.length : Int) + (x.lim.length : Int)) = (x.req.length : Int) + (x.lim.length : Int) := by rw [IntKind.wrap_i64]; omega
        have hlt1 : (i : Int) < (o.parts.length : Int) := by omega
        have hi0 : (0 : Int) ≤ (i : Int) := by omega
        by_cases hltj : j < x.req.length + x.lim.length
        · have hltj1 : (j : Int) < (x.req.length : Int) + (x.lim.length : Int) := by omega
          have HLB := Lib.hid hlb.out
          clear hlb
          go_wp2
          go_quiet (fail)
          go_upto_if 52 with fail
          go_cut [8, 9, 10] (fun nv kv lv wx => ∃ (s : ByteArray) (kk c2 : Nat) (A2 : Option Addr) (ys : List Amt) (y : Amt), nv = .string s ∧ kv = .int .i64 kk ∧ lv = .slice A2 ys.length c2 ∧ Hid (SelAt P w0 x j s kk A2 ys y) ∧ Hid (LeftAt w0.heap.size w0 wx (.slice (some ⟨g, 0, none⟩) q c1) S (D0 ++ (amtsOf x).take j)))
          case first =>
            have HLD := Lib.hid (HLB.out.drewN nq)
            by_cases hjr : j < x.req.length
            · have e3 : decide ((j : Int) ≥ (x.req.length : Int)) = false := by simp; omega
              have HSEL := Lib.hid (selReq HPA.out.r1 hjr HNX.out.1)
              go_wp2
              go_meet
              exact ⟨_, j, _, _, _, _, rfl, rfl, rfl, HSEL.out, HLD.out⟩
            · have e3 : decide ((j : Int) ≥ (x.req.length : Int)) = true := by simp; omega
              have HSEL := Lib.hid (selLim (j := j) HPA.out.r2 hjr (by omega) HNX.out.2)
              have hw2 : wrap64 ((j : Int) - (x.req.length : Int)) = ((j - x.req.length : Nat) : Int) := by rw [wrap_in (by omega) (by omega)]; omega
              go_wp2
              go_meet
              exact ⟨_, j - x.req.length, _, _, _, _, rfl, (by congr 1; omega), rfl, HSEL.out, HLD.out⟩
          case rest =>
            obtain ⟨s, kk, c2, A2, ys, y, rfl, rfl, rfl, hsel, hlc⟩ := hcut
            rename World => wz
            have HSEL := Lib.hid hsel.out
            have HLC := Lib.hid hlc.out
            clear hsel hlc p5 e1 e2 hwl
            obtain ⟨hjx, hget⟩ := List.getElem?_eq_some_iff.1 HSEL.out.is
            have HDEC := Lib.hid (show allA o.parts = (D0 ++ (amtsOf x).take j) ++ (s.data.toList ++ y.name.data.toList, y.val) :: ((amtsOf x).drop (j + 1) ++ allA (o.parts.drop (i + 1))) by
              have h1 : amtsOf x = (amtsOf x).take j ++ (s.data.toList ++ y.name.data.toList, y.val) :: (amtsOf x).drop (j + 1) := by rw [← hget, ← List.drop_eq_getElem_cons hjx, List.take_append_drop]
              rw [HSP.out]
              conv => lhs; rw [h1]
              simp)
            have HST := Lib.hid (show D0 ++ (amtsOf x).take (j + 1) = (D0 ++ (amtsOf x).take j) ++ [(s.data.toList ++ y.name.data.toList, y.val)] by
              rw [List.take_succ_eq_append_getElem hjx, hget]; simp)
            obtain ⟨t, ht, hK, hlo, hhi⟩ := HS.out.turn HDEC.out
            obtain ⟨D, hD⟩ : ∃ D, D0 ++ (amtsOf x).take j = D := ⟨_, rfl⟩
            rw [hD] at HST HLC hlo hhi
            have HK := Lib.hid hK
            have htq : t < q := by rw [← HQ.out]; exact ht
            have hkl := HSEL.out.lt
            have hcat : s.size + y.name.size ≤ 9223372036854775807 := by have := HSEL.out.small; have := HSEL.out.ok.name; omega
            clear hD hK hget hjx HDEC
            go_wp2
            go_loopw [11, 12] (fun av mv wr => ∃ (k : Nat) (tt : Int), mv = .int .i64 k ∧ av = .int .i64 tt ∧ k ≤ q ∧ Hid ((tt = -1 ∧ k ≤ t) ∨ (tt = t ∧ t < k)) ∧ Hid (LeftAt w0.heap.size w0 wr (.slice (some ⟨g, 0, none⟩) q c1) S D)) (fun _ mv _ => q - (intOf mv).toNat)
            case atStart => exact ⟨0, -1, rfl, rfl, Nat.zero_le _, .inl ⟨rfl, Nat.zero_le _⟩, HLC.out⟩
            case round =>
              obtain ⟨k, tt, rfl, rfl, hkq, htt, hld⟩ := hrel
              obtain ⟨wp, rfl⟩ : ∃ wp, wp = wr := ⟨_, rfl⟩
              have HLD := Lib.hid hld.out
              clear hld
              obtain ⟨a2, rfl, -, z0, z1⟩ := amt_at (HSEL.out.row.below HLD.out.below) kk hkl
              have hyk : ys[kk] = y := by
                have := HSEL.out.get
                rw [List.getElem?_eq_getElem hkl] at this
                exact Option.some.inj this
              rw [hyk] at z0 z1
              clear hyk
              have hk0 : (0 : Int) ≤ (kk : Int) := by omega
              have hk1 : (kk : Int) < (ys.length : Int) := by omega
              by_cases hltk : k < q
              · have hlt2 : (k : Int) < (q : Int) := by omega
                have hks : k < S.length := by rw [HQ.out]; exact hltk
                obtain ⟨b, hb, -, l0, -⟩ := amt_at (own_rows HLD.out.own) k (by rw [leftV_len]; exact hks)
                cases hb
                have hnm : (leftV S D)[k]'(by rw [leftV_len]; exact hks) = amtOf (S[k].1, S[k].2 - totK S[k].1 D) := by simp [leftV]
                rw [hnm, add_new] at l0
                have hne : ((amtOf (S[k].1, S[k].2 - totK S[k].1 D)).name.toList == (s ++ y.name).toList) = decide (k = t) := by
                  rw [toList_eq, toList_eq]
                  have e : (s ++ y.name).data.toList = S[t].1 := by rw [HK.out]; simp
                  rw [e]
                  by_cases h : k = t
                  · subst h; simp [amtOf]
                  · have : S[k].1 ≠ S[t].1 := fun he => h (asc_inj HS.out.asc hks ht he)
                    simp [amtOf, h, this]
                obtain ⟨u, hu⟩ : ∃ u, (amtOf (S[k].1, S[k].2 - totK S[k].1 D)).name = u := ⟨_, rfl⟩
                rw [hu] at l0 hne
                clear hnm hu
                by_cases hkt : k = t
                · have h4 : (u.toList == (s ++ y.name).toList) = true := by rw [hne]; simpa using hkt
                  have HT := Lib.hid (show (((k : Int) = -1 ∧ k + 1 ≤ t) ∨ ((k : Int) = t ∧ t < k + 1)) from .inr ⟨by rw [hkt], by omega⟩)
                  clear hne htt hkt
                  go_wp2
                  go_quiet (fail)
                  go_wp2
                  go_roundw
                  case rel => exact ⟨k + 1, k, by go_num, rfl, hltk, HT.out, HLD.out.drewN _⟩
                  case measure => simp [intOf]; omega
                · have h4 : (u.toList == (s ++ y.name).toList) = false := by rw [hne]; simpa using hkt
                  have HT := Lib.hid (show ((tt = -1 ∧ k + 1 ≤ t) ∨ (tt = t ∧ t < k + 1)) from htt.out.imp (fun h => ⟨h.1, by omega⟩) (fun h => ⟨h.1, by omega⟩))
                  clear hne htt hkt
                  go_wp2
                  go_quiet (fail)
                  go_wp2
                  go_roundw
                  case rel => exact ⟨k + 1, tt, by go_num, rfl, hltk, HT.out, HLD.out.drewN _⟩
                  case measure => simp [intOf]; omega
              · have hge : ¬ ((k : Int) < (q : Int)) := by omega
                obtain rfl : tt = t := by rcases htt.out with h | h <;> omega
                clear htt
                have hneg : decide ((t : Int) < 0) = false := by simp
                have ht0 : (0 : Int) ≤ (t : Int) := by omega
                have ht1 : (t : Int) < (q : Int) := by omega
                go_upto_region 23 with fail
                have htl : t < (leftV S D).length := by rw [leftV_len]; exact ht
                obtain ⟨b, hb, -, -, l1⟩ := amt_at (own_rows HLD.out.own) t htl
                cases hb
                rw [add_new] at l1
                obtain ⟨g', cur, hg', -, hblk⟩ := own_blk HLD.out.own (HNE.out _)
                cases hg'
                have hfz : ∀ j, wp.frozen? ⟨g, j, none⟩ = false := fun j => frozen_of_row wp g j cur 36 hblk
                have hval : (leftV S D)[t].val = S[t].2 - totK S[t].1 D := by simp [leftV, amtOf]
                have HV := Lib.hid hval
                rw [← hval] at hlo hhi
                obtain ⟨u, hu⟩ : ∃ u, (leftV S D)[t].val = u := ⟨_, rfl⟩
                rw [hu] at l1 hlo hhi
                have HUU := Lib.hid hu
                clear hu hval hblk
                have hw1 : wrap64 (u - y.val) = u - y.val := wrap_in (by omega) (by omega)
                have hw2 : IntKind.i64.wrap (u - y.val) = u - y.val := by rw [IntKind.wrap_i64]; omega
                go_still_tail 15, (by kernel_rfl)
                have d1 : wp.drew.cell? ⟨g, t * 2 + 1, none⟩ = some (.int .i64 u) := l1
                have df : ∀ j, wp.drew.frozen? ⟨g, j, none⟩ = false := hfz
                change wpList _ _ _ _ _ wp.drew
                have HNX2 := Lib.hid (own_val5 (HLD.out.own.below (Below.refl _ _).drew) t htl (u - y.val))
                go_wp2
                go_roundw
                case rel =>
                  refine ⟨j + 1, by go_num, hltj, ?_, (HLD.out.below.drew).setCell hgb _⟩
                  have hstep := leftV_step HS.out.asc ht htl y.val (D := D)
                  rw [HK.out, ← HST.out] at hstep
                  rw [← hstep, HUU.out]
                  exact HNX2.out
                case measure => simp [intOf]; omega
        · have hge : ¬ ((j : Int) < (x.req.length : Int) + (x.lim.length : Int)) := by omega
          have HLB := Lib.hid hlb.out
          clear hlb
          go_wp2
          go_quiet (fail)
          go_wp2
          go_roundw
          case rel =>
            refine ⟨i + 1, by go_num, hlt, ?_⟩
            rw [HTK.out]
            have h2 := HLB.out
            rw [List.take_of_length_le (by rw [amtsOf_len]; omega)] at h2
            exact h2.drewN _
          case measure => simp [intOf]; omega
    · have hge : ¬ ((i : Int) < (o.parts.length : Int)) := by omega
      have HLF := Lib.hid hla.out
      rw [List.take_of_length_le (by omega)] at HLF
      clear hla
      go_wp2
      go_loopw [13] (fun mv wr => ∃ k : Nat, mv = .int .i64 k ∧ k ≤ q ∧ Hid (LeftAt w0.heap.size w0 wr (.slice (some ⟨g, 0, none⟩) q c1) S (allA o.parts))) (fun mv _ => q - (intOf mv).toNat)
      case atStart => exact ⟨0, rfl, Nat.zero_le _, HLF.out⟩
      case round =>
        obtain ⟨k, rfl, hkq, hld⟩ := hrel
        obtain ⟨wp, rfl⟩ : ∃ wp, wp = wr := ⟨_, rfl⟩
        have HLD := Lib.hid hld.out
        clear hld p5
        by_cases hltk : k < q
        · have hlt2 : (k : Int) < (q : Int) := by omega
          have hks : k < S.length := by rw [HQ.out]; exact hltk
          obtain ⟨b, hb, -, l0, l1⟩ := amt_at (own_rows HLD.out.own) k (by rw [leftV_len]; exact hks)
          cases hb
          have hnm : (leftV S (allA o.parts))[k]'(by rw [leftV_len]; exact hks) = amtOf (S[k].1, S[k].2 - totK S[k].1 (allA o.parts)) := by simp [leftV]
          rw [hnm, HS.out.last hks, add_new] at l0
          rw [hnm, HS.out.last hks, add_new] at l1
          clear hnm
          by_cases hc : S[k].1 = countK
          · rw [if_pos hc, hc] at l0 l1
            have l0' : wp.cell? ⟨g, k * 2, none⟩ = some (.string ⟨#[99, 111, 117, 110, 116]⟩) := l0
            have l1' : wp.cell? ⟨g, k * 2 + 1, none⟩ = some (.int .i64 1000) := l1
            clear l0 l1 hc
            go_wp2
            go_roundw
            case rel => exact ⟨k + 1, by go_num, hltk, HLD.out⟩
            case measure => simp [intOf]; omega
          · rw [if_neg hc] at l1
            have l1' : wp.cell? ⟨g, k * 2 + 1, none⟩ = some (.int .i64 0) := l1
            clear l0 l1 hc
            go_wp2
            go_roundw
            case rel => exact ⟨k + 1, by go_num, hltk, HLD.out⟩
            case measure => simp [intOf]; omega
        · have hge2 : ¬ ((k : Int) < (q : Int)) := by omega
          go_wp2
          go_ret
          exact ⟨rfl, HB0.out.trans (HLD.out.below.mono HB0.out.size)⟩
end Go.Proofs.Ytdchffghgajbfaa
