/- label.Split, label.Path, label.Under. -/
import Derived.Test.YtdchffghgajbfaaDoorA1
import Derived.Test.YtdchffghgajbfaaDoorP0
import Derived.Test.YtdchffghgajbfaaDoorK2
import Derived.Test.YtdchffghgajbfaaDoorShelf
namespace Go.Proofs.YtdchffghgajbfaaDoor
open Go.RowKit

/-- the library's own variable holds some int -/
def Ml (w : World) : Prop := ∃ m, w.cell? ⟨2, 0, none⟩ = some (.int .i64 m)
theorem Ml.below {w w' : World} (h : Ml w) (hb : Below w.heap.size w w') : Ml w' := let ⟨m, hc⟩ := h; ⟨m, (hb.cell (World.block_lt_of_cell? w _ hc)).trans hc⟩

theorem Ml.low {w : World} (h : Ml w) : 2 < w.heap.size := let ⟨_, hc⟩ := h; World.block_lt_of_cell? w _ hc
theorem Ml.belowB {w w' : World} {B : Nat} (h : Ml w) (hb : Below B w w') (hB : 2 < B) : Ml w' := let ⟨m, hc⟩ := h; ⟨m, (hb.cell (p := ⟨2, 0, none⟩) hB).trans hc⟩
theorem Ml.turn {w w' : World} {S : Nat → Prop} (h : Ml w) (hb : Turn S w w') (hS : ¬ S 2) : Ml w' := let ⟨m, hc⟩ := h; ⟨m, hb.cell hc hS⟩
def pathNames (s : ByteArray) : List ByteArray := ((pathL s.data.toList).getD []).map mkB
def SplitPost (s : ByteArray) (w : World) (e : Ending) (w' : World) : Prop :=
  ∃ v, e = .returned (.tuple #[v, .int .i64 (errPath s)]) ∧ Sl Kn.str (fun k => w.heap.size ≤ k) w' v (pathNames s) ∧ Below w.heap.size w w'

theorem split_no (s : ByteArray) (w w' : World) (h : pathL s.data.toList = none) (hb : Below w.heap.size w w') : SplitPost s w (.returned (.tuple #[.slice none 0 0, .int .i64 41])) w' :=
  ⟨_, by rw [show errPath s = 41 by simp [errPath, isPath, h]], by unfold pathNames; rw [h]; exact Sl.nil _ _ _, hb⟩
theorem split_yes (s : ByteArray) (w w' : World) (v : Value) (l : List (List UInt8)) (h : pathL s.data.toList = some l) (hs : Sl Kn.str (fun k => w.heap.size ≤ k) w' v (l.map mkB)) (hb : Below w.heap.size w w') : SplitPost s w (.returned (.tuple #[v, .int .i64 0])) w' :=
  ⟨_, by rw [show errPath s = 0 by simp [errPath, isPath, h]], by unfold pathNames; rw [h]; exact hs, hb⟩

theorem toList_eq (s : ByteArray) : s.toList = s.data.toList := Lib.toList_data s
set_option maxRecDepth 100000 in
theorem split_root (s : ByteArray) (w : World) (h : s.data.toList = [47]) : Calls Tryd.prog 63 #[.string s] w (SplitPost s w) := by
  have e1 : (s.toList == [47]) = true := by rw [toList_eq, h]; rfl
  have hfin := Lib.hid (split_yes s w w (.slice none 0 0) [] (by unfold pathL; rw [if_pos h]) (Sl.nil _ _ _) (Below.refl _ _))
  clear h
  go_enter Tryd.func63, Tryd.ntmps63
  go_wp2
  go_ret2
  exact hfin.out
set_option maxRecDepth 100000 in
theorem split_noslash (s : ByteArray) (w : World) (h0 : s.data.toList ≠ [47]) (h : Lib.hasPrefix s.data.toList [47] = false) : Calls Tryd.prog 63 #[.string s] w (SplitPost s w) := by
  have e1 : (s.toList == [47]) = false := by rw [toList_eq]; simpa using h0
  have hp : pathL s.data.toList = none := by
    unfold pathL; rw [if_neg h0, if_neg]
    rintro ⟨hh, _⟩
    match hl : s.data.toList with
    | [] => rw [hl] at hh; cases hh
    | b :: l => rw [hl] at hh h; injection hh with hh; subst hh; simp [Lib.hasPrefix, List.isPrefixOf] at h
  have hfin := Lib.hid (split_no s w w hp (Below.refl _ _))
  clear h0 hp
  go_enter Tryd.func63, Tryd.ntmps63
  go_wp2_with (go_at_call 75; refine (Tryd.strings_CutPrefix _ _ _).mono ?_; rintro e w' ⟨rfl, rfl⟩)
  go_ret2
  exact hfin.out

theorem splitB_slash (r : ByteArray) : Lib.splitB ⟨#[47]⟩ 0 (Lib.countB r ⟨#[47]⟩) r = (splitC 47 r.data.toList).map mkB := by
  have h := Lib.splitB_data ⟨#[47]⟩ 0 (Lib.countB r ⟨#[47]⟩) r
  have hc : Lib.countB r ⟨#[47]⟩ = r.data.toList.count 47 := count_one 47 r.data.toList
  have h2 : Lib.splitK [47] 0 (Lib.countB r ⟨#[47]⟩) r.data.toList = splitC 47 r.data.toList := splitK_one 47 _ _ (by rw [hc]; exact Nat.le_refl _)
  rw [show (⟨#[47]⟩ : ByteArray).data.toList = [47] from rfl, h2] at h
  rw [← h, List.map_map]
  conv => lhs; rw [← List.map_id (Lib.splitB ⟨#[47]⟩ 0 (Lib.countB r ⟨#[47]⟩) r)]
  exact List.map_congr_left fun x _ => (data_mkB x).symm
theorem flat_str (w : World) (P : Nat → Prop) (ss : List ByteArray) : Flat Kn.str P w ss (ss.map Value.string) := by
  refine ⟨by simp [Kn.str, Kn.scalar], fun i hi => ?_⟩
  show ((ss.map Value.string).drop (i * 1)).take 1 = [Value.string ss[i]]
  rw [Nat.mul_one, List.drop_eq_getElem_cons (by simpa using hi)]; simp
theorem strSplit_any (r : ByteArray) (w : World) (hm : Ml w) (hs : r.size < 4294967281) :
    Calls Tryd.prog 87 #[.string r, .string ⟨#[47]⟩] w fun e w' => e = .returned (.slice (some ⟨w.heap.size, 0, none⟩) (splitC 47 r.data.toList).length (splitC 47 r.data.toList).length) ∧
      Row Kn.str (fun k => w.heap.size ≤ k) w' (some ⟨w.heap.size, 0, none⟩) ((splitC 47 r.data.toList).map mkB) ∧ Below w.heap.size w w' := by
  obtain ⟨m, hm⟩ := hm
  refine (Tryd.strings_Split r ⟨#[47]⟩ m w hs hm (by decide)).mono ?_
  rintro e w' ⟨rfl, rfl⟩
  refine ⟨?_, fun _ => ⟨_, rfl, Nat.le_refl _, _, flat_str _ _ _, fun j u hu => ?_⟩, (Below.refl _ _).alloc (Nat.le_refl _) _⟩
  · rw [splitC_length, show Lib.countB r ⟨#[47]⟩ = r.data.toList.count 47 from count_one 47 r.data.toList]
  · rw [add_new, cell_of_row _ _ _ _ _ _ (heap_alloc_new w _), splitB_slash]; simpa using hu

theorem prefix_slash {l : List UInt8} (h : Lib.hasPrefix l [47] = true) : l.head? = some 47 ∧ Lib.trimPrefix l [47] = l.tail := by
  match l with
  | [] => simp [Lib.hasPrefix, List.isPrefixOf] at h
  | b :: l =>
    have hb : b = 47 := by
      simp [Lib.hasPrefix, List.isPrefixOf] at h
      exact h.symm
    subst hb
    exact ⟨rfl, by unfold Lib.trimPrefix; rw [if_pos h]; rfl⟩

set_option maxRecDepth 100000 in
theorem split_long (s : ByteArray) (w : World) (h0 : s.data.toList ≠ [47]) (h : Lib.hasPrefix s.data.toList [47] = true) (hl : 64 < s.size) : Calls Tryd.prog 63 #[.string s] w (SplitPost s w) := by
  have e1 : (s.toList == [47]) = false := by rw [toList_eq]; simpa using h0
  have hp : pathL s.data.toList = none := by
    unfold pathL; rw [if_neg h0, if_neg]
    rintro ⟨_, hh, _⟩
    rw [data_len] at hh; omega
  have hfin := Lib.hid (split_no s w w hp (Below.refl _ _))
  have e2 : decide ((s.size : Int) > 64) = true := by simp; omega
  clear h0 hp
  go_enter Tryd.func63, Tryd.ntmps63
  go_wp2_with (go_at_call 75; refine (Tryd.strings_CutPrefix _ _ _).mono ?_; rintro e w' ⟨rfl, rfl⟩)
  go_ret2
  exact hfin.out

theorem row_str_at {P : Nat → Prop} {w : World} {A : Option Addr} {ss : List ByteArray} (h : Row Kn.str P w A ss) (i : Nat) (hi : i < ss.length) : ∃ a, A = some a ∧ w.cell? (a.add i) = some (.string ss[i]) := by
  obtain ⟨a, cs, hA, _, hr, hc⟩ := h.at_ i hi
  refine ⟨a, hA, ?_⟩
  have := hc 0 (.string ss[i]) (by rw [show cs = [Value.string ss[i]] from hr]; rfl)
  simpa [Kn.str, Kn.scalar] using this

set_option maxRecDepth 100000 in
theorem split_main (s : ByteArray) (w : World) (hm : Ml w) (h0 : s.data.toList ≠ [47]) (h : Lib.hasPrefix s.data.toList [47] = true) (hl : s.size ≤ 64) : Calls Tryd.prog 63 #[.string s] w (SplitPost s w) := by
  have e1 : (s.toList == [47]) = false := by rw [toList_eq]; simpa using h0
  have e2 : decide ((s.size : Int) > 64) = false := by simp; omega
  obtain ⟨hhead, htrim⟩ := prefix_slash h
  obtain ⟨r, hr⟩ : ∃ r, (⟨(Lib.trimPrefix s.data.toList [47]).toArray⟩ : ByteArray) = r := ⟨_, rfl⟩
  have hrl : r.data.toList = s.data.toList.tail := by rw [← hr, htrim]
  have hrs : r.size ≤ 64 := by rw [← data_len r, hrl, List.length_tail, data_len]; omega
  have hpl : ∀ (A B : Prop) [Decidable A] [Decidable B], A = ((splitC 47 r.data.toList).length ≤ 8) → B = ((splitC 47 r.data.toList).all nameL = true) → pathL s.data.toList = if A then (if B then some (splitC 47 r.data.toList) else none) else none := by
    rintro A B _ _ rfl rfl
    unfold pathL
    rw [if_neg h0, ← hrl]
    by_cases c1 : (splitC 47 r.data.toList).length ≤ 8 <;> by_cases c2 : (splitC 47 r.data.toList).all nameL = true
    · rw [if_pos ⟨hhead, by rw [data_len]; exact hl, c1, c2⟩, if_pos c1, if_pos c2]
    · rw [if_neg (fun hh => c2 hh.2.2.2), if_pos c1, if_neg c2]
    · rw [if_neg (fun hh => c1 hh.2.2.1), if_neg c1]
    · rw [if_neg (fun hh => c1 hh.2.2.1), if_neg c1]
  have HPL := Lib.hid hpl
  have HR := Lib.hid hr
  clear hpl hr hhead htrim hrl
  by_cases hn : (splitC 47 r.data.toList).length ≤ 8
  · have e3 : decide (((splitC 47 r.data.toList).length : Int) > 8) = false := by simp; omega
    have hyes := Lib.hid (fun w' v (c2 : (splitC 47 r.data.toList).all nameL = true) hs hb => split_yes s w w' v (splitC 47 r.data.toList) (by rw [HPL.out _ _ rfl rfl, if_pos hn, if_pos c2]) hs hb)
    have hno := Lib.hid (fun w' (c2 : ¬ (splitC 47 r.data.toList).all nameL = true) hb => split_no s w w' (by rw [HPL.out _ _ rfl rfl, if_pos hn, if_neg c2]) hb)
    clear h0 HPL
    have hC := Lib.hid (fun w hm => strSplit_any r w hm (by omega))
    have hss : ((splitC 47 r.data.toList).map mkB).length = (splitC 47 r.data.toList).length := by simp
    generalize splitC 47 r.data.toList = ps at *
    have HSS := Lib.hid hss
    clear hss
    go_enter Tryd.func63, Tryd.ntmps63
    go_wp2_with (first
      | (go_at_call 75; refine (Tryd.strings_CutPrefix _ _ _).mono ?_; rintro e w' ⟨rfl, rfl⟩; rw [HR.out])
      | (go_at_call 87; refine (hC.out _ hm).mono ?_; rintro e w1 ⟨rfl, hrow, hb⟩; have HB := Lib.hid hb; clear hb))
    clear hC
    go_loopw [30] (fun i wr => ∃ k : Nat, i = .int .i64 k ∧ k ≤ ps.length ∧ Below w1.heap.size w1 wr ∧ (ps.take k).all nameL = true) (fun i _ => ps.length - (intOf i).toNat)
    case atStart => exact ⟨0, rfl, Nat.zero_le _, Below.refl _ _, rfl⟩
    case round =>
      obtain ⟨k, rfl, hk, hbr, hall⟩ := hrel
      by_cases hlt : k < ps.length
      · obtain ⟨a, ha, hcell⟩ := row_str_at (hrow.below hbr) k (by rw [HSS.out]; exact hlt)
        have hel : ((ps.map mkB)[k]'(by rw [HSS.out]; exact hlt)) = mkB ps[k] := by simp
        rw [hel] at hcell
        obtain rfl : (⟨w'.heap.size, 0, none⟩ : Addr) = a := by injection ha
        clear ha hel
        rw [add_new] at hcell
        have hnm : nameB (mkB ps[k]) = nameL ps[k] := by unfold nameB; rw [mkB_data]
        have hstep : (ps.take (k + 1)).all nameL = ((ps.take k).all nameL && nameL ps[k]) := by
          rw [List.take_succ_eq_append_getElem hlt, List.all_append]; simp
        cases hv : nameL ps[k]
        · have hfalse : ¬ ps.all nameL = true := by
            rw [List.all_eq_true]; intro h; have := h ps[k] (List.getElem_mem _); rw [hv] at this; cases this
          have HN := Lib.hid (hnm.trans hv)
          clear hnm hstep hv
          have HALL := Lib.hid hall
          clear hall
          go_wp2_with (go_at_call 85; refine (name_any _ _).mono ?_; rintro e w2 ⟨rfl, hb2⟩; rw [HN.out]; have HB2 := Lib.hid hb2; clear hb2)
          go_ret2
          exact hno.out _ hfalse ((HB.out.trans (hbr.mono HB.out.size)).trans (HB2.out.mono (Nat.le_trans HB.out.size hbr.size)))
        · have HN := Lib.hid (hnm.trans hv)
          have HST := Lib.hid (hstep.trans (by rw [hall, hv]))
          clear hnm hstep hv hall
          go_wp2_with (go_at_call 85; refine (name_any _ _).mono ?_; rintro e w2 ⟨rfl, hb2⟩; rw [HN.out]; have HB2 := Lib.hid hb2; clear hb2)
          go_roundw
          case rel => exact ⟨k + 1, by go_num, hlt, hbr.trans (HB2.out.mono hbr.size), HST.out⟩
          case measure => simp [intOf]; omega
      · have hall' : ps.all nameL = true := by rw [List.take_of_length_le (by omega)] at hall; exact hall
        clear hall
        go_wp2
        go_ret2
        exact hyes.out _ _ hall' ⟨_, _, by rw [HSS.out]; rfl, Nat.le_of_eq HSS.out, by unfold maxLen; omega, hrow.below hbr⟩ (HB.out.trans (hbr.mono HB.out.size))
  · have hp : pathL s.data.toList = none := by rw [HPL.out _ _ rfl rfl, if_neg hn]
    have hfin := Lib.hid (fun w' hb => split_no s w w' hp hb)
    have e3 : decide (((splitC 47 r.data.toList).length : Int) > 8) = true := by simp; omega
    clear h0 hp
    go_enter Tryd.func63, Tryd.ntmps63
    go_wp2_with (first
      | (go_at_call 75; refine (Tryd.strings_CutPrefix _ _ _).mono ?_; rintro e w' ⟨rfl, rfl⟩; rw [HR.out])
      | (go_at_call 87; refine (strSplit_any _ _ hm (by omega)).mono ?_; rintro e w1 ⟨rfl, hrow, hb⟩; have HB := Lib.hid hb; clear hb hrow))
    go_ret2
    exact hfin.out _ HB.out

theorem split_any (s : ByteArray) (w : World) (hm : Ml w) : Calls Tryd.prog 63 #[.string s] w (SplitPost s w) := by
  by_cases h0 : s.data.toList = [47]
  · exact split_root s w h0
  · cases h : Lib.hasPrefix s.data.toList [47]
    · exact split_noslash s w h0 h
    · by_cases hl : s.size ≤ 64
      · exact split_main s w hm h0 h hl
      · exact split_long s w h0 h (by omega)

theorem path_any (s : ByteArray) (w : World) (hm : Ml w) : Calls Tryd.prog 24 #[.string s] w fun e w' => e = .returned (.int .i64 (errPath s)) ∧ Below w.heap.size w w' := by
  go_enter Tryd.func24, Tryd.ntmps24
  go_wp2_with (go_at_call 63; refine (split_any _ _ hm).mono ?_; rintro e w' ⟨v, rfl, _, hb⟩)
  go_ret
  exact ⟨rfl, hb⟩

theorem errPath_cases (s : ByteArray) : (isPath s = true ∧ errPath s = 0) ∨ (isPath s = false ∧ errPath s = 41) := by
  unfold errPath; cases isPath s <;> simp

theorem isPath_size {s : ByteArray} (h : isPath s = true) : s.size ≤ 64 := by
  unfold isPath pathL at h
  rw [← data_len]
  split at h
  · rename_i e; rw [e]; simp
  · split at h
    · rename_i e; exact e.2.1
    · cases h
theorem concat_slash (t : ByteArray) : (t ++ ⟨#[47]⟩ : ByteArray).data.toList = t.data.toList ++ [47] := by simp

set_option maxRecDepth 100000 in
theorem under_any (p t : ByteArray) (w : World) (hm : Ml w) : Calls Tryd.prog 25 #[.string p, .string t] w fun e w' => e = .returned (.bool (underB p t)) ∧ Below w.heap.size w w' := by
  rcases errPath_cases p with ⟨hp, ep⟩ | ⟨hp, ep⟩
  · rcases errPath_cases t with ⟨ht, et⟩ | ⟨ht, et⟩
    · have HP := Lib.hid ep
      have HT := Lib.hid et
      clear ep et
      have hu : ∀ (a b c : Bool), a = decide (t.data.toList = [47]) → b = decide (p = t) → c = (t.data.toList ++ [47]).isPrefixOf p.data.toList → underB p t = (a || b || c) := by
        rintro a b c rfl rfl rfl
        unfold underB; rw [hp, ht]; simp
      have HU := Lib.hid hu
      have ht0 := ht
      clear hu hp ht
      by_cases h1 : t.data.toList = [47]
      · have e1 : (t.toList == [47]) = true := by rw [toList_eq, h1]; rfl
        have hb := Lib.hid (HU.out true _ _ (by simp [h1]) rfl rfl)
        clear h1
        go_enter Tryd.func25, Tryd.ntmps25
        go_wp2_with (first
          | (go_at_call_of 24 p; refine (path_any _ _ hm).mono ?_; rintro e w1 ⟨rfl, hb1⟩; have hm1 := hm.below hb1; rw [HP.out]; have HB1 := Lib.hid hb1; clear hb1)
          | (go_at_call_of 24 t; refine (path_any _ _ hm1).mono ?_; rintro e w2 ⟨rfl, hb2⟩; rw [HT.out]; have HB2 := Lib.hid hb2; clear hb2))
        go_ret
        exact ⟨by rw [hb.out]; rfl, HB1.out.trans (HB2.out.mono HB1.out.size)⟩
      · have e1 : (t.toList == [47]) = false := by rw [toList_eq]; simpa using h1
        by_cases h2 : p = t
        · have e2 : (p.toList == t.toList) = true := by rw [h2]; simp
          have hb := Lib.hid (HU.out _ true _ rfl (by simp [h2]) rfl)
          clear h1 h2
          go_enter Tryd.func25, Tryd.ntmps25
          go_wp2_with (first
            | (go_at_call_of 24 p; refine (path_any _ _ hm).mono ?_; rintro e w1 ⟨rfl, hb1⟩; have hm1 := hm.below hb1; rw [HP.out]; have HB1 := Lib.hid hb1; clear hb1)
            | (go_at_call_of 24 t; refine (path_any _ _ hm1).mono ?_; rintro e w2 ⟨rfl, hb2⟩; rw [HT.out]; have HB2 := Lib.hid hb2; clear hb2))
          go_ret
          exact ⟨by rw [hb.out]; simp, HB1.out.trans (HB2.out.mono HB1.out.size)⟩
        · have e2 : (p.toList == t.toList) = false := by
            rw [toList_eq, toList_eq, beq_eq_false_iff_ne]; exact fun e => h2 (bytes_inj e)
          have hb := Lib.hid (HU.out false false _ (by simp [h1]) (by simp [h2]) rfl)
          have hcc := Lib.hid (concat_slash t)
          have hts : t.size + 1 ≤ 9223372036854775807 := by have := isPath_size ht0; omega
          clear h1 h2
          go_enter Tryd.func25, Tryd.ntmps25
          go_wp2_with (first
            | (go_at_call_of 24 p; refine (path_any _ _ hm).mono ?_; rintro e w1 ⟨rfl, hb1⟩; have hm1 := hm.below hb1; rw [HP.out]; have HB1 := Lib.hid hb1; clear hb1)
            | (go_at_call_of 24 t; refine (path_any _ _ hm1).mono ?_; rintro e w2 ⟨rfl, hb2⟩; rw [HT.out]; have HB2 := Lib.hid hb2; clear hb2)
            | (go_at_call 64; refine (Tryd.strings_HasPrefix _ _ _).mono ?_; rintro e w3 ⟨rfl, rfl⟩; rw [hcc.out]))
          go_ret
          exact ⟨by rw [hb.out]; rfl, HB1.out.trans (HB2.out.mono HB1.out.size)⟩
    · have HP := Lib.hid ep
      have HT := Lib.hid et
      have hb := Lib.hid (show underB p t = false by unfold underB; rw [ht]; simp)
      clear ep et hp ht
      go_enter Tryd.func25, Tryd.ntmps25
      go_wp2_with (first
        | (go_at_call_of 24 p; refine (path_any _ _ hm).mono ?_; rintro e w1 ⟨rfl, hb1⟩; have hm1 := hm.below hb1; rw [HP.out]; have HB1 := Lib.hid hb1; clear hb1)
        | (go_at_call_of 24 t; refine (path_any _ _ hm1).mono ?_; rintro e w2 ⟨rfl, hb2⟩; rw [HT.out]; have HB2 := Lib.hid hb2; clear hb2))
      go_ret
      exact ⟨by rw [hb.out]; rfl, HB1.out.trans (HB2.out.mono HB1.out.size)⟩
  · have HP := Lib.hid ep
    have hb := Lib.hid (show underB p t = false by unfold underB; rw [hp]; simp)
    clear ep hp
    go_enter Tryd.func25, Tryd.ntmps25
    go_wp2_with (first
      | (go_at_call_of 24 p; refine (path_any _ _ hm).mono ?_; rintro e w1 ⟨rfl, hb1⟩; have hm1 := hm.below hb1; rw [HP.out]; have HB1 := Lib.hid hb1; clear hb1))
    go_ret
    exact ⟨by rw [hb.out]; rfl, HB1.out⟩
end Go.Proofs.YtdchffghgajbfaaDoor
