/- Laid together: A2 E S1 G0 G1 N1 N2 N3 N4 N5. -/
import Derived.Test.YtalkdddeiebfmaaGreatDoorBA
import Derived.Test.YtalkdddeiebfmaaGreatDoorShelf
import Derived.Test.YtalkdddeiebfmaaGreatDoorProg
import Derived.KernelRfl
import Derived.Deep.DeepFit
import Derived.Maps.OwnSet
import Derived.Sort.KeysCollected
import Derived.Laws.StructEq
/- label.Split, label.Path, label.Under. -/
namespace Go.Proofs.YtalkdddeiebfmaaGreatDoor
open Go.RowKit

/-- the library's own variable holds some int -/
def Ml (w : World) : Prop := ∃ m, w.cell? ⟨1, 0, none⟩ = some (.int .i64 m)
theorem Ml.below {w w' : World} (h : Ml w) (hb : Below w.heap.size w w') : Ml w' := let ⟨m, hc⟩ := h; ⟨m, (hb.cell (World.block_lt_of_cell? w _ hc)).trans hc⟩

theorem Ml.low {w : World} (h : Ml w) : 1 < w.heap.size := let ⟨_, hc⟩ := h; World.block_lt_of_cell? w _ hc
theorem Ml.belowB {w w' : World} {B : Nat} (h : Ml w) (hb : Below B w w') (hB : 1 < B) : Ml w' := let ⟨m, hc⟩ := h; ⟨m, (hb.cell (p := ⟨1, 0, none⟩) hB).trans hc⟩
theorem Ml.turn {w w' : World} {S : Nat → Prop} (h : Ml w) (hb : Turn S w w') (hS : ¬ S 1) : Ml w' := let ⟨m, hc⟩ := h; ⟨m, hb.cell hc hS⟩
def pathNames (s : ByteArray) : List ByteArray := ((pathL s.data.toList).getD []).map mkB
def SplitPost (s : ByteArray) (w : World) (e : Ending) (w' : World) : Prop :=
  ∃ v, e = .returned (.tuple #[v, .int .i64 (errPath s)]) ∧ Sl Kn.str (fun k => w.heap.size ≤ k) w' v (pathNames s) ∧ Below w.heap.size w w'

theorem split_no (s : ByteArray) (w w' : World) (h : pathL s.data.toList = none) (hb : Below w.heap.size w w') : SplitPost s w (.returned (.tuple #[.slice none 0 0, .int .i64 41])) w' :=
  ⟨_, by rw [show errPath s = 41 by simp [errPath, isPath, h]], by unfold pathNames; rw [h]; exact Sl.nil _ _ _, hb⟩
theorem split_yes (s : ByteArray) (w w' : World) (v : Value) (l : List (List UInt8)) (h : pathL s.data.toList = some l) (hs : Sl Kn.str (fun k => w.heap.size ≤ k) w' v (l.map mkB)) (hb : Below w.heap.size w w') : SplitPost s w (.returned (.tuple #[v, .int .i64 0])) w' :=
  ⟨_, by rw [show errPath s = 0 by simp [errPath, isPath, h]], by unfold pathNames; rw [h]; exact hs, hb⟩

theorem toList_eq (s : ByteArray) : s.toList = s.data.toList := Lib.toList_data s
set_option maxRecDepth 100000 in
theorem split_root (s : ByteArray) (w : World) (h : s.data.toList = [47]) : Calls Tryz.prog 71 #[.string s] w (SplitPost s w) := by
  have e1 : (s.toList == [47]) = true := by rw [toList_eq, h]; rfl
  have hfin := Lib.hid (split_yes s w w (.slice none 0 0) [] (by unfold pathL; rw [if_pos h]) (Sl.nil _ _ _) (Below.refl _ _))
  clear h
  go_enter Tryz.func71, Tryz.ntmps71
  go_wp2
  go_ret2
  exact hfin.out
set_option maxRecDepth 100000 in
theorem split_noslash (s : ByteArray) (w : World) (h0 : s.data.toList ≠ [47]) (h : Lib.hasPrefix s.data.toList [47] = false) : Calls Tryz.prog 71 #[.string s] w (SplitPost s w) := by
  have e1 : (s.toList == [47]) = false := by rw [toList_eq]; simpa using h0
  have hp : pathL s.data.toList = none := by
    unfold pathL; rw [if_neg h0, if_neg]
    rintro ⟨hh, _⟩
    match hl : s.data.toList with
    | [] => rw [hl] at hh; cases hh
    | b :: l => rw [hl] at hh h; injection hh with hh; subst hh; simp [Lib.hasPrefix, List.isPrefixOf] at h
  have hfin := Lib.hid (split_no s w w hp (Below.refl _ _))
  clear h0 hp
  go_enter Tryz.func71, Tryz.ntmps71
  go_wp2_with (go_at_call 108; refine (Tryz.strings_CutPrefix _ _ _).mono ?_; rintro e w' ⟨rfl, rfl⟩)
  go_ret2
  exact hfin.out

theorem splitB_slash (r : ByteArray) : Lib.splitB ⟨#[47]⟩ 0 (Lib.countB r ⟨#[47]⟩) r = (splitC 47 r.data.toList).map mkB := by
  have h := Lib.splitB_data ⟨#[47]⟩ 0 (Lib.countB r ⟨#[47]⟩) r
  have hc : Lib.countB r ⟨#[47]⟩ = r.data.toList.count 47 := count_one 47 r.data.toList
  have h2 : Lib.splitK [47] 0 (Lib.countB r ⟨#[47]⟩) r.data.toList = splitC 47 r.data.toList := splitK_one 47 _ _ (by rw [hc]; exact Nat.le_refl _)
  rw [show (⟨#[47]⟩ : ByteArray).data.toList = [47] from rfl, h2] at h
  rw [← h, List.map_map]
  conv => lhs; rw [← List.map_id (Lib.splitB ⟨#[47]⟩ 0 (Lib.countB r ⟨#[47]⟩) r)]
  exact List.map_congr_left fun x _ => (data_mkB x).symm
theorem flat_str (w : World) (P : Nat → Prop) (ss : List ByteArray) : Flat Kn.str P w ss (ss.map Value.string) := by
  refine ⟨by simp [Kn.str, Kn.scalar], fun i hi => ?_⟩
  show ((ss.map Value.string).drop (i * 1)).take 1 = [Value.string ss[i]]
  rw [Nat.mul_one, List.drop_eq_getElem_cons (by simpa using hi)]; simp
theorem strSplit_any (r : ByteArray) (w : World) (hm : Ml w) (hs : r.size < 4294967281) :
    Calls Tryz.prog 109 #[.string r, .string ⟨#[47]⟩] w fun e w' => e = .returned (.slice (some ⟨w.heap.size, 0, none⟩) (splitC 47 r.data.toList).length (splitC 47 r.data.toList).length) ∧
      Row Kn.str (fun k => w.heap.size ≤ k) w' (some ⟨w.heap.size, 0, none⟩) ((splitC 47 r.data.toList).map mkB) ∧ Below w.heap.size w w' := by
  obtain ⟨m, hm⟩ := hm
  refine (Tryz.strings_Split r ⟨#[47]⟩ m w hs hm (by decide)).mono ?_
  rintro e w' ⟨rfl, rfl⟩
  refine ⟨?_, fun _ => ⟨_, rfl, Nat.le_refl _, _, flat_str _ _ _, fun j u hu => ?_⟩, (Below.refl _ _).alloc (Nat.le_refl _) _⟩
  · rw [splitC_length, show Lib.countB r ⟨#[47]⟩ = r.data.toList.count 47 from count_one 47 r.data.toList]
  · rw [add_new, cell_of_row _ _ _ _ _ _ (heap_alloc_new w _), splitB_slash]; simpa using hu

theorem prefix_slash {l : List UInt8} (h : Lib.hasPrefix l [47] = true) : l.head? = some 47 ∧ Lib.trimPrefix l [47] = l.tail := by
  match l with
  | [] => simp [Lib.hasPrefix, List.isPrefixOf] at h
  | b :: l =>
    have hb : b = 47 := by
      simp [Lib.hasPrefix, List.isPrefixOf] at h
      exact h.symm
    subst hb
    exact ⟨rfl, by unfold Lib.trimPrefix; rw [if_pos h]; rfl⟩

set_option maxRecDepth 100000 in
theorem split_long (s : ByteArray) (w : World) (h0 : s.data.toList ≠ [47]) (h : Lib.hasPrefix s.data.toList [47] = true) (hl : 64 < s.size) : Calls Tryz.prog 71 #[.string s] w (SplitPost s w) := by
  have e1 : (s.toList == [47]) = false := by rw [toList_eq]; simpa using h0
  have hp : pathL s.data.toList = none := by
    unfold pathL; rw [if_neg h0, if_neg]
    rintro ⟨_, hh, _⟩
    rw [data_len] at hh; omega
  have hfin := Lib.hid (split_no s w w hp (Below.refl _ _))
  have e2 : decide ((s.size : Int) > 64) = true := by simp; omega
  clear h0 hp
  go_enter Tryz.func71, Tryz.ntmps71
  go_wp2_with (go_at_call 108; refine (Tryz.strings_CutPrefix _ _ _).mono ?_; rintro e w' ⟨rfl, rfl⟩)
  go_ret2
  exact hfin.out

theorem row_str_at {P : Nat → Prop} {w : World} {A : Option Addr} {ss : List ByteArray} (h : Row Kn.str P w A ss) (i : Nat) (hi : i < ss.length) : ∃ a, A = some a ∧ w.cell? (a.add i) = some (.string ss[i]) := by
  obtain ⟨a, cs, hA, _, hr, hc⟩ := h.at_ i hi
  refine ⟨a, hA, ?_⟩
  have := hc 0 (.string ss[i]) (by rw [show cs = [Value.string ss[i]] from hr]; rfl)
  simpa [Kn.str, Kn.scalar] using this

set_option maxRecDepth 100000 in
theorem split_main (s : ByteArray) (w : World) (hm : Ml w) (h0 : s.data.toList ≠ [47]) (h : Lib.hasPrefix s.data.toList [47] = true) (hl : s.size ≤ 64) : Calls Tryz.prog 71 #[.string s] w (SplitPost s w) := by
  have e1 : (s.toList == [47]) = false := by rw [toList_eq]; simpa using h0
  have e2 : decide ((s.size : Int) > 64) = false := by simp; omega
  obtain ⟨hhead, htrim⟩ := prefix_slash h
  obtain ⟨r, hr⟩ : ∃ r, (⟨(Lib.trimPrefix s.data.toList [47]).toArray⟩ : ByteArray) = r := ⟨_, rfl⟩
  have hrl : r.data.toList = s.data.toList.tail := by rw [← hr, htrim]
  have hrs : r.size ≤ 64 := by rw [← data_len r, hrl, List.length_tail, data_len]; omega
  have hpl : ∀ (A B : Prop) [Decidable A] [Decidable B], A = ((splitC 47 r.data.toList).length ≤ 8) → B = ((splitC 47 r.data.toList).all nameL = true) → pathL s.data.toList = if A then (if B then some (splitC 47 r.data.toList) else none) else none := by
    rintro A B _ _ rfl rfl
    unfold pathL
    rw [if_neg h0, ← hrl]
    by_cases c1 : (splitC 47 r.data.toList).length ≤ 8 <;> by_cases c2 : (splitC 47 r.data.toList).all nameL = true
    · rw [if_pos ⟨hhead, by rw [data_len]; exact hl, c1, c2⟩, if_pos c1, if_pos c2]
    · rw [if_neg (fun hh => c2 hh.2.2.2), if_pos c1, if_neg c2]
    · rw [if_neg (fun hh => c1 hh.2.2.1), if_neg c1]
    · rw [if_neg (fun hh => c1 hh.2.2.1), if_neg c1]
  have HPL := Lib.hid hpl
  have HR := Lib.hid hr
  clear hpl hr hhead htrim hrl
  by_cases hn : (splitC 47 r.data.toList).length ≤ 8
  · have e3 : decide (((splitC 47 r.data.toList).length : Int) > 8) = false := by simp; omega
    have hyes := Lib.hid (fun w' v (c2 : (splitC 47 r.data.toList).all nameL = true) hs hb => split_yes s w w' v (splitC 47 r.data.toList) (by rw [HPL.out _ _ rfl rfl, if_pos hn, if_pos c2]) hs hb)
    have hno := Lib.hid (fun w' (c2 : ¬ (splitC 47 r.data.toList).all nameL = true) hb => split_no s w w' (by rw [HPL.out _ _ rfl rfl, if_pos hn, if_neg c2]) hb)
    clear h0 HPL
    have hC := Lib.hid (fun w hm => strSplit_any r w hm (by omega))
    have hss : ((splitC 47 r.data.toList).map mkB).length = (splitC 47 r.data.toList).length := by simp
    generalize splitC 47 r.data.toList = ps at *
    have HSS := Lib.hid hss
    clear hss
    go_enter Tryz.func71, Tryz.ntmps71
    go_wp2_with (first
      | (go_at_call 108; refine (Tryz.strings_CutPrefix _ _ _).mono ?_; rintro e w' ⟨rfl, rfl⟩; rw [HR.out])
      | (go_at_call 109; refine (hC.out _ hm).mono ?_; rintro e w1 ⟨rfl, hrow, hb⟩; have HB := Lib.hid hb; clear hb))
    clear hC
    go_loopw [30] (fun i wr => ∃ k : Nat, i = .int .i64 k ∧ k ≤ ps.length ∧ Below w1.heap.size w1 wr ∧ (ps.take k).all nameL = true) (fun i _ => ps.length - (intOf i).toNat)
    case atStart => exact ⟨0, rfl, Nat.zero_le _, Below.refl _ _, rfl⟩
    case round =>
      obtain ⟨k, rfl, hk, hbr, hall⟩ := hrel
      by_cases hlt : k < ps.length
      · obtain ⟨a, ha, hcell⟩ := row_str_at (hrow.below hbr) k (by rw [HSS.out]; exact hlt)
        have hel : ((ps.map mkB)[k]'(by rw [HSS.out]; exact hlt)) = mkB ps[k] := by simp
        rw [hel] at hcell
        obtain rfl : (⟨w'.heap.size, 0, none⟩ : Addr) = a := by injection ha
        clear ha hel
        rw [add_new] at hcell
        have hnm : nameB (mkB ps[k]) = nameL ps[k] := by unfold nameB; rw [mkB_data]
        have hstep : (ps.take (k + 1)).all nameL = ((ps.take k).all nameL && nameL ps[k]) := by
          rw [List.take_succ_eq_append_getElem hlt, List.all_append]; simp
        cases hv : nameL ps[k]
        · have hfalse : ¬ ps.all nameL = true := by
            rw [List.all_eq_true]; intro h; have := h ps[k] (List.getElem_mem _); rw [hv] at this; cases this
          have HN := Lib.hid (hnm.trans hv)
          clear hnm hstep hv
          have HALL := Lib.hid hall
          clear hall
          go_wp2_with (go_at_call 110; refine (name_any _ _).mono ?_; rintro e w2 ⟨rfl, hb2⟩; rw [HN.out]; have HB2 := Lib.hid hb2; clear hb2)
          go_ret2
          exact hno.out _ hfalse ((HB.out.trans (hbr.mono HB.out.size)).trans (HB2.out.mono (Nat.le_trans HB.out.size hbr.size)))
        · have HN := Lib.hid (hnm.trans hv)
          have HST := Lib.hid (hstep.trans (by rw [hall, hv]))
          clear hnm hstep hv hall
          go_wp2_with (go_at_call 110; refine (name_any _ _).mono ?_; rintro e w2 ⟨rfl, hb2⟩; rw [HN.out]; have HB2 := Lib.hid hb2; clear hb2)
          go_roundw
          case rel => exact ⟨k + 1, by go_num, hlt, hbr.trans (HB2.out.mono hbr.size), HST.out⟩
          case measure => simp [intOf]; omega
      · have hall' : ps.all nameL = true := by rw [List.take_of_length_le (by omega)] at hall; exact hall
        clear hall
        go_wp2
        go_ret2
        exact hyes.out _ _ hall' ⟨_, _, by rw [HSS.out]; rfl, Nat.le_of_eq HSS.out, by unfold maxLen; omega, hrow.below hbr⟩ (HB.out.trans (hbr.mono HB.out.size))
  · have hp : pathL s.data.toList = none := by rw [HPL.out _ _ rfl rfl, if_neg hn]
    have hfin := Lib.hid (fun w' hb => split_no s w w' hp hb)
    have e3 : decide (((splitC 47 r.data.toList).length : Int) > 8) = true := by simp; omega
    clear h0 hp
    go_enter Tryz.func71, Tryz.ntmps71
    go_wp2_with (first
      | (go_at_call 108; refine (Tryz.strings_CutPrefix _ _ _).mono ?_; rintro e w' ⟨rfl, rfl⟩; rw [HR.out])
      | (go_at_call 109; refine (strSplit_any _ _ hm (by omega)).mono ?_; rintro e w1 ⟨rfl, hrow, hb⟩; have HB := Lib.hid hb; clear hb hrow))
    go_ret2
    exact hfin.out _ HB.out

theorem split_any (s : ByteArray) (w : World) (hm : Ml w) : Calls Tryz.prog 71 #[.string s] w (SplitPost s w) := by
  by_cases h0 : s.data.toList = [47]
  · exact split_root s w h0
  · cases h : Lib.hasPrefix s.data.toList [47]
    · exact split_noslash s w h0 h
    · by_cases hl : s.size ≤ 64
      · exact split_main s w hm h0 h hl
      · exact split_long s w h0 h (by omega)

theorem path_any (s : ByteArray) (w : World) (hm : Ml w) : Calls Tryz.prog 56 #[.string s] w fun e w' => e = .returned (.int .i64 (errPath s)) ∧ Below w.heap.size w w' := by
  go_enter Tryz.func56, Tryz.ntmps56
  go_wp2_with (go_at_call 71; refine (split_any _ _ hm).mono ?_; rintro e w' ⟨v, rfl, _, hb⟩)
  go_ret
  exact ⟨rfl, hb⟩

theorem errPath_cases (s : ByteArray) : (isPath s = true ∧ errPath s = 0) ∨ (isPath s = false ∧ errPath s = 41) := by
  unfold errPath; cases isPath s <;> simp

theorem isPath_size {s : ByteArray} (h : isPath s = true) : s.size ≤ 64 := by
  unfold isPath pathL at h
  rw [← data_len]
  split at h
  · rename_i e; rw [e]; simp
  · split at h
    · rename_i e; exact e.2.1
    · cases h
theorem concat_slash (t : ByteArray) : (t ++ ⟨#[47]⟩ : ByteArray).data.toList = t.data.toList ++ [47] := by simp

set_option maxRecDepth 100000 in
theorem under_any (p t : ByteArray) (w : World) (hm : Ml w) : Calls Tryz.prog 55 #[.string p, .string t] w fun e w' => e = .returned (.bool (underB p t)) ∧ Below w.heap.size w w' := by
  rcases errPath_cases p with ⟨hp, ep⟩ | ⟨hp, ep⟩
  · rcases errPath_cases t with ⟨ht, et⟩ | ⟨ht, et⟩
    · have HP := Lib.hid ep
      have HT := Lib.hid et
      clear ep et
      have hu : ∀ (a b c : Bool), a = decide (t.data.toList = [47]) → b = decide (p = t) → c = (t.data.toList ++ [47]).isPrefixOf p.data.toList → underB p t = (a || b || c) := by
        rintro a b c rfl rfl rfl
        unfold underB; rw [hp, ht]; simp
      have HU := Lib.hid hu
      have ht0 := ht
      clear hu hp ht
      by_cases h1 : t.data.toList = [47]
      · have e1 : (t.toList == [47]) = true := by rw [toList_eq, h1]; rfl
        have hb := Lib.hid (HU.out true _ _ (by simp [h1]) rfl rfl)
        clear h1
        go_enter Tryz.func55, Tryz.ntmps55
        go_wp2_with (first
          | (go_at_call_of 56 p; refine (path_any _ _ hm).mono ?_; rintro e w1 ⟨rfl, hb1⟩; have hm1 := hm.below hb1; rw [HP.out]; have HB1 := Lib.hid hb1; clear hb1)
          | (go_at_call_of 56 t; refine (path_any _ _ hm1).mono ?_; rintro e w2 ⟨rfl, hb2⟩; rw [HT.out]; have HB2 := Lib.hid hb2; clear hb2))
        go_ret
        exact ⟨by rw [hb.out]; rfl, HB1.out.trans (HB2.out.mono HB1.out.size)⟩
      · have e1 : (t.toList == [47]) = false := by rw [toList_eq]; simpa using h1
        by_cases h2 : p = t
        · have e2 : (p.toList == t.toList) = true := by rw [h2]; simp
          have hb := Lib.hid (HU.out _ true _ rfl (by simp [h2]) rfl)
          clear h1 h2
          go_enter Tryz.func55, Tryz.ntmps55
          go_wp2_with (first
            | (go_at_call_of 56 p; refine (path_any _ _ hm).mono ?_; rintro e w1 ⟨rfl, hb1⟩; have hm1 := hm.below hb1; rw [HP.out]; have HB1 := Lib.hid hb1; clear hb1)
            | (go_at_call_of 56 t; refine (path_any _ _ hm1).mono ?_; rintro e w2 ⟨rfl, hb2⟩; rw [HT.out]; have HB2 := Lib.hid hb2; clear hb2))
          go_ret
          exact ⟨by rw [hb.out]; simp, HB1.out.trans (HB2.out.mono HB1.out.size)⟩
        · have e2 : (p.toList == t.toList) = false := by
            rw [toList_eq, toList_eq, beq_eq_false_iff_ne]; exact fun e => h2 (bytes_inj e)
          have hb := Lib.hid (HU.out false false _ (by simp [h1]) (by simp [h2]) rfl)
          have hcc := Lib.hid (concat_slash t)
          have hts : t.size + 1 ≤ 9223372036854775807 := by have := isPath_size ht0; omega
          clear h1 h2
          go_enter Tryz.func55, Tryz.ntmps55
          go_wp2_with (first
            | (go_at_call_of 56 p; refine (path_any _ _ hm).mono ?_; rintro e w1 ⟨rfl, hb1⟩; have hm1 := hm.below hb1; rw [HP.out]; have HB1 := Lib.hid hb1; clear hb1)
            | (go_at_call_of 56 t; refine (path_any _ _ hm1).mono ?_; rintro e w2 ⟨rfl, hb2⟩; rw [HT.out]; have HB2 := Lib.hid hb2; clear hb2)
            | (go_at_call 81; refine (Tryz.strings_HasPrefix _ _ _).mono ?_; rintro e w3 ⟨rfl, rfl⟩; rw [hcc.out]))
          go_ret
          exact ⟨by rw [hb.out]; rfl, HB1.out.trans (HB2.out.mono HB1.out.size)⟩
    · have HP := Lib.hid ep
      have HT := Lib.hid et
      have hb := Lib.hid (show underB p t = false by unfold underB; rw [ht]; simp)
      clear ep et hp ht
      go_enter Tryz.func55, Tryz.ntmps55
      go_wp2_with (first
        | (go_at_call_of 56 p; refine (path_any _ _ hm).mono ?_; rintro e w1 ⟨rfl, hb1⟩; have hm1 := hm.below hb1; rw [HP.out]; have HB1 := Lib.hid hb1; clear hb1)
        | (go_at_call_of 56 t; refine (path_any _ _ hm1).mono ?_; rintro e w2 ⟨rfl, hb2⟩; rw [HT.out]; have HB2 := Lib.hid hb2; clear hb2))
      go_ret
      exact ⟨by rw [hb.out]; rfl, HB1.out.trans (HB2.out.mono HB1.out.size)⟩
  · have HP := Lib.hid ep
    have hb := Lib.hid (show underB p t = false by unfold underB; rw [hp]; simp)
    clear ep hp
    go_enter Tryz.func55, Tryz.ntmps55
    go_wp2_with (first
      | (go_at_call_of 56 p; refine (path_any _ _ hm).mono ?_; rintro e w1 ⟨rfl, hb1⟩; have hm1 := hm.below hb1; rw [HP.out]; have HB1 := Lib.hid hb1; clear hb1))
    go_ret
    exact ⟨by rw [hb.out]; rfl, HB1.out⟩
end Go.Proofs.YtalkdddeiebfmaaGreatDoor
/- Events: as they lie in memory; what a hub does to them, in plain words. -/
namespace Go.Proofs.YtalkdddeiebfmaaGreatDoor
open Go.RowKit

structure Ev where
  ver : Int
  kind : Int
  gone : Bool
  path : ByteArray
  name : ByteArray
def Ev.cells (e : Ev) : List Value := [.int .i64 e.ver, .int .i64 e.kind, .bool e.gone, .string e.path, .string e.name]
def kEvent : Kn Ev := Kn.enc Ev.cells 5 (by omega) (fun _ => rfl) (fun x u hu => by simp [Ev.cells] at hu; rcases hu with rfl | rfl | rfl | rfl | rfl <;> rfl)
theorem kEvent_plain : kEvent.Plain := Kn.plain_enc
theorem kEvent_sz : kEvent.sz = 5 := rfl
/-- element i's five cells, as the walk spells them -/
structure EvAt (w : World) (a : Addr) (e : Ev) : Prop where
  c0 : w.cell? a = some (.int .i64 e.ver)
  c1 : w.cell? ⟨a.block, a.off + 1, none⟩ = some (.int .i64 e.kind)
  c2 : w.cell? ⟨a.block, a.off + 2, none⟩ = some (.bool e.gone)
  c3 : w.cell? ⟨a.block, a.off + 3, none⟩ = some (.string e.path)
  c4 : w.cell? ⟨a.block, a.off + 4, none⟩ = some (.string e.name)
theorem ev_at {P : Nat → Prop} {w : World} {A : Option Addr} {xs : List Ev} (h : Row kEvent P w A xs) (i : Nat) (hi : i < xs.length) : ∃ a, A = some a ∧ P a.block ∧ EvAt w (a.add (i * 5)) xs[i] := by
  obtain ⟨a, cs, hA, hP, hr, hc⟩ := h.at_ i hi
  obtain rfl : cs = xs[i].cells := hr
  exact ⟨a, hA, hP, hc 0 _ rfl, by rw [← add_off _ _ 1 (by omega)]; exact hc 1 _ rfl, by rw [← add_off _ _ 2 (by omega)]; exact hc 2 _ rfl, by rw [← add_off _ _ 3 (by omega)]; exact hc 3 _ rfl, by rw [← add_off _ _ 4 (by omega)]; exact hc 4 _ rfl⟩
end Go.Proofs.YtalkdddeiebfmaaGreatDoor
/- slices.Clone, slices.IndexFunc, slices.DeleteFunc at events; the closure of Since. -/
namespace Go.Proofs.YtalkdddeiebfmaaGreatDoor
open Go.RowKit

/-- the first place at which a predicate holds, -1 where there is none -/
def idxFn {α : Type} (p : α → Bool) (xs : List α) : Int := match xs.findIdx? p with
  | some i => i
  | none => -1
theorem idxFn_some {α : Type} {p : α → Bool} {xs : List α} {k : Nat} (hk : k < xs.length) (h : ∀ x ∈ xs.take k, p x = false) (hp : p xs[k] = true) : idxFn p xs = k := by
  unfold idxFn
  have : xs.findIdx? p = some k := by
    rw [List.findIdx?_eq_some_iff_getElem]
    refine ⟨hk, hp, fun j hj => ?_⟩
    have := h xs[j] (by rw [List.mem_take_iff_getElem]; exact ⟨j, by omega, rfl⟩)
    simp [this]
  rw [this]
theorem idxFn_none {α : Type} {p : α → Bool} {xs : List α} (h : ∀ x ∈ xs, p x = false) : idxFn p xs = -1 := by
  unfold idxFn
  rw [List.findIdx?_eq_none_iff.2 h]

def evOut (path : ByteArray) (x : Ev) : Bool := !underB x.path path

end Go.Proofs.YtalkdddeiebfmaaGreatDoor
/- Maps of the call's own: small laws. -/
namespace Go.Proofs.YtalkdddeiebfmaaGreatDoor
open Go.RowKit Go.Maps Go.WideMaps

theorem strLaw : Keyed Tryz.prog 9 := string_keyed Tryz.underlying9
theorem key_of (t : List UInt8) (s : ByteArray) (hs : s = mkB t) (h : t.length ≤ maxLen) : keyOf Tryz.prog 9 (.string s) = some (.string t) := by
  have := keyOf_string_mk (P := Tryz.prog) (k := 9) Tryz.underlying9 (s := s) (by rw [hs, ← data_len, mkB_data]; exact h)
  rw [hs, mkB_data] at this
  rw [hs]; exact this
theorem ownsMap_move {w w' : World} {b n : Nat} {D : DataW Unit} {R : Value → Option (DataW Unit × List MemPlace)} (h : w.ownsMap Tryz.prog 9 R b n D) (hb : w'.heap[b]? = w.heap[b]?) : w'.ownsMap Tryz.prog 9 R b n D := by
  obtain ⟨es, clock, h1, h2⟩ := h
  exact ⟨es, clock, hb.trans h1, h2⟩
theorem ownsMap_lt {w : World} {b n : Nat} {D : DataW Unit} {R : Value → Option (DataW Unit × List MemPlace)} (h : w.ownsMap Tryz.prog 9 R b n D) : b < w.heap.size := by
  obtain ⟨es, clock, h1, _⟩ := h
  exact (Array.getElem?_eq_some_iff.1 h1).1
theorem ownsMap_size {w : World} {b n : Nat} {D : DataW Unit} {R : Value → Option (DataW Unit × List MemPlace)} (h : w.ownsMap Tryz.prog 9 R b n D) : Maps.size D ≤ n := by
  obtain ⟨es, clock, _, _, h3, rfl⟩ := h
  show ((es.toList.map _).foldr DataW.insert []).length ≤ n
  rw [length_sorted, List.length_map, Array.length_toList]; exact h3
theorem grown_below {w0 w w' : World} (hb : Below w0.heap.size w0 w) (hg : w.grownBy w' (some w0.heap.size)) : Below w0.heap.size w0 w' := hb.grown hg hb.size (fun j hj => by cases hj; exact Nat.le_refl _)
end Go.Proofs.YtalkdddeiebfmaaGreatDoor
/- Structs compared, field for field. -/
namespace Go.Proofs.YtalkdddeiebfmaaGreatDoor
open Go.RowKit

section
variable {P : Program} {d : Nat} {xs ys : Array Value} {f : Field} {fs : List Field} {a b : Value} {r s : Bool} {w : World}
theorem eqf_end (hn : (f.name == "_") = false) (ha : (part f.type xs f.offset).run P w = .ok a w) (hb : (part f.type ys f.offset).run P w = .ok b w) (he : (Op.equalIn d f.type a b).run P w = .ok r w) : (Op.eqFields d xs ys [f]).run P w = .ok r w := by
  have hn' : f.name ≠ "_" := by simpa using hn
  simp only [Op.eqFields, if_pos hn', Sem.run_bind, ha, hb, he, Result.andThen_ok]
  cases r <;> simp
theorem eqf_more (hn : (f.name == "_") = false) (ha : (part f.type xs f.offset).run P w = .ok a w) (hb : (part f.type ys f.offset).run P w = .ok b w) (he : (Op.equalIn d f.type a b).run P w = .ok r w) (hr : (Op.eqFields d xs ys fs).run P w = .ok s w) : (Op.eqFields d xs ys (f :: fs)).run P w = .ok (r && s) w := by
  have hn' : f.name ≠ "_" := by simpa using hn
  rw [Op.eqFields]
  simp only [if_pos hn', Sem.run_bind, ha, hb, he, Result.andThen_ok]
  cases r
  · simp
  · simpa using hr
theorem eqf_struct {t : TypeId} {fs : Array Field} (hu : P.underlying t = some (.struct fs)) (hp : P.stoodInHeld t = false) (h : (Op.eqFields d xs ys fs.toList).run P w = .ok r w) : (Op.equalIn (d + 1) t (.agg xs) (.agg ys)).run P w = .ok r w := by
  have hf : P.fieldsOf t = fs := by simp [Program.fieldsOf, hu]
  rw [run_equalIn_struct (P := P) w d t xs ys (by rw [hf]; exact hu) hp, hf]
  exact h
end
end Go.Proofs.YtalkdddeiebfmaaGreatDoor
/- bursarref04.Name: the document's answer for a name. -/
namespace Go.Proofs.YtalkdddeiebfmaaGreatDoor
open Go.RowKit

theorem okC_true {c : Nat} (h : okC (c : Int) = true) : (97 ≤ c ∧ c ≤ 122) ∨ (48 ≤ c ∧ c ≤ 57) ∨ c = 45 := by
  simp [okC, plainC] at h; omega
theorem okC_false {c : Nat} (h : okC (c : Int) = false) : ¬ (97 ≤ c ∧ c ≤ 122) ∧ ¬ (48 ≤ c ∧ c ≤ 57) ∧ c ≠ 45 := by
  simp [okC, plainC] at h; omega
set_option maxRecDepth 100000 in
theorem rname_loop (s : ByteArray) (w : World) (h1 : 1 ≤ s.size) (h2 : s.size ≤ 32) (h3 : ((s[0]'(by omega)).toNat : Int) ≠ 45) (h4 : ((s[s.size - 1]'(by omega)).toNat : Int) ≠ 45) :
    Calls Tryz.prog 142 #[.string s] w fun e w' => e = .returned (.bool (s.data.toList.all okB)) ∧ w = w' := by
  have e1 : decide ((s.size : Int) < 1) = false := by simp; omega
  have e2 : decide ((s.size : Int) > 32) = false := by simp; omega
  have e3 : (((s[0]'(by omega)).toNat : Int) == 45) = false := by simpa using h3
  have e4 : (((s[s.size - 1]'(by omega)).toNat : Int) == 45) = false := by simpa using h4
  clear h3 h4
  obtain ⟨R, hR⟩ : ∃ R, s.data.toList.all okB = R := ⟨_, rfl⟩
  rw [hR]
  have HR := Lib.hid hR
  clear hR
  go_enter Tryz.func142, Tryz.ntmps142
  go_wp2
  clear e1 e2 e3 e4
  go_loopw [3] (fun v wr => ∃ (pos : Nat), v = .int .i64 pos ∧ pos ≤ s.size ∧ Hid (w = wr) ∧ PrefOk s pos) (fun v _ => s.size - (intOf v).toNat)
  case atStart => exact ⟨0, rfl, Nat.zero_le _, rfl, fun i _ h => absurd h (by omega)⟩
  case round =>
    obtain ⟨pos, rfl, hp0, hw, hpf⟩ := hrel
    obtain rfl : w = wr := hw
    by_cases hp : pos < s.size
    · have hok : okB s[pos] = okC ((s[pos]'hp).toNat : Int) := rfl
      have hpf2 := Lib.hid (fun h => hpf.next hp (hok.trans h))
      have hall := Lib.hid (fun h => all_false hp (hok.trans h))
      clear hok hpf
      have hpi : (pos : Int) < s.size := by omega
      cases hc : okC ((s[pos]'hp).toNat : Int)
      · have hall3 := Lib.hid (HR.out.symm.trans (hall.out hc))
        have hnum := Lib.hid (okC_false hc)
        have e5 : (((s[pos]'hp).toNat : Int) != 45) = true := by have := (okC_false hc).2.2; simp [bne]; omega
        clear hc
        by_cases h1 : 97 ≤ (s[pos]'hp).toNat <;> by_cases h2 : (s[pos]'hp).toNat ≤ 122 <;> by_cases h3 : 48 ≤ (s[pos]'hp).toNat <;> by_cases h4 : (s[pos]'hp).toNat ≤ 57 <;> by_cases h5 : (s[pos]'hp).toNat = 45
        all_goals (first | (exfalso; have := hnum.out; omega) | skip)
        all_goals (try (have e6 : decide (((s[pos]'hp).toNat : Int) ≤ 57) = false := by simp; omega))
        all_goals (try (have e7 : decide (((s[pos]'hp).toNat : Int) ≤ 122) = false := by simp; omega))
        all_goals (try (have e8 : decide (((s[pos]'hp).toNat : Int) ≥ 97) = false := by simp; omega))
        all_goals (try (have e9 : decide (((s[pos]'hp).toNat : Int) ≥ 48) = false := by simp; omega))
        all_goals go_wp2
        all_goals go_ret
        all_goals exact ⟨by rw [hall3.out]; rfl, rfl⟩
      · have hpf3 := Lib.hid (hpf2.out hc)
        have hnum := Lib.hid (okC_true hc)
        clear hc
        by_cases h1 : 97 ≤ (s[pos]'hp).toNat <;> by_cases h2 : (s[pos]'hp).toNat ≤ 122 <;> by_cases h3 : 48 ≤ (s[pos]'hp).toNat <;> by_cases h4 : (s[pos]'hp).toNat ≤ 57 <;> by_cases h5 : (s[pos]'hp).toNat = 45
        all_goals (first | (exfalso; have := hnum.out; omega) | skip)
        all_goals (try (have e5 : (((s[pos]'hp).toNat : Int) != 45) = false := by simp [bne]; omega))
        all_goals go_wp2
        all_goals go_roundw
        all_goals (first | (simp [intOf]; omega) | exact ⟨pos + 1, by go_num, hp, rfl, hpf3.out⟩ | exact ⟨pos + 1, by go_num, hp, True.intro, hpf3.out⟩)
    · have hall := Lib.hid (all_of_pref hpf (by omega))
      clear hpf
      go_wp2
      go_ret
      exact ⟨by rw [← HR.out, hall.out]; rfl, rfl⟩
set_option maxRecDepth 100000 in
theorem rname_any (s : ByteArray) (w : World) : Calls Tryz.prog 142 #[.string s] w fun e w' => e = .returned (.bool (nameB s)) ∧ w = w' := by
  by_cases h1 : 1 ≤ s.size
  · by_cases h2 : s.size ≤ 32
    · have g1 := getElem_head s (by omega)
      have g2 := getElem_last s (by omega)
      by_cases h3 : ((s[0]'(by omega)).toNat : Int) = 45
      · have hb := Lib.hid (show nameB s = false by
          have : (s[0]'(by omega)) = 45 := UInt8.toNat_inj.1 (by simp; omega)
          unfold nameB nameL; rw [g1, this]; simp)
        have e1 : decide ((s.size : Int) < 1) = false := by simp; omega
        have e2 : decide ((s.size : Int) > 32) = false := by simp; omega
        have e3 : (((s[0]'(by omega)).toNat : Int) == 45) = true := by simpa using h3
        clear h3 g1 g2
        go_enter Tryz.func142, Tryz.ntmps142
        go_wp2
        go_ret
        exact ⟨by rw [hb.out]; rfl, rfl⟩
      · by_cases h4 : ((s[s.size - 1]'(by omega)).toNat : Int) = 45
        · have hb := Lib.hid (show nameB s = false by
            have : (s[s.size - 1]'(by omega)) = 45 := UInt8.toNat_inj.1 (by simp; omega)
            unfold nameB nameL; rw [g2, this]; simp)
          have e1 : decide ((s.size : Int) < 1) = false := by simp; omega
          have e2 : decide ((s.size : Int) > 32) = false := by simp; omega
          have e3 : (((s[0]'(by omega)).toNat : Int) == 45) = false := by simpa using h3
          have e4 : (((s[s.size - 1]'(by omega)).toNat : Int) == 45) = true := by simpa using h4
          clear h3 h4 g1 g2
          go_enter Tryz.func142, Tryz.ntmps142
          go_wp2
          go_ret
          exact ⟨by rw [hb.out]; rfl, rfl⟩
        · have hb : nameB s = s.data.toList.all okB := by
            have n3 : (s[0]'(by omega)) ≠ 45 := fun e => h3 (by rw [e]; rfl)
            have n4 : (s[s.size - 1]'(by omega)) ≠ 45 := fun e => h4 (by rw [e]; rfl)
            unfold nameB nameL; rw [g1, g2, data_len]; simp [n3, n4, h1, h2]
          rw [hb]
          exact rname_loop s w h1 h2 h3 h4
    · have hb := Lib.hid (show nameB s = false by unfold nameB nameL; rw [data_len]; simp [h2])
      have e1 : decide ((s.size : Int) < 1) = false := by simp; omega
      have e2 : decide ((s.size : Int) > 32) = true := by simp; omega
      go_enter Tryz.func142, Tryz.ntmps142
      go_wp2
      go_ret
      exact ⟨by rw [hb.out]; rfl, rfl⟩
  · have hb := Lib.hid (show nameB s = false by unfold nameB nameL; rw [data_len]; simp [h1])
    have e1 : decide ((s.size : Int) < 1) = true := by simp; omega
    go_enter Tryz.func142, Tryz.ntmps142
    go_wp2
    go_ret
    exact ⟨by rw [hb.out]; rfl, rfl⟩
end Go.Proofs.YtalkdddeiebfmaaGreatDoor
/- bursarref04.pieces: a text cut at each c. -/
namespace Go.Proofs.YtalkdddeiebfmaaGreatDoor
open Go.RowKit

theorem strElem : Elem Tryz.prog 83 9 Kn.str 16 :=
  Elem.mk_ (z := .string ⟨#[]⟩) Tryz.underlying83 (by kernel_rfl) rfl (by omega)

/-- what is between two places, cut at no c -/
def NoC (s : ByteArray) (c : UInt8) (a b : Nat) : Prop := ∀ k (h : k < s.size), a ≤ k → k < b → s[k] ≠ c
theorem NoC.refl (s : ByteArray) (c : UInt8) (a : Nat) : NoC s c a a := fun k _ h1 h2 => by omega
theorem NoC.step {s : ByteArray} {c : UInt8} {a i : Nat} (h : NoC s c a i) (hi : i < s.size) (hc : s[i] ≠ c) : NoC s c a (i + 1) := fun k hk h1 h2 => by
  by_cases e : k = i
  · subst e; exact hc
  · exact h k hk h1 (by omega)
theorem extract_data (s : ByteArray) (a b : Nat) : (s.extract a b).data.toList = (s.data.toList.take b).drop a := by
  rw [ByteArray.data_extract]; simp [List.drop_take]
def PiecesPost4 (s : ByteArray) (c : UInt8) (w : World) (e : Ending) (w' : World) : Prop :=
  ∃ A n, e = .returned (.slice A (splitC c s.data.toList).length n) ∧ Own Kn.str 9 w.heap.size (fun _ => True) w' (.slice A (splitC c s.data.toList).length n) ((splitC c s.data.toList).map mkB) ∧ Below w.heap.size w w'

theorem piece_end {s : ByteArray} {c : UInt8} {fr : Nat} (h : NoC s c fr s.size) : (splitC c (s.data.toList.drop fr)).map mkB = [s.extract fr s.size] := by
  have hno : c ∉ s.data.toList.drop fr := fun hm => by
    obtain ⟨k, hk, e⟩ := List.getElem_of_mem hm
    rw [List.length_drop, data_len] at hk
    rw [List.getElem_drop] at e
    exact h (fr + k) (by omega) (by omega) (by omega) e
  rw [splitC_none c _ hno]
  simp only [List.map_cons, List.map_nil, List.cons.injEq, and_true]
  refine bytes_inj ?_
  rw [mkB_data, extract_data, List.take_of_length_le (by rw [data_len]; omega)]
theorem piece_at {s : ByteArray} {c : UInt8} {fr i : Nat} (hi : i < s.size) (hfr : fr ≤ i) (hc : s[i] = c) (h : NoC s c fr i) : (splitC c (s.data.toList.drop fr)).map mkB = s.extract fr i :: (splitC c (s.data.toList.drop (i + 1))).map mkB := by
  have h1 : (s.data.toList.drop fr)[i - fr]? = some c := by
    rw [List.getElem?_drop, show fr + (i - fr) = i by omega, List.getElem?_eq_getElem (by rw [data_len]; exact hi)]
    exact congrArg some hc
  have h2 : c ∉ (s.data.toList.drop fr).take (i - fr) := fun hm => by
    obtain ⟨k, hk, e⟩ := List.getElem_of_mem hm
    rw [List.length_take, List.length_drop, data_len] at hk
    rw [List.getElem_take, List.getElem_drop] at e
    exact h (fr + k) (by omega) (by omega) (by omega) e
  rw [splitC_at c _ _ h1 h2, List.map_cons, List.drop_drop, show fr + (i - fr + 1) = i + 1 by omega]
  congr 1
  refine bytes_inj ?_
  rw [mkB_data, extract_data, List.drop_take]
set_option maxRecDepth 100000 in
theorem rpieces_any (s : ByteArray) (c : UInt8) (w : World) (hs : s.size ≤ 1073741824) : Calls Tryz.prog 141 #[.string s, .int .u8 (c.toNat : Nat)] w (PiecesPost4 s c w) := by
  go_enter Tryz.func141, Tryz.ntmps141
  go_wp2
  go_loopw [5, 6, 7] (fun lv fv iv wr => ∃ (i fr n : Nat) (A : Option Addr) (T : List ByteArray), iv = .int .i64 i ∧ fv = .int .i64 fr ∧ lv = .slice A T.length n ∧ i ≤ s.size + 1 ∧ fr ≤ i ∧ T.length ≤ i ∧ Own Kn.str 9 w.heap.size (fun _ => True) wr (.slice A T.length n) T ∧ Below w.heap.size w wr ∧
    Hid (NoC s c fr i) ∧ Hid (if i ≤ s.size then T ++ (splitC c (s.data.toList.drop fr)).map mkB = (splitC c s.data.toList).map mkB else T = (splitC c s.data.toList).map mkB)) (fun _ _ iv _ => s.size + 1 - (intOf iv).toNat)
  case atStart => exact ⟨0, 0, 0, none, [], rfl, rfl, rfl, Nat.zero_le _, Nat.le_refl _, Nat.le_refl _, Own.nil _ _ _ _ _, Below.refl _ _, NoC.refl _ _ _, by simp [Hid]⟩
  case round =>
    obtain ⟨i, fr, n, A, T, rfl, rfl, rfl, hi, hfr, hT, hown, hbr, HN, HT⟩ := hrel
    by_cases hle : i ≤ s.size
    · have HT2 := Lib.hid (show T ++ (splitC c (s.data.toList.drop fr)).map mkB = (splitC c s.data.toList).map mkB by have := HT.out; rwa [if_pos hle] at this)
      have h16 : (T.length + 1) * 16 ≤ 140737488355328 := by omega
      by_cases heq : i = s.size
      · have e1 : ((i : Int) == s.size) = true := by simp; omega
        have hpc := Lib.hid (piece_end (s := s) (c := c) (fr := fr) (by rw [← heq]; exact HN.out))
        go_wp2_with (at_builtin; refine wpList_app_plain strElem Kn.plain_str w.heap.size rfl (.tmp 25) (.tmp 30) rfl (v := .slice A T.length n) (xs := T) (ys := [s.extract fr s.size]) rfl (hown.alloc _) rfl rfl (Row.newOnePlain (cs := [.string (s.extract fr s.size)]) Kn.plain_str rfl) (by simpa using h16) (by have := hbr.size; simp; omega) ?_; intro A7 c7 w7 happ; have HA7 := Lib.hid happ; clear happ)
        go_roundw
        case rel =>
          have q := hbr.size
          refine ⟨i + 1, i + 1, c7, A7, T ++ [s.extract fr s.size], by go_num, by go_num, by simp, by omega, Nat.le_refl _, by simp; omega, by simpa using HA7.out.own, HA7.out.below (hbr.alloc q _) (by simp; omega) (fun q hq => (hown.block_lt q hq).1), NoC.refl _ _ _, ?_⟩
          have := HT2.out
          rw [hpc.out] at this
          unfold Hid
          rw [if_neg (by omega)]
          simpa using this
        case measure => simp [intOf]; omega
      · have hlt : i < s.size := by omega
        have e1 : ((i : Int) == s.size) = false := by simp; omega
        by_cases hc : s[i] = c
        · have e2 : ((s[i].toNat : Int) == (c.toNat : Int)) = true := by rw [hc]; simp
          have hpc := Lib.hid (piece_at hlt hfr hc HN.out)
          clear hc
          go_wp2_with (at_builtin; refine wpList_app_plain strElem Kn.plain_str w.heap.size rfl (.tmp 25) (.tmp 30) rfl (v := .slice A T.length n) (xs := T) (ys := [s.extract fr i]) rfl (hown.alloc _) rfl rfl (Row.newOnePlain (cs := [.string (s.extract fr i)]) Kn.plain_str rfl) (by simpa using h16) (by have := hbr.size; simp; omega) ?_; intro A7 c7 w7 happ; have HA7 := Lib.hid happ; clear happ)
          go_roundw
          case rel =>
            have q := hbr.size
            refine ⟨i + 1, i + 1, c7, A7, T ++ [s.extract fr i], by go_num, by go_num, by simp, by omega, Nat.le_refl _, by simp; omega, by simpa using HA7.out.own, HA7.out.below (hbr.alloc q _) (by simp; omega) (fun q hq => (hown.block_lt q hq).1), NoC.refl _ _ _, ?_⟩
            have := HT2.out
            rw [hpc.out] at this
            unfold Hid
            rw [if_pos (by omega)]
            simpa using this
          case measure => simp [intOf]; omega
        · have e2 : ((s[i].toNat : Int) == (c.toNat : Int)) = false := by
            have : s[i].toNat ≠ c.toNat := fun h => hc (UInt8.toNat_inj.1 h)
            simp; omega
          have hn2 := Lib.hid (HN.out.step hlt hc)
          clear hc
          go_wp2
          go_roundw
          case rel => exact ⟨i + 1, fr, n, A, T, by go_num, rfl, rfl, by omega, by omega, by omega, hown, hbr, hn2.out, by unfold Hid; rw [if_pos (by omega)]; exact HT2.out⟩
          case measure => simp [intOf]; omega
    · have hTe := Lib.hid (show T = (splitC c s.data.toList).map mkB by have := HT.out; rwa [if_neg hle] at this)
      have hle' : ¬ (i : Int) ≤ s.size := by omega
      go_wp2
      go_ret
      have hl : T.length = (splitC c s.data.toList).length := by rw [hTe.out]; simp
      refine ⟨A, n, by rw [← hl]; rfl, ?_, hbr⟩
      rw [← hl, ← hTe.out]; exact hown
end Go.Proofs.YtalkdddeiebfmaaGreatDoor
/- bursarref04.Split, Path. -/
namespace Go.Proofs.YtalkdddeiebfmaaGreatDoor
open Go.RowKit

def RSplitPost (s : ByteArray) (w : World) (e : Ending) (w' : World) : Prop :=
  ∃ A c, e = .returned (.tuple #[.slice A (pathNames s).length c, .int .i64 (errPath s)]) ∧ Row Kn.str (fun _ => True) w' A (pathNames s) ∧ (pathNames s).length ≤ c ∧ Below w.heap.size w w'
theorem RSplitPost.no {s : ByteArray} {w w' : World} (h : isPath s = false) (hb : Below w.heap.size w w') : RSplitPost s w (.returned (.tuple #[.slice none 0 0, .int .i64 41])) w' := by
  have hn : pathNames s = [] := by
    unfold pathNames
    unfold isPath at h
    cases hp : pathL s.data.toList with
    | none => rfl
    | some l => rw [hp] at h; cases h
  have he : errPath s = 41 := by unfold errPath; rw [h]; rfl
  unfold RSplitPost
  rw [hn, he]
  exact ⟨none, 0, rfl, Row.nil _ _ _ _, Nat.zero_le _, hb⟩
/-- what the tests ask -/
theorem path_tests (s : ByteArray) (hne : s.data.toList ≠ [47]) : isPath s = (decide (s.size ≤ 64) && decide (2 ≤ (splitC 47 s.data.toList).length) && decide ((splitC 47 s.data.toList).length ≤ 9) && decide ((splitC 47 s.data.toList).head? = some []) && (splitC 47 s.data.toList).tail.all nameL) := by
  unfold isPath pathL
  rw [if_neg hne, ← data_len]
  cases hs : s.data.toList with
  | nil => simp [splitC]
  | cons b l =>
    by_cases hb : b = 47
    · subst hb
      have e : splitC 47 (47 :: l) = [] :: splitC 47 l := by simp [splitC]
      rw [e]
      have hpos : 1 ≤ (splitC 47 l).length := List.length_pos_iff.2 (splitC_ne 47 l)
      simp only [List.head?_cons, List.tail_cons, List.length_cons]
      split
      · rename_i h
        obtain ⟨_, h2, h3, h4⟩ := h
        simp; refine ⟨⟨⟨by simpa using h2, hpos⟩, h3⟩, by simpa using h4⟩
      · rename_i h
        symm; simp only [Option.isSome_none, Bool.and_eq_false_iff, decide_eq_false_iff_not]
        by_cases a1 : (l.length + 1 ≤ 64)
        · by_cases a2 : (splitC 47 l).length ≤ 8
          · right
            cases a3 : (splitC 47 l).all nameL
            · rfl
            · exact absurd ⟨by simp, by simpa using a1, a2, a3⟩ h
          · left; left; right; omega
        · left; left; left; left; exact a1
    · have hh : (splitC 47 (b :: l)).head? ≠ some [] := by
        unfold splitC
        rw [if_neg hb]
        split <;> simp
      rw [if_neg (by simp [hb])]
      simp [hh]
theorem path_names (s : ByteArray) (hne : s.data.toList ≠ [47]) (h : isPath s = true) : pathNames s = (splitC 47 s.data.toList).tail.map mkB ∧ errPath s = 0 := by
  refine ⟨?_, by unfold errPath; rw [h]; rfl⟩
  unfold pathNames
  unfold isPath pathL at h
  unfold pathL
  rw [if_neg hne] at h ⊢
  split at h
  · rename_i hc
    rw [if_pos hc]
    cases hs : s.data.toList with
    | nil => rw [hs] at hc; simp at hc
    | cons b l =>
      rw [hs] at hc
      have : b = 47 := by simpa using hc.1
      subst this
      simp [splitC]
  · cases h

set_option maxRecDepth 100000 in
theorem rsplit_any (s : ByteArray) (w : World) (hs : s.size ≤ 1073741824) : Calls Tryz.prog 111 #[.string s] w (RSplitPost s w) := by
  by_cases h0 : s.data.toList = [47]
  · have e1 : (s.toList == [47]) = true := by rw [toList_eq, h0]; rfl
    have hfin := Lib.hid (show RSplitPost s w (.returned (.tuple #[.slice none 0 0, .int .i64 0])) w by
      have hp : pathL s.data.toList = some [] := by unfold pathL; rw [if_pos h0]
      have hn : pathNames s = [] := by unfold pathNames; rw [hp]; rfl
      have he : errPath s = 0 := by unfold errPath isPath; rw [hp]; rfl
      unfold RSplitPost
      rw [hn, he]
      exact ⟨none, 0, rfl, Row.nil _ _ _ _, Nat.zero_le _, Below.refl _ _⟩)
    clear h0
    go_enter Tryz.func111, Tryz.ntmps111
    go_wp2
    go_ret2
    exact hfin.out
  · have e1 : (s.toList == [47]) = false := by rw [toList_eq]; simpa using h0
    have htest := path_tests s h0
    have hyes := Lib.hid (path_names s h0)
    have hpc := rpieces_any s 47 w hs
    obtain ⟨M, hM⟩ : ∃ M, splitC 47 s.data.toList = M := ⟨_, rfl⟩
    unfold PiecesPost4 at hpc
    rw [hM] at hpc htest hyes
    have HM := Lib.hid hM
    have hML : (M.map mkB).length = M.length := by simp
    have HPC := Lib.hid hpc
    have HNO := Lib.hid (fun (h : isPath s = false) w' (hb : Below w.heap.size w w') => RSplitPost.no h hb)
    clear hM hpc h0
    by_cases h1 : s.size ≤ 64
    · have e2 : decide ((s.size : Int) > 64) = false := by simp; omega
      by_cases h2 : 2 ≤ M.length
      · have e3 : decide ((M.length : Int) < 2) = false := by simp; omega
        by_cases h3 : M.length ≤ 9
        · have e4 : decide ((M.length : Int) > 9) = false := by simp; omega
          obtain ⟨LL, hLL⟩ : ∃ LL, M.map mkB = LL := ⟨_, rfl⟩
          rw [hLL] at hML
          have hl0 : 0 < LL.length := by omega
          have hM0 : 0 < M.length := by omega
          have hx0 : (LL[0]'hl0).data.toList = M[0]'hM0 := by subst hLL; simp [mkB_data]
          have hb0 : (0 : Int) < M.length := by omega
          have hhd : M.head? = some (M[0]'hM0) := by rw [List.head?_eq_getElem?, List.getElem?_eq_getElem (by omega)]
          have HLL := Lib.hid hLL
          have HML := Lib.hid hML
          have hrow : ∀ w1 A n, Own Kn.str 9 w.heap.size (fun _ => True) w1 (.slice A M.length n) (M.map mkB) → Row Kn.str (fun _ => True) w1 A LL ∧ LL.length ≤ n := fun w1 A n ho => by
            obtain ⟨_, q1, q2, _⟩ := ho.row'
            rw [HLL.out] at q1 q2
            exact ⟨q1, q2⟩
          have HROW := Lib.hid hrow
          have hm1 : M.length ≤ LL.length := by omega
          have hm2 : LL.length ≤ M.length := by omega
          clear hrow hLL hML
          by_cases h5 : M[0]'hM0 = []
          · have e5 : (LL[0]'hl0).toList.isEmpty = true := by rw [toList_eq, hx0, h5]; rfl
            have hnm : ∀ (k : Nat) (hk : k < LL.length), nameB LL[k] = nameL (M[k]'(by omega)) := fun k hk => by
              have := HLL.out
              subst this
              unfold nameB; simp [mkB_data]
            have HNM := Lib.hid hnm
            have hyes2 := Lib.hid (fun (h : M.tail.all nameL = true) => hyes.out (by rw [htest, hhd, h5, h]; simp [h1, h2, h3]))
            have hno2 := Lib.hid (fun (h : M.tail.all nameL = false) => HNO.out (by rw [htest, h]; simp))
            clear htest hx0 hhd hnm hyes h5
            go_enter Tryz.func111, Tryz.ntmps111
            go_wp2_with (go_at_call 141; refine HPC.out.mono ?_; rintro e w1 ⟨A1, n1, rfl, ho1, hb1⟩; have HB1 := Lib.hid hb1; clear hb1; have HR1 := Lib.hid (HROW.out _ _ _ ho1); obtain ⟨a1, rfl, hc0⟩ := row_str_at HR1.out.1 0 hl0; have hc00 := (show w1.cell? a1 = _ by simpa [Addr.add] using hc0); clear hc0)
            clear e1 e2 e3 e4 e5 hc00
            go_loopw [5] (fun iv wr => ∃ k : Nat, iv = .int .i64 k ∧ 1 ≤ k ∧ k ≤ LL.length ∧ Below w1.heap.size w1 wr ∧ Hid (∀ j (h : j < LL.length), 1 ≤ j → j < k → nameB LL[j] = true)) (fun iv _ => LL.length - (intOf iv).toNat)
            case atStart => exact ⟨1, rfl, Nat.le_refl _, by omega, Below.refl _ _, fun j _ a b => by omega⟩
            case round =>
              obtain ⟨k, rfl, hk1, hkl, hbr, HK⟩ := hrel
              have HB2 := Lib.hid (HB1.out.trans (hbr.mono HB1.out.size))
              by_cases hlt : k < LL.length
              · obtain ⟨a2, ha2, hck⟩ := row_str_at (HR1.out.1.below hbr) k hlt
                obtain rfl := Option.some.inj ha2
                clear ha2
                have hki : (k : Int) < M.length := by omega
                cases hname : nameB LL[k]
                · have hfin := Lib.hid (hno2.out (by
                    rw [Bool.eq_false_iff]; intro h
                    rw [List.all_eq_true] at h
                    have h9 : M[k]'(by omega) ∈ M.tail := by
                      rw [← List.drop_one, List.mem_drop_iff_getElem]
                      exact ⟨k - 1, by omega, by congr 1; omega⟩
                    have := h _ h9
                    rw [← HNM.out k hlt, hname] at this; cases this))
                  have HNAME := Lib.hid hname
                  clear hname
                  go_wp2_with (go_at_call 142; refine (rname_any _ _).mono ?_; rintro e w3 ⟨rfl, rfl⟩; rw [HNAME.out])
                  go_ret2
                  exact hfin.out _ HB2.out
                · have hk2 := Lib.hid (show ∀ j (h : j < LL.length), 1 ≤ j → j < k + 1 → nameB LL[j] = true from fun j h a b => by
                    by_cases e : j = k
                    · subst e; exact hname
                    · exact HK.out j h a (by omega))
                  have HNAME := Lib.hid hname
                  clear hname
                  go_wp2_with (go_at_call 142; refine (rname_any _ _).mono ?_; rintro e w3 ⟨rfl, rfl⟩; rw [HNAME.out])
                  go_roundw
                  case rel => exact ⟨k + 1, by go_num, by omega, hlt, hbr, hk2⟩
                  case measure => simp [intOf]; omega
              · have hki : ¬ (k : Int) < M.length := by omega
                have hall : M.tail.all nameL = true := by
                  rw [List.all_eq_true]
                  intro x hx
                  obtain ⟨j, hj, rfl⟩ := List.getElem_of_mem hx
                  rw [List.length_tail] at hj
                  rw [List.getElem_tail, ← HNM.out (j + 1) (by omega)]
                  exact HK.out (j + 1) (by omega) (by omega) (by omega)
                have hres := hyes2.out hall
                obtain ⟨A3, hA3⟩ : ∃ A3, (if n1 = 1 then some a1 else (some a1).map (·.add (1 * Kn.str.sz))) = A3 := ⟨_, rfl⟩
                have hcut := run_cut_from strElem (some a1) M.length n1 1 (by omega)
                rw [hA3] at hcut
                have hrd := (HR1.out.1.below hbr).drop 1 n1 HR1.out.2
                rw [hA3] at hrd
                have hfin := Lib.hid (show RSplitPost s w (.returned (.tuple #[.slice A3 (M.length - 1) (n1 - 1), .int .i64 0])) wr by
                  unfold RSplitPost
                  rw [hres.1, hres.2]
                  have e8 : M.tail.map mkB = LL.drop 1 := by rw [← HLL.out, ← List.map_drop, List.drop_one]
                  rw [e8]
                  exact ⟨A3, n1 - 1, by rw [List.length_drop, show LL.length - 1 = M.length - 1 by omega], hrd, by rw [List.length_drop]; have := HR1.out.2; omega, HB2.out⟩)
                have hn1 : ¬ n1 = 1 := by have := HR1.out.2; omega
                have hA4 : A3 = some ⟨a1.block, a1.off + 1, none⟩ := by rw [← hA3, if_neg hn1]; rfl
                clear hall hres hrd hcut hA3
                subst hA4
                go_wp2
                go_ret2
                exact hfin.out
          · have e5 : (LL[0]'hl0).toList.isEmpty = false := by rw [toList_eq, hx0]; simpa using h5
            have hfin := Lib.hid (HNO.out (by rw [htest, hhd]; simp [h5]))
            clear htest hx0 hhd h5
            go_enter Tryz.func111, Tryz.ntmps111
            go_wp2_with (go_at_call 141; refine HPC.out.mono ?_; rintro e w1 ⟨A1, n1, rfl, ho1, hb1⟩; have HB1 := Lib.hid hb1; clear hb1; obtain ⟨a1, rfl, hc0⟩ := row_str_at (HROW.out _ _ _ ho1).1 0 hl0; have hc00 := (show w1.cell? a1 = _ by simpa [Addr.add] using hc0); clear hc0)
            go_ret2
            exact hfin.out _ HB1.out
        · have e4 : decide ((M.length : Int) > 9) = true := by simp; omega
          have hfin := Lib.hid (HNO.out (by rw [htest]; simp [h3]))
          clear htest
          go_enter Tryz.func111, Tryz.ntmps111
          go_wp2_with (go_at_call 141; refine HPC.out.mono ?_; rintro e w1 ⟨A1, n1, rfl, ho1, hb1⟩; have HB1 := Lib.hid hb1; clear hb1)
          go_ret2
          exact hfin.out _ HB1.out
      · have e3 : decide ((M.length : Int) < 2) = true := by simp; omega
        have hfin := Lib.hid (HNO.out (by rw [htest]; simp [h2]))
        clear htest
        go_enter Tryz.func111, Tryz.ntmps111
        go_wp2_with (go_at_call 141; refine HPC.out.mono ?_; rintro e w1 ⟨A1, n1, rfl, ho1, hb1⟩; have HB1 := Lib.hid hb1; clear hb1)
        go_ret2
        exact hfin.out _ HB1.out
    · have e2 : decide ((s.size : Int) > 64) = true := by simp; omega
      have hfin := Lib.hid (HNO.out (by rw [htest]; simp [h1]))
      clear htest
      go_enter Tryz.func111, Tryz.ntmps111
      go_wp2_with (go_at_call 141; refine HPC.out.mono ?_; rintro e w1 ⟨A1, n1, rfl, ho1, hb1⟩; have HB1 := Lib.hid hb1; clear hb1)
      go_ret2
      exact hfin.out _ HB1.out
theorem rpath_any (s : ByteArray) (w : World) (hs : s.size ≤ 1073741824) : Calls Tryz.prog 93 #[.string s] w fun e w' => e = .returned (.int .i64 (errPath s)) ∧ Below w.heap.size w w' := by
  go_enter Tryz.func93, Tryz.ntmps93
  go_wp2_with (go_at_call 111; refine (rsplit_any s w hs).mono ?_; rintro e w1 ⟨A, c, rfl, _, _, hb⟩)
  go_ret
  exact ⟨rfl, hb⟩
end Go.Proofs.YtalkdddeiebfmaaGreatDoor
/- The document's line of a path in plain words. No program in sight. -/
namespace Go.Proofs.YtalkdddeiebfmaaGreatDoor

def joinL (xs : List (List UInt8)) : List UInt8 := xs.flatMap (fun x => 47 :: x)
theorem joinL_cons (x : List UInt8) (xs : List (List UInt8)) : joinL (x :: xs) = 47 :: (x ++ joinL xs) := by simp [joinL]
theorem joinL_append (xs ys : List (List UInt8)) : joinL (xs ++ ys) = joinL xs ++ joinL ys := by simp [joinL]
theorem joinL_split : ∀ l : List UInt8, joinL (splitC 47 l) = 47 :: l
  | [] => rfl
  | b :: l => by
    have ih := joinL_split l
    unfold splitC
    by_cases hb : b = 47
    · subst hb; rw [if_pos rfl, joinL_cons, ih]; rfl
    · rw [if_neg hb]
      match hs : splitC 47 l with
      | [] => exact absurd hs (splitC_ne 47 l)
      | p :: ps =>
        rw [hs, joinL_cons] at ih
        simp only [joinL_cons, List.cons_append]
        rw [List.cons.inj ih |>.2]
theorem splitC_append (c : UInt8) : ∀ a b : List UInt8, splitC c (a ++ c :: b) = splitC c a ++ splitC c b
  | [], b => by simp [splitC]
  | x :: a, b => by
    have ih := splitC_append c a b
    rw [List.cons_append, splitC, splitC]
    by_cases hx : x = c
    · rw [if_pos hx, if_pos hx, ih]; rfl
    · rw [if_neg hx, if_neg hx, ih]
      match hs : splitC c a with
      | [] => exact absurd hs (splitC_ne c a)
      | p :: ps => simp
theorem nameL_no {l : List UInt8} (h : nameL l = true) : (47 : UInt8) ∉ l := fun hm => by
  unfold nameL at h
  simp only [Bool.and_eq_true, List.all_eq_true] at h
  have := h.2 47 hm
  revert this; decide
theorem splitC_join : ∀ xs : List (List UInt8), xs ≠ [] → (∀ x ∈ xs, (47 : UInt8) ∉ x) → splitC 47 (joinL xs).tail = xs
  | [], h, _ => absurd rfl h
  | [x], _, h => by
    rw [joinL_cons, List.tail_cons, show joinL [] = [] from rfl, List.append_nil]
    exact splitC_none 47 x (h x (by simp))
  | x :: y :: xs, _, h => by
    have ih := splitC_join (y :: xs) (by simp) (fun z hz => h z (by simp [hz]))
    rw [joinL_cons, List.tail_cons]
    rw [joinL_cons] at ih ⊢
    rw [splitC_append, splitC_none 47 x (h x (by simp))]
    rw [List.tail_cons] at ih
    rw [ih]; rfl

/-- a path's text -/
def joinP (xs : List (List UInt8)) : List UInt8 := if xs = [] then [47] else joinL xs
def nm (p : ByteArray) : List (List UInt8) := (pathL p.data.toList).getD []
theorem pathNames_nm (p : ByteArray) : pathNames p = (nm p).map mkB := rfl
theorem path_cases {l : List UInt8} {ns : List (List UInt8)} (h : pathL l = some ns) : (l = [47] ∧ ns = []) ∨ (l ≠ [47] ∧ l = joinL ns ∧ ns ≠ [] ∧ ns.length ≤ 8 ∧ l.length ≤ 64 ∧ ns.all nameL = true) := by
  unfold pathL at h
  split at h
  · rename_i h0; exact .inl ⟨h0, (Option.some.inj h).symm⟩
  · rename_i h0
    split at h
    · rename_i hc
      have e := Option.some.inj h
      subst e
      refine .inr ⟨h0, ?_, splitC_ne _ _, hc.2.2.1, hc.2.1, hc.2.2.2⟩
      rw [joinL_split]
      cases l with
      | nil => simp at hc
      | cons b l => have : b = 47 := by simpa using hc.1
                    subst this; rfl
    · cases h
theorem pathL_join {ns : List (List UInt8)} (h1 : ns.length ≤ 8) (h2 : (joinP ns).length ≤ 64) (h3 : ns.all nameL = true) : pathL (joinP ns) = some ns := by
  unfold joinP at h2 ⊢
  by_cases h0 : ns = []
  · rw [if_pos h0, h0]; rfl
  · rw [if_neg h0] at h2 ⊢
    have hs := splitC_join ns h0 (fun x hx => nameL_no (List.all_eq_true.1 h3 x hx))
    unfold pathL
    have hne : joinL ns ≠ [47] := fun e => by
      rw [e] at hs
      have : ns = [[]] := by simpa [splitC] using hs.symm
      subst this
      simp [nameL] at h3
    have hh : (joinL ns).head? = some 47 := by
      cases ns with
      | nil => exact absurd rfl h0
      | cons x xs => rw [joinL_cons]; rfl
    rw [if_neg hne, hs, if_pos ⟨hh, h2, h1, h3⟩]

/-- what a path's names are -/
structure PathOk (p : ByteArray) : Prop where
  text : p.data.toList = joinP (nm p)
  few : (nm p).length ≤ 8
  short : p.size ≤ 64
  names : (nm p).all nameL = true
theorem pathOk {p : ByteArray} (h : isPath p = true) : PathOk p := by
  unfold isPath at h
  obtain ⟨ns, hns⟩ := Option.isSome_iff_exists.1 h
  have e : nm p = ns := by unfold nm; rw [hns]; rfl
  have hl := data_len p
  rcases path_cases hns with ⟨h1, h2⟩ | ⟨_, h2, h3, h4, h5, h6⟩
  · have e2 : nm p = [] := by rw [e, h2]
    refine ⟨by rw [e2]; exact h1, by rw [e2]; exact Nat.zero_le _, by rw [← hl, h1]; decide, by rw [e2]; rfl⟩
  · refine ⟨by rw [e]; unfold joinP; rw [if_neg h3]; exact h2, by rw [e]; exact h4, by omega, by rw [e]; exact h6⟩
theorem joinL_take_le (ns : List (List UInt8)) (k : Nat) : (joinL (ns.take k)).length ≤ (joinL ns).length := by
  conv => rhs; rw [← List.take_append_drop k ns, joinL_append, List.length_append]
  omega
theorem joinP_le (ns : List (List UInt8)) (k : Nat) (h : (joinP ns).length ≤ 64) : (joinP (ns.take k)).length ≤ 64 := by
  unfold joinP at h ⊢
  split
  · decide
  · rename_i h1
    have h2 : ns ≠ [] := fun e => h1 (by rw [e]; simp)
    rw [if_neg h2] at h
    have := joinL_take_le ns k
    omega
theorem names_take {ns : List (List UInt8)} (k : Nat) (h : ns.all nameL = true) : (ns.take k).all nameL = true := List.all_eq_true.2 fun x hx => List.all_eq_true.1 h x (List.mem_of_mem_take hx)

/-- a path and all above it, the path of k names first -/
def lineTo (ns : List (List UInt8)) : Nat → List ByteArray
  | 0 => [mkB [47]]
  | k + 1 => mkB (joinP (ns.take (k + 1))) :: lineTo ns k
theorem lineTo_length (ns : List (List UInt8)) : ∀ k, (lineTo ns k).length = k + 1
  | 0 => rfl
  | k + 1 => by rw [lineTo, List.length_cons, lineTo_length ns k]
theorem mem_lineTo (ns : List (List UInt8)) (t : ByteArray) : ∀ k, t ∈ lineTo ns k ↔ ∃ j, j ≤ k ∧ t = mkB (joinP (ns.take j))
  | 0 => by
    constructor
    · intro h; exact ⟨0, Nat.le_refl _, by simpa [lineTo, joinP] using h⟩
    · rintro ⟨j, hj, rfl⟩; have : j = 0 := by omega
      subst this; simp [lineTo, joinP]
  | k + 1 => by
    rw [lineTo, List.mem_cons, mem_lineTo ns t k]
    constructor
    · rintro (h | ⟨j, hj, h⟩)
      · exact ⟨k + 1, Nat.le_refl _, h⟩
      · exact ⟨j, by omega, h⟩
    · rintro ⟨j, hj, h⟩
      by_cases e : j = k + 1
      · subst e; exact .inl h
      · exact .inr ⟨j, by omega, h⟩
def lineB (p : ByteArray) : List ByteArray := if isPath p = true then lineTo (nm p) (nm p).length else []
theorem eq_mkB {t : ByteArray} {l : List UInt8} : t = mkB l ↔ t.data.toList = l := ⟨fun h => by rw [h, mkB_data], fun h => bytes_inj (by rw [h, mkB_data])⟩
theorem joinP_nil : joinP [] = [47] := rfl
theorem joinP_ne {ns : List (List UInt8)} (h : ns ≠ []) : joinP ns = joinL ns := by unfold joinP; rw [if_neg h]

theorem prefix_of_take {ns : List (List UInt8)} {j : Nat} (h0 : ns.take j ≠ []) (hj : j < ns.length) : (joinP (ns.take j) ++ [47]).isPrefixOf (joinP ns) = true := by
  have h1 : ns ≠ [] := fun e => by subst e; simp at hj
  rw [joinP_ne h0, joinP_ne h1]
  rw [List.isPrefixOf_iff_prefix]
  conv => rhs; rw [← List.take_append_drop j ns, joinL_append, List.drop_eq_getElem_cons hj, joinL_cons]
  exact ⟨ns[j] ++ joinL (ns.drop (j + 1)), by simp⟩
theorem take_of_prefix {ns ms : List (List UInt8)} (hm0 : ms ≠ []) (hn : ns.all nameL = true) (hm : ms.all nameL = true) (h : (joinP ms ++ [47]).isPrefixOf (joinP ns) = true) : ms.length ≤ ns.length ∧ ms = ns.take ms.length := by
  rw [List.isPrefixOf_iff_prefix, joinP_ne hm0] at h
  obtain ⟨r, hr⟩ := h
  have hn0 : ns ≠ [] := fun e => by
    subst e
    rw [joinP_nil] at hr
    have h1 := congrArg List.length hr
    cases ms with
    | nil => exact hm0 rfl
    | cons m ms => rw [joinL_cons] at h1; simp at h1
  rw [joinP_ne hn0] at hr
  have h1 := splitC_join ns hn0 (fun x hx => nameL_no (List.all_eq_true.1 hn x hx))
  have h2 := splitC_join ms hm0 (fun x hx => nameL_no (List.all_eq_true.1 hm x hx))
  have h3 : (joinL ns).tail = (joinL ms).tail ++ 47 :: r := by
    rw [← hr]
    cases ms with
    | nil => exact absurd rfl hm0
    | cons m ms => rw [joinL_cons]; simp
  rw [h3, splitC_append, h2] at h1
  exact ⟨by rw [← h1]; simp, by rw [← h1]; simp⟩

theorem under_line (p t : ByteArray) : underB p t = (lineB p).any (fun x => x.toList == t.toList) := by
  have hany : ((lineB p).any (fun x => x.toList == t.toList) = true) ↔ t ∈ lineB p := by
    rw [List.any_eq_true]
    constructor
    · rintro ⟨x, hx, he⟩
      have : x = t := bytes_inj (by rw [← toList_eq, ← toList_eq]; simpa using he)
      rwa [← this]
    · intro h; exact ⟨t, h, by simp⟩
  rw [Bool.eq_iff_iff, hany]
  unfold lineB
  cases hp : isPath p with
  | false => rw [if_neg (by simp)]; simp [underB, hp]
  | true =>
    rw [if_pos rfl, mem_lineTo]
    have P := pathOk hp
    unfold underB
    rw [hp, Bool.true_and]
    constructor
    · intro h
      rw [Bool.and_eq_true] at h
      obtain ⟨ht, h⟩ := h
      have T := pathOk ht
      simp only [Bool.or_eq_true, decide_eq_true_iff] at h
      rcases h with (h | h) | h
      · exact ⟨0, Nat.zero_le _, eq_mkB.2 (by rw [h]; rfl)⟩
      · subst h
        exact ⟨(nm p).length, Nat.le_refl _, eq_mkB.2 (by rw [List.take_length]; exact P.text)⟩
      · by_cases h0 : nm t = []
        · exact ⟨0, Nat.zero_le _, eq_mkB.2 (by rw [T.text, h0]; rfl)⟩
        · rw [T.text, P.text] at h
          obtain ⟨h1, h2⟩ := take_of_prefix h0 P.names T.names h
          exact ⟨(nm t).length, h1, eq_mkB.2 (by rw [← h2]; exact T.text)⟩
    · rintro ⟨j, hj, h⟩
      have hd := eq_mkB.1 h
      have hP64 : (joinP (nm p)).length ≤ 64 := by rw [← P.text, data_len]; exact P.short
      have ht : isPath t = true := by
        unfold isPath
        rw [hd, pathL_join (by rw [List.length_take]; have := P.few; omega) (joinP_le _ _ hP64) (names_take _ P.names)]
        rfl
      rw [ht, Bool.true_and]
      simp only [Bool.or_eq_true, decide_eq_true_iff]
      by_cases h0 : (nm p).take j = []
      · left; left; rw [hd, h0]; rfl
      · by_cases hjl : j < (nm p).length
        · right; rw [hd, P.text]; exact prefix_of_take h0 hjl
        · left; right
          refine bytes_inj ?_
          rw [hd, List.take_of_length_le (by omega)]; exact P.text
end Go.Proofs.YtalkdddeiebfmaaGreatDoor
/- bursarref04.Join, Line, Under. -/
namespace Go.Proofs.YtalkdddeiebfmaaGreatDoor
open Go.RowKit

theorem join_step {ns : List (List UInt8)} {k : Nat} (hk : k < ns.length) {s x : ByteArray} (hs : s.data.toList = joinL (ns.take k)) (hx : x.data.toList = ns[k]) : ((s ++ ⟨#[47]⟩ : ByteArray) ++ x : ByteArray).data.toList = joinL (ns.take (k + 1)) := by
  rw [List.take_succ_eq_append_getElem hk, joinL_append, joinL_cons, ← hs, ← hx]
  simp [joinL]
theorem join_size {ns : List (List UInt8)} (h2 : (joinP ns).length ≤ 64) (k : Nat) {s : ByteArray} (hs : s.data.toList = joinL (ns.take k)) : s.size ≤ 64 := by
  rw [← data_len, hs]
  by_cases h0 : ns = []
  · subst h0; simp [joinL]
  · rw [joinP_ne h0] at h2
    have := joinL_take_le ns k
    omega
set_option maxRecDepth 100000 in
theorem rjoin_any (A : Option Addr) (c : Nat) (P : Nat → Prop) (xs : List ByteArray) (ns : List (List UInt8)) (w : World) (hr : Row Kn.str P w A xs) (hx : xs = ns.map mkB) (h1 : ns.length ≤ 8) (h2 : (joinP ns).length ≤ 64) (h3 : ns.all nameL = true) :
    Calls Tryz.prog 131 #[.slice A xs.length c] w fun e w' => e = .returned (.tuple #[.string (mkB (joinP ns)), .int .i64 0]) ∧ w = w' := by
  have hlen : xs.length = ns.length := by rw [hx]; simp
  have hk8 : xs.length ≤ 8 := by omega
  have e9 : decide ((xs.length : Int) > 8) = false := by simp; omega
  have hel : ∀ k (h : k < xs.length), xs[k].data.toList = ns[k]'(by omega) := fun k h => by subst hx; simp [mkB_data]
  have hnm : ∀ k (h : k < xs.length), nameB xs[k] = true := fun k h => by
    unfold nameB; rw [hel k h]; exact List.all_eq_true.1 h3 _ (List.getElem_mem _)
  have HSTEP := Lib.hid (fun (k : Nat) (h : k < xs.length) (s : ByteArray) (hs : s.data.toList = joinL (ns.take k)) => join_step (x := xs[k]) (show k < ns.length by omega) hs (hel k h))
  have HSIZE := Lib.hid (fun (k : Nat) (s : ByteArray) (hs : s.data.toList = joinL (ns.take k)) => join_size h2 k hs)
  have HNM := Lib.hid hnm
  have HX := Lib.hid hx
  have HL := Lib.hid hlen
  clear hnm hel hx h3 h2 h1 hlen
  go_enter Tryz.func131, Tryz.ntmps131
  go_wp2
  go_loopw [4, 5] (fun sv iv wr => ∃ (k : Nat) (s : ByteArray), iv = .int .i64 k ∧ sv = .string s ∧ k ≤ xs.length ∧ s.size ≤ 64 ∧ Hid (w = wr) ∧ Hid (s.data.toList = joinL (ns.take k))) (fun _ iv _ => xs.length - (intOf iv).toNat)
  case atStart => exact ⟨0, ⟨#[]⟩, rfl, rfl, Nat.zero_le _, by simp [ByteArray.size], rfl, by simp [Hid, joinL]⟩
  case round =>
    obtain ⟨k, s, rfl, rfl, hk, hsz, hw, HS⟩ := hrel
    obtain ⟨wo, rfl⟩ : ∃ wo, wo = wr := ⟨_, rfl⟩
    have hw' := hw.out
    by_cases hlt : k < xs.length
    · obtain ⟨a, rfl, hc⟩ := row_str_at (hw' ▸ hr) k hlt
      have HN := Lib.hid (HNM.out k hlt)
      have HS2 := Lib.hid (HSTEP.out k hlt s HS.out)
      have hs2 := HSIZE.out _ _ HS2.out
      have hb1 : s.size + 1 ≤ 9223372036854775807 := by omega
      have hb2 : (s ++ (⟨#[47]⟩ : ByteArray)).size + xs[k].size ≤ 9223372036854775807 := by
        rw [← ByteArray.size_append]; omega
      have hb3 : s.size + 1 + xs[k].size ≤ 9223372036854775807 := by rw [ByteArray.size_append] at hb2; exact hb2
      clear hw' 
      go_wp2_with (go_at_call 142; refine (rname_any _ _).mono ?_; rintro e w3 ⟨rfl, rfl⟩; rw [HN.out])
      go_roundw
      case rel => exact ⟨k + 1, _, by go_num, rfl, hlt, hs2, hw, HS2⟩
      case measure => simp [intOf]; omega
    · have hall : s.data.toList = joinL ns := by have := HS.out; rwa [List.take_of_length_le (by have := HL.out; omega)] at this
      have e10 : decide ((s.size : Int) > 64) = false := by simp; omega
      have hge : ¬ ((k : Int) < (xs.length : Int)) := by omega
      clear hw'
      by_cases h0 : ns = []
      · have hs0 : s.data.toList = [] := by rw [hall, h0]; rfl
        have e11 : s.toList.isEmpty = true := by rw [toList_eq, hs0]; rfl
        have hj : mkB (joinP ns) = ⟨#[47]⟩ := by rw [h0]; rfl
        have HJ := Lib.hid hj
        clear hj h0 hs0 hall
        go_wp2
        go_ret2
        exact ⟨by rw [HJ.out]; rfl, hw.out⟩
      · have hs1 : s.data.toList ≠ [] := by
          rw [hall]
          cases ns with
          | nil => exact absurd rfl h0
          | cons x xs => simp [joinL_cons]
        have e11 : s.toList.isEmpty = false := by rw [toList_eq]; simpa using hs1
        have hj : mkB (joinP ns) = s := by rw [joinP_ne h0, ← hall]; exact data_mkB s
        have HJ := Lib.hid hj
        clear hj h0 hs1 hall
        go_wp2
        go_ret2
        exact ⟨by rw [HJ.out]; rfl, hw.out⟩
theorem rjoin_at (A : Option Addr) (c m : Nat) (P : Nat → Prop) (ns : List (List UInt8)) (w : World) (hr : Row Kn.str P w A (ns.map mkB)) (hp : (joinP ns).length ≤ 64) (h1 : ns.length ≤ 8) (h3 : ns.all nameL = true) (hm : m ≤ ns.length) :
    Calls Tryz.prog 131 #[.slice A m c] w fun e w' => e = .returned (.tuple #[.string (mkB (joinP (ns.take m))), .int .i64 0]) ∧ w = w' := by
  have hl : ((ns.take m).map mkB).length = m := by simp; omega
  have := rjoin_any A c P ((ns.take m).map mkB) (ns.take m) w (by rw [List.map_take]; exact hr.take m) rfl (by rw [List.length_take]; omega) (joinP_le _ _ hp) (names_take _ h3)
  rwa [hl] at this

theorem heap_size_alloc' (w : World) (o : Obj) : (w.alloc o).heap.size = w.heap.size + 1 := by simp
def RLinePost (p : ByteArray) (w : World) (e : Ending) (w' : World) : Prop :=
  ∃ A c, e = .returned (.tuple #[.slice A (lineB p).length c, .int .i64 (errPath p)]) ∧ Row Kn.str (fun k => w.heap.size ≤ k) w' A (lineB p) ∧ Below w.heap.size w w'
set_option maxRecDepth 100000 in
set_option maxHeartbeats 1000000 in
theorem rline_any (p : ByteArray) (w : World) (hs : p.size ≤ 1073741824) : Calls Tryz.prog 96 #[.string p] w (RLinePost p w) := by
  rcases errPath_cases p with ⟨hp, ep⟩ | ⟨hp, ep⟩
  · have PO := pathOk hp
    have hP64 : (joinP (nm p)).length ≤ 64 := by rw [← PO.text, data_len]; exact PO.short
    have hfew := PO.few
    have hnames := PO.names
    have hfin : ∀ (T : List ByteArray) A c w', T = lineTo (nm p) (nm p).length → Own Kn.str 9 w.heap.size (fun _ => True) w' (.slice A T.length c) T → Below w.heap.size w w' → RLinePost p w (.returned (.tuple #[.slice A T.length c, .int .i64 0])) w' := fun T A c w' hT ho hb => by
      have e : lineB p = T := by unfold lineB; rw [if_pos hp, hT]
      unfold RLinePost
      rw [e, ep]
      have h1 := ho.plain (Q := fun _ => False) Kn.plain_str
      obtain ⟨A', c', hv, -, -, h3⟩ := h1.row
      injection hv with hA _ _
      subst hA
      exact ⟨A, c, rfl, h3.mono fun k hk => hk.elim (fun f => f.elim) (fun e => (h1.block_lt k e).1), hb⟩
    have hspl := rsplit_any p w hs
    unfold RSplitPost at hspl
    rw [ep, pathNames_nm] at hspl
    obtain ⟨ns, hns⟩ : ∃ ns, nm p = ns := ⟨_, rfl⟩
    rw [hns] at hspl hfin hnames hfew hP64
    have hml : (ns.map mkB).length = ns.length := by simp
    rw [hml] at hspl
    have HF := Lib.hid hfin
    have HS := Lib.hid hspl
    clear hfin hspl ep PO hp hns hml
    go_enter Tryz.func96, Tryz.ntmps96
    go_wp2_with (go_at_call 111; refine HS.out.mono ?_; rintro e w1 ⟨A1, c1, rfl, hr1, hc1, hb1⟩; have HR1 := Lib.hid hr1; have HB1 := Lib.hid hb1; clear hr1 hb1)
    go_loopw [6, 7] (fun lv iv wr => ∃ (i : Int) (m n : Nat) (A : Option Addr) (T : List ByteArray), iv = .int .i64 i ∧ i = (m : Int) - 1 ∧ lv = .slice A T.length n ∧ m ≤ ns.length + 1 ∧ T.length ≤ 16 - m ∧ Hid (Own Kn.str 9 w1.heap.size (fun _ => True) wr (.slice A T.length n) T) ∧ Hid (Below w1.heap.size w1 wr) ∧ Hid (if m = 0 then T = lineTo ns ns.length else T ++ lineTo ns (m - 1) = lineTo ns ns.length)) (fun _ iv _ => ((intOf iv) + 1).toNat)
    case atStart => exact ⟨ns.length, ns.length + 1, 0, none, [], rfl, by omega, rfl, Nat.le_refl _, Nat.zero_le _, Own.nil _ _ _ _ _, Below.refl _ _, by simp [Hid]⟩
    case round =>
      obtain ⟨i, m, n, A, T, rfl, him, rfl, hm, hT, hown, hbr, HT⟩ := hrel
      obtain ⟨wo, rfl⟩ : ∃ wo, wo = wr := ⟨_, rfl⟩
      have hsz := hbr.out.size
      cases m with
      | zero =>
        have hT2 := HT.out
        rw [if_pos rfl] at hT2
        have hf := Lib.hid (HF.out T A n wo hT2 (hown.out.lower HB1.out.size) (HB1.out.trans (hbr.out.mono HB1.out.size)))
        have him2 : i = -1 := by omega
        subst him2
        clear him
        clear hT2
        go_wp2
        go_ret2
        exact hf.out
      | succ k =>
        have him2 : i = (k : Int) := by omega
        subst him2
        clear him
        have hge : (k : Int) ≥ 0 := by omega
        have hkn : k ≤ ns.length := by omega
        have hcut := run_cut_to strElem A1 ns.length c1 k (by omega)
        have HRW := Lib.hid (HR1.out.below hbr.out)
        have h16 : (T.length + 1) * 16 ≤ 140737488355328 := by omega
        have hT2 := HT.out
        rw [if_neg (by omega), Nat.add_sub_cancel] at hT2
        have HT2 := Lib.hid hT2
        clear hT2
        go_wp2_with (first
          | (go_at_call 131; refine (rjoin_at A1 _ k _ ns _ HRW.out hP64 hfew hnames hkn).mono ?_; rintro e w3 ⟨rfl, rfl⟩)
          | (at_builtin; refine wpList_app_plain strElem Kn.plain_str w1.heap.size rfl (.tmp 31) (.tmp 33) rfl (v := .slice A T.length n) (xs := T) (ys := [mkB (joinP (ns.take k))]) rfl (hown.out.alloc _) rfl rfl (Row.newOnePlain (cs := [.string (mkB (joinP (ns.take k)))]) Kn.plain_str rfl) (by exact h16) (by rw [heap_size_alloc']; omega) ?_; intro A7 c7 w7 happ; have HA7 := Lib.hid happ; clear happ))
        go_roundw
        case rel =>
          have hl1 : (T ++ [mkB (joinP (ns.take k))]).length = T.length + 1 := by rw [List.length_append]; rfl
          refine ⟨(k : Int) - 1, k, c7, A7, T ++ [mkB (joinP (ns.take k))], by go_num, rfl, by rw [hl1], by omega, by rw [hl1]; omega, by have := HA7.out.own; rw [hl1]; exact this, ?_, ?_⟩
          · exact HA7.out.below (hbr.out.alloc hbr.out.size _) (by rw [heap_size_alloc']; omega) (fun q hq => (hown.out.block_lt q hq).1)
          · unfold Hid
            have := HT2.out
            cases k with
            | zero => rw [if_pos rfl]; simpa [lineTo, joinP] using this
            | succ j => rw [if_neg (by omega), Nat.add_sub_cancel]; rw [lineTo] at this; simpa using this
        case measure => simp [intOf]
  · have HP := Lib.hid ep
    have hfin : ∀ w', Below w.heap.size w w' → RLinePost p w (.returned (.tuple #[.slice none 0 0, .int .i64 41])) w' := fun w' hb => by
      have e : lineB p = [] := by unfold lineB; rw [if_neg (by rw [hp]; simp)]
      unfold RLinePost
      rw [e, ep]
      exact ⟨none, 0, rfl, Row.nil _ _ _ _, hb⟩
    have HF := Lib.hid hfin
    clear hfin hp ep
    go_enter Tryz.func96, Tryz.ntmps96
    go_wp2_with (go_at_call 111; refine (rsplit_any p w hs).mono ?_; rintro e w1 ⟨A, c, rfl, _, _, hb⟩; rw [HP.out])
    go_ret2
    exact HF.out _ hb
end Go.Proofs.YtalkdddeiebfmaaGreatDoor
