/- The layer's Replay: names up to date. -/
import Derived.Test.YtdchffghgajbfaaDoorM2
import Derived.Test.YtdchffghgajbfaaDoorIter
import Derived.Maps.OwnSet
import Derived.Test.YtdchffghgajbfaaDoorH4
import Derived.Test.YtdchffghgajbfaaDoorG0
namespace Go.Proofs.YtdchffghgajbfaaDoor
open Go.RowKit Go.Maps Go.WideMaps

theorem zeroInt (w : World) : (zeroValue 3).run Tryd.prog w = .ok (.int .i64 0) w := by kernel_rfl
/-- the map that Replay makes: its keys are these -/
def OwnKeys (w : World) (b n : Nat) (D : DataW Unit) (T : List Tx) : Prop := w.ownsMap Tryd.prog 9 (plainElem Tryd.prog 3) b n D ∧ KeyRel D T
section
variable {w w' : World} {b n : Nat} {D : DataW Unit} {T : List Tx}
theorem OwnKeys.below (h : OwnKeys w b n D T) (hb : Below w.heap.size w w') : OwnKeys w' b n D T := ⟨ownsMap_move h.1 (hb.block b (ownsMap_lt h.1)), h.2⟩
theorem OwnKeys.mono (h : OwnKeys w b n D T) {n' : Nat} (hn : n ≤ n') : OwnKeys w b n' D T := ⟨h.1.mono hn, h.2⟩
end
theorem flat_tx (P : Nat → Prop) (w : World) (T : List Tx) : Flat Kn.str P w (T.map mkB) (T.map encStr) := by
  induction T with
  | nil => exact Flat.nil _ _ _
  | cons x T ih => exact Flat.append (xs := [mkB x]) (cells := [encStr x]) (Flat.single (cs := [encStr x]) rfl) ih
def TextsPost (T : List Tx) (w : World) (e : Ending) (w' : World) : Prop :=
  ∃ A c, e = .returned (.slice A T.length c) ∧ Own Kn.str 9 w.heap.size (fun _ => True) w' (.slice A T.length c) (T.map mkB) ∧ Below w.heap.size w w'
theorem TextsPost.of_row {T : List Tx} {w w0 w' : World} {v : Value} (h : w'.ownsRow w0.heap.size 9 1 v T.length (T.map encStr)) (h0 : w.heap.size ≤ w0.heap.size) (hb : Below w.heap.size w w') : TextsPost T w (.returned v) w' := by
  have ho : Own Kn.str 9 w0.heap.size (fun _ => True) w' v (T.map mkB) := ⟨_, by rw [List.length_map]; exact h, flat_tx _ _ _⟩
  obtain ⟨A, c, rfl, _⟩ := ho.row
  rw [List.length_map] at ho ⊢
  exact ⟨A, c, rfl, ho.lower h0, hb⟩

/-- what one step of the second loop does to the keys -/
theorem stepR_skip {kind : Int} {path : ByteArray} {T : List Tx} {e : Ev} (h : (decide (e.kind = kind) && underB e.path path) = false) : stepR kind path T e = T := by unfold stepR; rw [h]; rfl
theorem stepR_gone {kind : Int} {path : ByteArray} {T : List Tx} {e : Ev} (h : (decide (e.kind = kind) && underB e.path path) = true) (hg : e.gone = true) : stepR kind path T e = T.filter fun x => !decide (x = textE e) := by unfold stepR; rw [if_pos h, if_pos hg]
theorem stepR_put {kind : Int} {path : ByteArray} {T : List Tx} {e : Ev} (h : (decide (e.kind = kind) && underB e.path path) = true) (hg : e.gone = false) : stepR kind path T e = placedL (textE e) T := by unfold stepR; rw [if_pos h, if_neg (by rw [hg]; simp)]

set_option maxRecDepth 100000 in
set_option maxHeartbeats 2000000 in
theorem replay_any (kind : Int) (path : ByteArray) (A B : Option Addr) (c c2 : Nat) (P1 P2 : Nat → Prop) (names : List Tx) (l : List Ev) (w : World) (hm : Ml w) (hr1 : Row Kn.str P1 w A (names.map mkB)) (hr2 : Row kEvent P2 w B l)
    (hn : names.length ≤ 1073741824) (hl : l.length ≤ 1073741824) (hsn : ∀ t ∈ names, t.length ≤ 1073741824) (hse : ∀ e ∈ l, e.path.size ≤ 1073741824 ∧ e.name.size ≤ 1073741824) :
    Calls Tryd.prog 47 #[.int .i64 kind, .string path, .slice A names.length c, .slice B l.length c2] w (TextsPost (replayL kind path names l) w) := by
  have hN : (names.map mkB).length = names.length := by simp
  have hNk0 : ∀ N : List ByteArray, names.map mkB = N → ∀ k (h : k < names.length) (h' : k < N.length), N[k] = mkB (names[k]) := by rintro _ rfl k h h'; simp
  obtain ⟨N, hNe⟩ : ∃ N, names.map mkB = N := ⟨_, rfl⟩
  have HNK := Lib.hid (hNk0 N hNe)
  have hNl : N.length = names.length := by rw [← hNe]; exact hN
  have HNL := Lib.hid hNl
  have HNE := Lib.hid hNe
  have HSN := Lib.hid hsn
  have HSE := Lib.hid hse
  rw [hNe] at hr1
  have hmm := @run_makeMap Tryd.prog
  clear hN hNk0 hNe hNl hsn hse
  go_enter Tryd.func47, Tryd.ntmps47
  go_wp2
  go_loopw [18] (fun iv wr => ∃ (k : Nat) (D : DataW Unit), iv = .int .i64 k ∧ k ≤ names.length ∧ Hid (OwnKeys wr w.heap.size k D (namesR (names.take k))) ∧ Hid (Below w.heap.size w wr)) (fun iv _ => names.length - (intOf iv).toNat)
  case atStart => exact ⟨0, .map [], rfl, Nat.zero_le _, ⟨World.ownsMap_made _ _ _ _, by simpa [namesR] using KeyRel.empty⟩, (Below.refl _ _).alloc (Nat.le_refl _) _⟩
  case round =>
    obtain ⟨k, D, rfl, hk, hown, hbr⟩ := hrel
    obtain ⟨wo, rfl⟩ : ∃ wo, wo = wr := ⟨_, rfl⟩
    by_cases hlt : k < names.length
    · obtain ⟨a, rfl, hc⟩ := row_str_at (hr1.below hbr.out) k (by rw [HNL.out]; exact hlt)
      obtain ⟨x, hx⟩ : ∃ x, N[k]'(by rw [HNL.out]; exact hlt) = x := ⟨_, rfl⟩
      have hxe : x = mkB (names[k]) := by rw [← hx]; exact HNK.out k hlt _
      rw [hx] at hc
      have hkey := key_of (names[k]) x hxe (by have := HSN.out _ (List.getElem_mem hlt); unfold maxLen; omega)
      obtain ⟨t, ht⟩ : ∃ t, names[k] = t := ⟨_, rfl⟩
      rw [ht] at hkey
      have HT := Lib.hid (show namesR (names.take (k + 1)) = placedL t (namesR (names.take k)) by rw [namesR_take hlt, ht])
      clear hx hxe ht
      go_wp2_with (first
        | (at_lookup; refine wpList_lookup_own_int _ rfl _ _ 124 rfl 9 3 .i64 strLaw Tryd.underlying124 Tryd.underlying3 (zeroInt _) w.heap.size k _ rfl hown.out.1 _ _ rfl hkey ?_; intro cnt hat hwc; clear hat hwc)
        | (at_mapUpdate; refine wpList_mapUpdate_own _ rfl _ _ _ 124 rfl 9 3 strLaw Tryd.underlying124 _ w.heap.size k _ rfl hown.out.1 (by unfold maxLen; omega) _ _ _ rfl rfl hkey _ [] (plainElem_int Tryd.underlying3 (wrap64_wf _)) ?_; intro w9 hown9 hgrow9; have HO9 := Lib.hid hown9; have HG9 := Lib.hid hgrow9; clear hown9 hgrow9))
      go_roundw
      case rel => exact ⟨k + 1, _, by go_num, hlt, ⟨HO9.out, by rw [HT.out]; exact hown.out.2.put _ _⟩, grown_below hbr.out HG9.out⟩
      case measure => simp [intOf]; omega
    · have hge : ¬ ((k : Int) < (names.length : Int)) := by omega
      have hown1 := hown.out
      rw [List.take_of_length_le (by omega)] at hown1
      have HO1 := Lib.hid (hown1.mono hk)
      clear hown1
      go_wp2
      go_loopw [29] (fun iv wr => ∃ (j : Nat) (D : DataW Unit), iv = .int .i64 j ∧ j ≤ l.length ∧ Hid (OwnKeys wr w.heap.size (names.length + j) D (replayL kind path names (l.take j))) ∧ Hid (Below w.heap.size w wr)) (fun iv _ => l.length - (intOf iv).toNat)
      case atStart => exact ⟨0, D, rfl, Nat.zero_le _, by unfold Hid; simpa [replayL] using HO1.out, hbr⟩
      case round =>
        obtain ⟨j, D2, rfl, hj, hown2, hb2⟩ := hrel
        obtain ⟨wp, rfl⟩ : ∃ wp, wp = wr := ⟨_, rfl⟩
        have hsz2 := hb2.out.size
        have hmr := hm.below hb2.out
        by_cases hlt2 : j < l.length
        · obtain ⟨a, rfl, _, l0, l1, l2, l3, l4⟩ := ev_at (hr2.below hb2.out) j hlt2
          obtain ⟨x, hx⟩ : ∃ x, l[j] = x := ⟨_, rfl⟩
          have hsx := HSE.out l[j] (List.getElem_mem _)
          have hstep := replayL_take kind path names hlt2
          rw [hx] at l0 l1 l2 l3 l4 hsx hstep
          have HST := Lib.hid hstep
          have hm1 : Ml (wp.alloc (.cells #[.int .i64 x.ver, .int .i64 x.kind, .bool x.gone, .string x.path, .string x.name] 41)) := hmr.below ((Below.refl _ _).alloc (Nat.le_refl _) _)
          have HB1 := Lib.hid ((Below.refl wp.heap.size wp).alloc (Nat.le_refl _) (.cells #[.int .i64 x.ver, .int .i64 x.kind, .bool x.gone, .string x.path, .string x.name] 41))
          obtain ⟨hsx1, hsx2⟩ := hsx
          have hcat1 : x.path.size + 1 ≤ 9223372036854775807 := by omega
          have hcat2 : x.path.size + 1 + x.name.size ≤ 9223372036854775807 := by omega
          have hkey := key_of (textE x) _ (text_bytes x) (by rw [← mkB_data (textE x), data_len, ← text_bytes, ByteArray.size_append, ByteArray.size_append]; unfold maxLen; have : (⟨#[32]⟩ : ByteArray).size = 1 := rfl; omega)
          clear hx hstep
          have hbb := heap_alloc_new wp (.cells #[.int .i64 x.ver, .int .i64 x.kind, .bool x.gone, .string x.path, .string x.name] 41)
          have p0 := cell_of_row _ wp.heap.size 0 _ _ _ hbb
          have p1 := cell_of_row _ wp.heap.size 1 _ _ _ hbb
          have p2 := cell_of_row _ wp.heap.size 2 _ _ _ hbb
          have p3 := cell_of_row _ wp.heap.size 3 _ _ _ hbb
          have p4 := cell_of_row _ wp.heap.size 4 _ _ _ hbb
          by_cases hkd : x.kind = kind
          · have e1 : (x.kind != kind) = false := by simp [hkd]
            cases hu : underB x.path path
            · have HU := Lib.hid hu
              have HST2 := Lib.hid (HST.out.trans (stepR_skip (by rw [hu]; simp)))
              clear hu hkd
              go_wp2_with (go_at_call 25; refine (under_any _ _ _ hm1).mono ?_; rintro e w2 ⟨rfl, hb3⟩; rw [HU.out]; have HB3 := Lib.hid (HB1.out.trans (hb3.mono HB1.out.size)); have hbx := (EvAt.mk (w := wp.alloc (.cells #[.int .i64 x.ver, .int .i64 x.kind, .bool x.gone, .string x.path, .string x.name] 41)) (a := ⟨wp.heap.size, 0, none⟩) (e := x) (p0.trans rfl) (p1.trans rfl) (p2.trans rfl) (p3.trans rfl) (p4.trans rfl)).below hb3; obtain ⟨m0, m1, m2, m3, m4⟩ := hbx; have HOB := Lib.hid (hown2.out.below HB3.out); have HBB := Lib.hid (hb2.out.trans (HB3.out.mono hsz2)); clear hb3)
              go_roundw
              case rel => exact ⟨j + 1, D2, by go_num, hlt2, by rw [HST2.out]; exact HOB.out.mono (by omega), HBB.out⟩
              case measure => simp [intOf]; omega
            · have HU := Lib.hid hu
              cases hg : x.gone
              · have HST2 := Lib.hid (HST.out.trans (stepR_put (by rw [hu]; simp [hkd]) hg))
                have HG := Lib.hid hg
                clear hu hkd hg
                go_wp2_with (first
                  | (go_at_call 25; refine (under_any _ _ _ hm1).mono ?_; rintro e w2 ⟨rfl, hb3⟩; rw [HU.out]; have HB3 := Lib.hid (HB1.out.trans (hb3.mono HB1.out.size)); have hbx := (EvAt.mk (w := wp.alloc (.cells #[.int .i64 x.ver, .int .i64 x.kind, .bool x.gone, .string x.path, .string x.name] 41)) (a := ⟨wp.heap.size, 0, none⟩) (e := x) (p0.trans rfl) (p1.trans rfl) (p2.trans rfl) (p3.trans rfl) (p4.trans rfl)).below hb3; obtain ⟨m0, m1, m2, m3, m4⟩ := hbx; rw [HG.out] at m2; have HOB := Lib.hid (hown2.out.below HB3.out); have HBB := Lib.hid (hb2.out.trans (HB3.out.mono hsz2)); clear hb3)
                  | (at_lookup; refine wpList_lookup_own_int _ rfl _ _ 124 rfl 9 3 .i64 strLaw Tryd.underlying124 Tryd.underlying3 (zeroInt _) w.heap.size (names.length + j) _ rfl HOB.out.1 _ _ rfl hkey ?_; intro cnt hat hwc; clear hat hwc)
                  | (at_mapUpdate; refine wpList_mapUpdate_own _ rfl _ _ _ 124 rfl 9 3 strLaw Tryd.underlying124 _ w.heap.size (names.length + j) _ rfl HOB.out.1 (by unfold maxLen; omega) _ _ _ rfl rfl hkey _ [] (plainElem_int Tryd.underlying3 (wrap64_wf _)) ?_; intro w9 hown9 hgrow9; have HO9 := Lib.hid hown9; have HG9 := Lib.hid hgrow9; clear hown9 hgrow9))
                go_roundw
                case rel => exact ⟨j + 1, _, by go_num, hlt2, ⟨HO9.out, by rw [HST2.out]; exact HOB.out.2.put _ _⟩, grown_below HBB.out HG9.out⟩
                case measure => simp [intOf]; omega
              · have HST2 := Lib.hid (HST.out.trans (stepR_gone (by rw [hu]; simp [hkd]) hg))
                have HG := Lib.hid hg
                clear hu hkd hg
                go_wp2_with (first
                  | (go_at_call 25; refine (under_any _ _ _ hm1).mono ?_; rintro e w2 ⟨rfl, hb3⟩; rw [HU.out]; have HB3 := Lib.hid (HB1.out.trans (hb3.mono HB1.out.size)); have hbx := (EvAt.mk (w := wp.alloc (.cells #[.int .i64 x.ver, .int .i64 x.kind, .bool x.gone, .string x.path, .string x.name] 41)) (a := ⟨wp.heap.size, 0, none⟩) (e := x) (p0.trans rfl) (p1.trans rfl) (p2.trans rfl) (p3.trans rfl) (p4.trans rfl)).below hb3; obtain ⟨m0, m1, m2, m3, m4⟩ := hbx; rw [HG.out] at m2; have HOB := Lib.hid (hown2.out.below HB3.out); have HBB := Lib.hid (hb2.out.trans (HB3.out.mono hsz2)); clear hb3)
                  | (at_delete; refine wpList_delete_own _ rfl _ _ 124 9 rfl 3 strLaw Tryd.underlying124 _ w.heap.size (names.length + j) _ rfl HOB.out.1 _ _ rfl hkey ?_; intro w9 hown9 hturn9; have HO9 := Lib.hid hown9; have HG9 := Lib.hid hturn9.grown; clear hown9 hturn9))
                go_roundw
                case rel => exact ⟨j + 1, _, by go_num, hlt2, ⟨World.ownsMap.mono HO9.out (by omega), by rw [HST2.out]; exact HOB.out.2.del _⟩, grown_below HBB.out HG9.out⟩
                case measure => simp [intOf]; omega
          · have e1 : (x.kind != kind) = true := by simpa using hkd
            have HST2 := Lib.hid (HST.out.trans (stepR_skip (by simp [hkd])))
            clear hkd
            go_wp2
            go_roundw
            case rel => exact ⟨j + 1, D2, by go_num, hlt2, by rw [HST2.out]; exact (hown2.out.below HB1.out).mono (by omega), hb2.out.trans (HB1.out.mono hsz2)⟩
            case measure => simp [intOf]; omega
        · have hge2 : ¬ ((j : Int) < (l.length : Int)) := by omega
          have hown3 := hown2.out
          rw [List.take_of_length_le (by omega)] at hown3
          have HO3 := Lib.hid hown3
          have hsize := ownsMap_size hown3.1
          have hmax : Maps.size D2 ≤ maxLen := by unfold maxLen; omega
          have hbytes : Maps.size D2 * 16 ≤ 140737488355328 := by omega
          clear hown3
          go_wp2_with (first
            | (go_at_call 77; refine (callsIn_wide.1 (Tryd.maps_Keys_77 (some w.heap.size) wp)).mono ?_; rintro e w7 ⟨rfl, rfl⟩)
            | (go_at_call 76; refine (callsIn_wide.1 (Tryd.slices_Sorted_keys_76_77 w.heap.size (names.length + j) D2 _ wp HO3.out.1 hmax hbytes)).mono ?_; rintro e w8 ⟨v, ss, rfl, hS, hrow, -, hb8⟩; have HS8 := Lib.hid hS; have HR8 := Lib.hid hrow; have HB8 := Lib.hid hb8; clear hS hrow hb8))
          go_ret
          have hsorted := HO3.out.2.sorted (replayL_asc kind path names l) HO3.out.1 strLaw Tryd.underlying9 HS8.out
          have hrow9 := HR8.out
          rw [show ss.mergeSort (fun x y => decide (x ≤ y)) = replayL kind path names l from hsorted, show ss.length = (replayL kind path names l).length by rw [← hsorted, List.length_mergeSort]] at hrow9
          exact TextsPost.of_row hrow9 (by simp; omega) ((hb2.out.alloc hsz2 _).trans (HB8.out.mono (by simp; omega)))
end Go.Proofs.YtdchffghgajbfaaDoor
