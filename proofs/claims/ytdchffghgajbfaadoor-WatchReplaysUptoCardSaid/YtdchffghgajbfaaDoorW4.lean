/- WatchReplays: the walk. -/
import Derived.Test.YtdchffghgajbfaaDoorM5
namespace Go.Proofs.YtdchffghgajbfaaDoor
open Go.RowKit

def markT : Tx := [109, 97, 114, 107]
theorem str_app_len {xs : List ByteArray} {s : ByteArray} : (xs ++ [s]).length = xs.length + 1 := by rw [List.length_append]; rfl
/-- behind Replay: its answer -/
def TextsV (T : List Tx) (wo : World) (v : Value) (wx : World) : Prop :=
  ∃ A c, v = .slice A T.length c ∧ Row Kn.str (fun _ => True) wx A (T.map mkB) ∧ T.length ≤ c ∧ c ≤ maxLen ∧ Below wo.heap.size wo wx
theorem TextsV.mk_ {T : List Tx} {wo w w' : World} {A : Option Addr} {c : Nat} (ho : Own Kn.str 9 w.heap.size (fun _ => True) w' (.slice A T.length c) (T.map mkB)) (hb : Below wo.heap.size wo w') : TextsV T wo (.slice A T.length c) w' := by
  obtain ⟨_, h2, h3, h4⟩ := ho.row'
  rw [List.length_map] at h3
  exact ⟨A, c, rfl, h2, h3, h4, hb⟩

set_option maxRecDepth 100000 in
set_option maxHeartbeats 1000000 in
theorem watchReplays_walk (kind : Int) (path : ByteArray) (A B : Option Addr) (c c2 : Nat) (P1 P2 : Nat → Prop) (names : List Tx) (l : List Ev) (w : World) (he : Env w) (hr1 : Row Kn.str P1 w A (names.map mkB)) (hr2 : Row kEvent P2 w B l)
    (hn : names.length ≤ 1073741824) (hl : l.length ≤ 1073741824) (hsn : ∀ t ∈ names, t.length ≤ 1073741824) (hse : ∀ e ∈ l, e.path.size ≤ 1073741824 ∧ e.name.size ≤ 1073741824) :
    Calls Tryd.prog 11 #[.int .i64 kind, .string path, .slice A names.length c, .slice B l.length c2] w fun e w' => e = .returned (.bool true) ∧ Below w.heap.size w w' := by
  have hlb : (l.length + 1) * 56 ≤ 140737488355328 := by omega
  obtain ⟨N, hNe⟩ : ∃ N, names.map mkB = N := ⟨_, rfl⟩
  have hNl : N.length = names.length := by rw [← hNe]; simp
  have HR1 := Lib.hid hr1
  have HNE := Lib.hid hNe
  have HNL := Lib.hid hNl
  have HSN := Lib.hid hsn
  have HSE := Lib.hid hse
  have h16 : (names.length + 1) * 16 ≤ 140737488355328 := by omega
  obtain ⟨R, hR⟩ : ∃ R, replayL kind path names l = R := ⟨_, rfl⟩
  have HRE := Lib.hid hR
  have T1 := True.intro
  have hr1n : Row Kn.str P1 w A N := by rw [← hNe]; exact hr1
  have HR1N := Lib.hid hr1n
  clear hr1 hr1n hNe hsn hse hR
  go_enter Tryd.func11, Tryd.ntmps11
  go_upto_region 5 with (first
    | (go_at_call 14; refine (known_any w he.ml).mono ?_; rintro e w0 ⟨rfl, hb0⟩; have HB0 := Lib.hid hb0; clear hb0)
    | (go_at_call 46; have T2 := T1; clear T1; refine (behind_at B c2 _ l _ (he.below HB0.out) (hr2.below HB0.out) hlb).mono ?_; rintro e w1 ⟨X1, cx, rfl, ho1, hb1⟩; have HX := Lib.hid ho1; have HB1 := Lib.hid (HB0.out.trans (hb1.mono HB0.out.size)); clear ho1 hb1; try dsimp only))
  have hz1 := HB1.out.size
  go_upto_region 7 with (first
    | (at_builtin; have T3 := T2; clear T2; refine wpList_app_plain strElem Kn.plain_str w1.heap.size rfl (.tmp 16) (.tmp 17) rfl (v := .slice none 0 0) (R := fun _ => True) rfl (Own.nil Kn.str 9 w1.heap.size _ w1) rfl hNl.symm (HR1N.out.below HB1.out) (by simp; omega) (Nat.le_refl _) ?_; intro N1 cn w2 happ
       have HN1 := Lib.hid (show Own Kn.str 9 w1.heap.size (fun _ => True) w2 (.slice N1 names.length cn) N by have := happ.own; simpa [hNl] using this)
       have HB2 := Lib.hid (happ.below (Below.refl w1.heap.size w1) (Nat.le_refl _) (fun k hk => (ownBlock_none hk).elim))
       clear happ)
    | (at_builtin; have T4 := T3; clear T3; refine wpList_app_plain strElem Kn.plain_str w1.heap.size rfl (.tmp 19) (.tmp 20) rfl (v := .slice N1 names.length cn) (xs := N) (ys := [mkB markT]) rfl (HN1.out.alloc _) rfl rfl (Row.newOnePlain (cs := [.string (mkB markT)]) Kn.plain_str rfl) (by rw [hNl]; exact h16) (by have := HB2.out.size; simp; omega) ?_; intro N2 cm w3 happ
       have HN2 := Lib.hid (show Own Kn.str 9 w1.heap.size (fun _ => True) w3 (.slice N2 (names.length + 1) cm) (N ++ [mkB markT]) by have := happ.own; simpa [hNl] using this)
       have HB3 := Lib.hid (happ.below (HB2.out.alloc HB2.out.size _) (by have := HB2.out.size; simp; omega) (fun q hq => (HN1.out.block_lt q hq).1))
       clear happ))
  have HX3 := Lib.hid (HX.out.below HB3.out)
  have HW3 := Lib.hid (HB1.out.trans (HB3.out.mono hz1))
  have HRN3 := Lib.hid (show Row Kn.str (fun _ => True) w3 N2 (names.map mkB) by
    have := HN2.out.row'.2.1.take N.length
    rw [List.take_left] at this
    rw [HNE.out]; exact this)
  have HRX3 := Lib.hid (show Row kEvent (fun _ => True) w3 X1 l by
    have := HX3.out.row'.2.1.take l.length
    rwa [List.take_left] at this)
  have hcm : names.length ≤ cm := by have := HN2.out.row'.2.2.1; rw [str_app_len, HNL.out] at this; omega
  have hcx : l.length ≤ cx := by have := HX3.out.row'.2.2.1; simp at this; omega
  have hcutN := run_cut_to strElem N2 (names.length + 1) cm names.length hcm
  have hcutX := run_cut_to evElem X1 (l.length + 1) cx l.length hcx
  have hd3 : Below w3.heap.size w3 w3.drew := (Below.refl _ _).drew
  have HREP := Lib.hid (replay_any kind path N2 X1 cm cx _ _ names l w3.drew ((he.below HW3.out).drew).ml (HRN3.out.below hd3) (HRX3.out.below hd3) hn hl HSN.out HSE.out)
  clear hd3
  go_cut [11] (fun s wx => ∃ w4, w4 = wx ∧ TextsV R w3 s w4)
  case first =>
    go_region_held3 (fun _ => True) (exact True.intro) (first
      | (go_at_call 47; have q := HREP.out; rw [HRE.out] at q; refine q.mono ?_; clear q; rintro e w4 ⟨A4, c4, rfl, ho4, hb4⟩; have HO4 := Lib.hid ho4; have HB4 := Lib.hid hb4; clear ho4 hb4))
    go_wp2_with fail
    go_meet
    exact ⟨_, rfl, TextsV.mk_ HO4.out (below_ofDrew HB4.out)⟩
  case rest =>
    obtain ⟨w4, rfl, A4, c4, rfl, hr4, hrc, hrm, hb4⟩ := hcut
    have HR4 := Lib.hid hr4
    have HB4 := Lib.hid hb4
    have HW4 := Lib.hid (HW3.out.trans (hb4.mono HW3.out.size))
    have HXB := Lib.hid (HX3.out.below hb4)
    have HNB := Lib.hid (HN2.out.below hb4)
    have hRl : R.length ≤ 9223372036854775807 := by unfold maxLen at hrm; omega
    have T5 := True.intro
    have hMl : (N ++ [mkB markT]).length = names.length + 1 := by rw [str_app_len, HNL.out]
    have hNi : names.length < (N ++ [mkB markT]).length := by omega
    obtain ⟨aN, hN2, -⟩ := row_str_at (HNB.out.row'.2.1) names.length hNi
    subst hN2
    have hcell : ∀ W, Below w4.heap.size w4 W → W.cell? (aN.add names.length) = some (.string (mkB markT)) := fun W hb => by
      obtain ⟨a', ha', hc'⟩ := row_str_at ((HNB.out.below hb).row'.2.1) names.length hNi
      cases ha'
      rw [List.getElem_append_right (by rw [HNL.out]; exact Nat.le_refl _)] at hc'
      simpa [HNL.out] using hc'
    have HCELL := Lib.hid hcell
    have emk : ((mkB markT).toList == [109, 97, 114, 107]) = true := by rw [mkB_toList]; rfl
    have HRR := Lib.hid (rreplay_any kind path A B c c2 _ _ names l w4 (HR1.out.below HW4.out) (hr2.below HW4.out) hn hl HSE.out)
    have hz4 := HW4.out.size
    clear hr4 hb4 hcutX hrc hrm hMl hNi hcell
    go_wp2_with (first
      | (go_at_call 49; have q := HRR.out; rw [HRE.out] at q; refine q.mono ?_; clear q; rintro e w5 ⟨A5, c5, rfl, ho5, hb5⟩
         have HR5 := Lib.hid (own_txt_row ho5).1; have HR45 := Lib.hid (HR4.out.below hb5); have HB5 := Lib.hid hb5; clear ho5 hb5; try dsimp only)
      | (go_at_call 48; have T6 := T5; clear T5; refine (sameTexts_any A4 A5 R.length R.length c4 c5 _ _ (R.map mkB) (R.map mkB) _ HR45.out HR5.out (List.length_map _) (List.length_map _) hRl).mono ?_; rintro e w6 ⟨rfl, hb6⟩; rw [decide_eq_true rfl]; have HB6 := Lib.hid (HB5.out.trans (hb6.mono HB5.out.size)); clear hb6)
      | (go_at_call 46; have HW6 := Lib.hid (HW4.out.trans (HB6.out.mono hz4)); refine (behind_at B c2 _ l _ (he.below HW6.out) (hr2.below HW6.out) hlb).mono ?_; rintro e w7 ⟨X7, c7, rfl, ho7, hb7⟩; have HO7 := Lib.hid ho7; have HB7 := Lib.hid (HB6.out.trans (hb7.mono HB6.out.size)); clear ho7 hb7; try dsimp only)
      | (go_at_call 23; refine (same_at X1 X7 (l.length + 1) cx c7 _ _ (l ++ [markE]) _ (HXB.out.below HB7.out).row'.2.1 HO7.out.row'.2.1 (by simp) (by omega)).mono ?_; rintro e w8 ⟨rfl, hb8⟩; have HB8 := Lib.hid (HB7.out.trans (hb8.mono HB7.out.size)); clear hb8)
      | (go_at_call 48; have T7 := T6; clear T6; refine (sameTexts_any (some aN) A names.length names.length cm c _ _ (names.map mkB) (names.map mkB) _ ((HRN3.out.below HB4.out).below HB8.out) ((HR1.out.below HW4.out).below HB8.out) (List.length_map _) (List.length_map _) (by omega)).mono ?_; rintro e w9 ⟨rfl, hb9⟩; rw [decide_eq_true rfl]; have HB9 := Lib.hid (HB8.out.trans (hb9.mono HB8.out.size)); have hc9 := HCELL.out _ HB9.out; clear hb9))
    go_ret
    exact ⟨rfl, HW4.out.trans (HB9.out.mono hz4)⟩
end Go.Proofs.YtdchffghgajbfaaDoor
