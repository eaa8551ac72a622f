/- The document's Replay. -/
import Derived.Test.YtdchffghgajbfaaDoorM4
namespace Go.Proofs.YtdchffghgajbfaaDoor
open Go.RowKit

theorem filter_step {T : List Tx} {j : Nat} (hj : j < T.length) (s : Tx) (b : Bool) (hb : decide (T[j] = s) = b) : ((T.take (j + 1)).filter fun y => !decide (y = s)).map mkB = ((T.take j).filter fun y => !decide (y = s)).map mkB ++ (if b then [] else [mkB T[j]]) := by
  subst hb
  rw [List.take_succ_eq_append_getElem hj, List.filter_append, List.map_append]
  congr 1
  by_cases h : T[j] = s <;> simp [h]
theorem TextsPost.placed {T : List Tx} {t : Tx} {A : Option Addr} {c : Nat} {P : Nat → Prop} {w : World} (x : ByteArray) (hx : x = mkB t) (hr : Row Kn.str P w A (T.map mkB)) (hl : T.length ≤ 1099511627776) (T2 : List Tx) (hT : T2 = placedL t T) :
    Calls Tryd.prog 78 #[.slice A T.length c, .string x] w (TextsPost T2 w) := by
  subst hx; subst hT
  exact placed_any A c P T t w hr hl
theorem own_txt_row {base : Nat} {w : World} {A : Option Addr} {n c : Nat} {T : List Tx} (h : Own Kn.str 9 base (fun _ => True) w (.slice A n c) (T.map mkB)) : Row Kn.str (fun _ => True) w A (T.map mkB) ∧ n = T.length ∧ n ≤ c := by
  obtain ⟨h1, h2, h3, _⟩ := h.row'
  rw [List.length_map] at h1
  rw [List.length_map] at h3
  exact ⟨h2, h1, by omega⟩

theorem rtext_val (x : Ev) (sB : ByteArray) (hs : Hid (mkB (textE x) = sB)) (w : World) (h : x.path.size + 1 + x.name.size ≤ 9223372036854775807) :
    Calls Tryd.prog 80 #[.agg #[.int .i64 x.ver, .int .i64 x.kind, .bool x.gone, .string x.path, .string x.name]] w fun e w' => e = .returned (.string sB) ∧ Below w.heap.size w w' := by
  have := rtext_any x w h
  rwa [hs.out] at this
set_option maxRecDepth 100000 in
set_option maxHeartbeats 2000000 in
theorem rreplay_any (kind : Int) (path : ByteArray) (A B : Option Addr) (c c2 : Nat) (P1 P2 : Nat → Prop) (names : List Tx) (l : List Ev) (w : World) (hr1 : Row Kn.str P1 w A (names.map mkB)) (hr2 : Row kEvent P2 w B l)
    (hn : names.length ≤ 1073741824) (hl : l.length ≤ 1073741824) (hse : ∀ e ∈ l, e.path.size ≤ 1073741824 ∧ e.name.size ≤ 1073741824) :
    Calls Tryd.prog 49 #[.int .i64 kind, .string path, .slice A names.length c, .slice B l.length c2] w (TextsPost (replayL kind path names l) w) := by
  have hN : (names.map mkB).length = names.length := by simp
  have hNk0 : ∀ N : List ByteArray, names.map mkB = N → ∀ k (h : k < names.length) (h' : k < N.length), N[k] = mkB (names[k]) := by rintro _ rfl k h h'; simp
  obtain ⟨N, hNe⟩ : ∃ N, names.map mkB = N := ⟨_, rfl⟩
  have HNK := Lib.hid (hNk0 N hNe)
  have hNl : N.length = names.length := by rw [← hNe]; exact hN
  have HNL := Lib.hid hNl
  have HSE := Lib.hid hse
  rw [hNe] at hr1
  clear hN hNk0 hNe hNl hse
  go_enter Tryd.func49, Tryd.ntmps49
  go_wp2
  go_loopw [9, 10] (fun ov iv wr => ∃ (k n : Nat) (C : Option Addr) (T : List Tx), iv = .int .i64 k ∧ ov = .slice C T.length n ∧ k ≤ names.length ∧ T.length ≤ k ∧ Hid (T = namesR (names.take k)) ∧ Hid (Own Kn.str 9 w.heap.size (fun _ => True) wr (.slice C T.length n) (T.map mkB)) ∧ Hid (Below w.heap.size w wr)) (fun _ iv _ => names.length - (intOf iv).toNat)
  case atStart => exact ⟨0, 0, none, [], rfl, rfl, Nat.zero_le _, Nat.le_refl _, by simp [Hid, namesR], Own.nil _ _ _ _ _, Below.refl _ _⟩
  case round =>
    obtain ⟨k, n, C, T, rfl, rfl, hk, hT, HT, hown, hbr⟩ := hrel
    obtain ⟨wo, rfl⟩ : ∃ wo, wo = wr := ⟨_, rfl⟩
    have hsz := hbr.out.size
    by_cases hlt : k < names.length
    · obtain ⟨a, rfl, hc⟩ := row_str_at (hr1.below hbr.out) k (by rw [HNL.out]; exact hlt)
      obtain ⟨x, hx⟩ : ∃ x, N[k]'(by rw [HNL.out]; exact hlt) = x := ⟨_, rfl⟩
      have hxe : x = mkB (names[k]) := by rw [← hx]; exact HNK.out k hlt _
      rw [hx] at hc
      obtain ⟨T2, hT2⟩ : ∃ T2, T2 = placedL (names[k]) T := ⟨_, rfl⟩
      have HC := Lib.hid (TextsPost.placed (c := n) x hxe (own_txt_row hown.out).1 (by omega) T2 hT2)
      have hl2 : T2.length ≤ k + 1 := by rw [hT2]; have := placedL_len (names[k]) T; omega
      have HT2 := Lib.hid (show T2 = namesR (names.take (k + 1)) by rw [hT2, HT.out, namesR_take hlt])
      clear hx hxe hT2
      go_wp2_with (go_at_call 78; refine HC.out.mono ?_; rintro e w2 ⟨A2, n2, rfl, ho2, hb2⟩; have HO2 := Lib.hid ho2; have HB2 := Lib.hid hb2; clear ho2 hb2)
      go_roundw
      case rel => exact ⟨k + 1, n2, A2, T2, by go_num, rfl, hlt, hl2, HT2, HO2.out.lower hsz, hbr.out.trans (HB2.out.mono hsz)⟩
      case measure => simp [intOf]; omega
    · have hge : ¬ ((k : Int) < (names.length : Int)) := by omega
      have hT0 := HT.out
      rw [List.take_of_length_le (by omega)] at hT0
      have HT0 := Lib.hid (show T = replayL kind path names (l.take 0) by rw [hT0]; simp [replayL])
      clear hT0
      have hTn : T.length ≤ names.length := by omega
      go_wp2
      go_loopw [9, 11] (fun ov iv wr => ∃ (i n : Nat) (C : Option Addr) (T : List Tx), iv = .int .i64 i ∧ ov = .slice C T.length n ∧ i ≤ l.length ∧ T.length ≤ names.length + i ∧ Hid (T = replayL kind path names (l.take i)) ∧ Hid (Own Kn.str 9 w.heap.size (fun _ => True) wr (.slice C T.length n) (T.map mkB)) ∧ Hid (Below w.heap.size w wr)) (fun _ iv _ => l.length - (intOf iv).toNat)
      case atStart => exact ⟨0, n, C, T, rfl, rfl, Nat.zero_le _, hTn, HT0, hown, hbr⟩
      case round =>
        clear hT HT hown hbr hge hTn HT0 hsz
        obtain ⟨i, n, C, T, rfl, rfl, hi, hT, HT, hown, hbr⟩ := hrel
        obtain ⟨wp, rfl⟩ : ∃ wp, wp = wr := ⟨_, rfl⟩
        have hsz := hbr.out.size
        by_cases hlt2 : i < l.length
        · obtain ⟨a, rfl, _, l0, l1, l2, l3, l4⟩ := ev_at (hr2.below hbr.out) i hlt2
          obtain ⟨x, hx⟩ : ∃ x, l[i] = x := ⟨_, rfl⟩
          have hsx := HSE.out l[i] (List.getElem_mem _)
          have hstep := replayL_take kind path names hlt2
          rw [hx] at l0 l1 l2 l3 l4 hsx hstep
          rw [← HT.out] at hstep
          have HST := Lib.hid hstep
          have HEV := Lib.hid (fun W (hb : Below wp.heap.size wp W) => (EvAt.mk l0 l1 l2 l3 l4).below hb)
          obtain ⟨hsx1, hsx2⟩ := hsx
          clear hx hstep
          by_cases hkd : x.kind = kind
          · have e1 : (x.kind != kind) = false := by simp [hkd]
            cases hu : underB x.path path
            · have HU := Lib.hid hu
              have HST2 := Lib.hid (HST.out.trans (stepR_skip (by rw [hu]; simp)))
              clear hu hkd
              go_wp2_with (go_at_call 79; refine (runder_any _ _ _ hsx1).mono ?_; rintro e w2 ⟨rfl, hb3⟩; rw [HU.out]; have HB3 := Lib.hid hb3; clear hb3)
              go_roundw
              case rel => exact ⟨i + 1, n, C, T, by go_num, rfl, hlt2, by omega, HST2.out.symm, hown.out.below HB3.out, hbr.out.trans (HB3.out.mono hsz)⟩
              case measure => simp [intOf]; omega
            · have HU := Lib.hid hu
              cases hg : x.gone
              · obtain ⟨T2, hT2⟩ : ∃ T2, T2 = placedL (textE x) T := ⟨_, rfl⟩
                have HST2 := Lib.hid (show T2 = replayL kind path names (l.take (i + 1)) by rw [HST.out, stepR_put (by rw [hu]; simp [hkd]) hg, hT2])
                have hl2 : T2.length ≤ names.length + (i + 1) := by rw [hT2]; have := placedL_len (textE x) T; omega
                have HPL := Lib.hid (fun W (hb : Below wp.heap.size wp W) => TextsPost.placed (c := n) (mkB (textE x)) rfl (own_txt_row (hown.out.below hb)).1 (by omega) T2 hT2)
                have HG := Lib.hid hg
                clear hu hkd hg hT2
                go_wp2_with (first
                  | (go_at_call 79; refine (runder_any _ _ _ hsx1).mono ?_; rintro e w2 ⟨rfl, hb3⟩; rw [HU.out]; have HB3 := Lib.hid hb3; obtain ⟨m0, m1, m2, m3, m4⟩ := HEV.out _ hb3; rw [HG.out] at m2; have HGX := HG; clear hb3)
                  | (go_at_call 80; have q := rtext_any x w2 (by omega); rw [HG.out] at q; refine q.mono ?_; clear q; rintro e w3 ⟨rfl, hb4⟩; have HB4 := Lib.hid (HB3.out.trans (hb4.mono HB3.out.size)); clear hb4)
                  | (go_at_call 78; refine (HPL.out w3 HB4.out).mono ?_; rintro e w4 ⟨A4, n4, rfl, ho4, hb4⟩; have HO4 := Lib.hid ho4; have HB5 := Lib.hid (HB4.out.trans (hb4.mono HB4.out.size)); clear ho4 hb4))
                go_roundw
                case rel => exact ⟨i + 1, n4, A4, T2, by go_num, rfl, hlt2, hl2, HST2, HO4.out.lower (Nat.le_trans hsz HB4.out.size), hbr.out.trans (HB5.out.mono hsz)⟩
                case measure => simp [intOf]; omega
              · obtain ⟨T2, hT2⟩ : ∃ T2, T2 = T.filter (fun y => !decide (y = textE x)) := ⟨_, rfl⟩
                have HST2 := Lib.hid (show T2 = replayL kind path names (l.take (i + 1)) by rw [HST.out, stepR_gone (by rw [hu]; simp [hkd]) hg, hT2])
                have hl2 : T2.length ≤ names.length + (i + 1) := by rw [hT2]; have := List.length_filter_le (fun y => !decide (y = textE x)) T; omega
                have HT2 := Lib.hid hT2
                have HG := Lib.hid hg
                obtain ⟨sB, hsB⟩ : ∃ sB, mkB (textE x) = sB := ⟨_, rfl⟩
                have HSB := Lib.hid hsB
                have hcat : x.path.size + 1 + x.name.size ≤ 9223372036854775807 := by omega
                clear hu hkd hg hT2 hsB
                go_wp2_with (go_at_call 79; refine (runder_any _ _ _ hsx1).mono ?_; rintro e w2 ⟨rfl, hb3⟩; rw [HU.out]; have HB3 := Lib.hid hb3; obtain ⟨m0, m1, m2, m3, m4⟩ := HEV.out _ hb3; rw [HG.out] at m2; clear hb3)
                clear m0 m1 m2 m3 m4
                go_loopw [12, 13] (fun rv jv wr => ∃ (j n3 : Nat) (C3 : Option Addr) (M : List ByteArray), jv = .int .i64 j ∧ rv = .slice C3 M.length n3 ∧ j ≤ T.length ∧ M.length ≤ j ∧ Hid (Own Kn.str 9 wp.heap.size (fun _ => True) wr (.slice C3 M.length n3) M) ∧ Hid (Below wp.heap.size wp wr) ∧ Hid (M = ((T.take j).filter fun y => !decide (y = textE x)).map mkB)) (fun _ jv _ => T.length - (intOf jv).toNat)
                case atStart => exact ⟨0, 0, none, [], rfl, rfl, Nat.zero_le _, Nat.le_refl _, Own.nil _ _ _ _ _, HB3, by simp [Hid]⟩
                case round =>
                  obtain ⟨j, n3, C3, M, rfl, rfl, hj, hM, hown3, hbr3, HM⟩ := hrel
                  obtain ⟨wq, rfl⟩ : ∃ wq, wq = wr := ⟨_, rfl⟩
                  have hsz3 := hbr3.out.size
                  by_cases hlt3 : j < T.length
                  · obtain ⟨a2, rfl, hc⟩ := row_str_at (own_txt_row (hown.out.below hbr3.out)).1 j (by rw [List.length_map]; exact hlt3)
                    obtain ⟨y, hy⟩ : ∃ y, (T.map mkB)[j]'(by rw [List.length_map]; exact hlt3) = y := ⟨_, rfl⟩
                    have hye : y = mkB (T[j]) := by rw [← hy]; simp
                    rw [hy] at hc
                    have hclt := World.block_lt_of_cell? wq _ hc
                    have hdec : (y.toList == sB.toList) = decide (T[j] = textE x) := by
                      rw [hye, ← HSB.out, mkB_toList, mkB_toList, Bool.eq_iff_iff]; simp
                    have bxc := fun z : BW wq => (z.h.cell hclt).trans hc
                    have bx := BW.evs (HEV.out _ hbr3.out)
                    have bx0 := fun z => (bx z).c0
                    have bx1 := fun z => (bx z).c1
                    have bx2 := fun z => (bx z).c2
                    have bx3 := fun z => (bx z).c3
                    have bx4 := fun z => (bx z).c4
                    have hjT : (j : Int) < (T.length : Int) := by omega
                    have h16 : (M.length + 1) * 16 ≤ 140737488355328 := by omega
                    have hyT := Lib.hid hye
                    clear bx hy hye
                    cases he : (y.toList == sB.toList)
                    · have hM2 := Lib.hid (filter_step hlt3 (textE x) false (by rw [← hdec, he]))
                      clear hdec
                      go_wp2_with fail
                      refine wp_region_pure (by kernel_rfl) (by kernel_rfl) ?_
                      repeat (first | go_big_quiet_step ((go_at_call 80; exact Calls.pure_of (rtext_val x sB HSB _ hcat))) | quiet_step ((go_at_call 80; exact Calls.pure_of (rtext_val x sB HSB _ hcat))))
                      refine wpQuiet_nil ?_
                      rintro _ ⟨z, rfl⟩
                      go_wp2_with (at_builtin; refine wpList_app_plain strElem Kn.plain_str wp.heap.size rfl (.tmp 78) (.tmp 83) rfl (v := .slice C3 M.length n3) (xs := M) (ys := [y]) rfl ((hown3.out.below z.h).alloc _) rfl rfl (Row.newOnePlain (cs := [.string y]) Kn.plain_str rfl) (by exact h16) (by have := z.h.size; simp; omega) ?_; intro A7 c7 w7 happ; have HA7 := Lib.hid happ; clear happ)
                      go_roundw
                      case rel =>
                        have hl1 : (M ++ [y]).length = M.length + 1 := by rw [List.length_append]; rfl
                        refine ⟨j + 1, c7, A7, M ++ [y], by go_num, by rw [hl1], hlt3, by rw [hl1]; omega, by have := HA7.out.own; rw [hl1]; exact this, HA7.out.below ((hbr3.out.trans (z.h.mono hsz3)).alloc (Nat.le_trans hsz3 z.h.size) _) (by have := z.h.size; simp; omega) (fun q hq => (hown3.out.block_lt q hq).1), ?_⟩
                        · unfold Hid; rw [hM2.out, ← HM.out, hyT.out]; rfl
                      case measure => simp [intOf]; omega
                    · have hM2 := Lib.hid (filter_step hlt3 (textE x) true (by rw [← hdec, he]))
                      clear hdec
                      go_wp2_with fail
                      refine wp_region_pure (by kernel_rfl) (by kernel_rfl) ?_
                      repeat (first | go_big_quiet_step ((go_at_call 80; exact Calls.pure_of (rtext_val x sB HSB _ hcat))) | quiet_step ((go_at_call 80; exact Calls.pure_of (rtext_val x sB HSB _ hcat))))
                      refine wpQuiet_nil ?_
                      rintro _ ⟨z, rfl⟩
                      go_wp2
                      go_roundw
                      case rel => exact ⟨j + 1, n3, C3, M, by go_num, rfl, hlt3, by omega, hown3.out.below z.h, hbr3.out.trans (z.h.mono hsz3), by unfold Hid; rw [hM2.out, ← HM.out]; simp⟩
                      case measure => simp [intOf]; omega
                  · have hge3 : ¬ ((j : Int) < (T.length : Int)) := by omega
                    have hMe := HM.out
                    rw [List.take_of_length_le (by omega), ← HT2.out] at hMe
                    have hml : M.length = T2.length := by rw [hMe, List.length_map]
                    have HO := Lib.hid (show Own Kn.str 9 w.heap.size (fun _ => True) wq (.slice C3 T2.length n3) (T2.map mkB) by rw [← hml, ← hMe]; exact hown3.out.lower hsz)
                    have HML := Lib.hid hml
                    clear hMe hml
                    go_wp2
                    go_roundw
                    case rel => exact ⟨i + 1, n3, C3, T2, by go_num, by rw [HML.out], hlt2, hl2, HST2, HO.out, hbr.out.trans (hbr3.out.mono hsz)⟩
                    case measure => simp [intOf]; omega
          · have e1 : (x.kind != kind) = true := by simpa using hkd
            have HST2 := Lib.hid (HST.out.trans (stepR_skip (by simp [hkd])))
            clear hkd
            go_wp2
            go_roundw
            case rel => exact ⟨i + 1, n, C, T, by go_num, rfl, hlt2, by omega, HST2.out.symm, hown, hbr⟩
            case measure => simp [intOf]; omega
        · have hge2 : ¬ ((i : Int) < (l.length : Int)) := by omega
          have hT2 := HT.out
          rw [List.take_of_length_le (by omega)] at hT2
          have HF := Lib.hid (show TextsPost (replayL kind path names l) w (.returned (.slice C T.length n)) wp by rw [← hT2]; exact ⟨C, n, rfl, hown.out, hbr.out⟩)
          clear hT2
          go_wp2
          go_ret
          exact HF.out
end Go.Proofs.YtdchffghgajbfaaDoor
