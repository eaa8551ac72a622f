/- The law's there: the walk. -/
import Derived.Test.YtdchffghgajbfaaDoorM6
import Derived.Test.YtdchffghgajbfaaDoorM5
namespace Go.Proofs.YtdchffghgajbfaaDoor
open Go.RowKit

theorem filter_len_le {T : List Tx} {s : Tx} : (T.filter fun y => !decide (y = s)).length ≤ T.length := List.length_filter_le _ _
set_option maxRecDepth 100000 in
set_option maxHeartbeats 2000000 in
theorem there_any (pb : Nat) (ver kind : Int) (path : ByteArray) (A : Option Addr) (c : Nat) (P : Nat → Prop) (L : List Ev) (w : World) (hm : Ml w) (hc2 : w.cell? ⟨pb, 2, none⟩ = some (.slice A L.length c)) (hr : Row kEvent P w A L) (hl : L.length ≤ 1073741824)
    (hse : ∀ e ∈ L, e.path.size ≤ 1073741824 ∧ e.name.size ≤ 1073741824) :
    Calls Tryd.prog 50 #[.pointer (some ⟨pb, 0, none⟩), .int .i64 ver, .int .i64 kind, .string path] w (TextsPost (thereL ver kind path L) w) := by
  have HSE := Lib.hid hse
  have hpl := World.block_lt_of_cell? w _ hc2
  clear hse
  go_enter Tryd.func50, Tryd.ntmps50
  go_wp2
  go_loopw [9, 10] (fun ov iv wr => ∃ (i n : Nat) (C : Option Addr) (T : List Tx), iv = .int .i64 i ∧ ov = .slice C T.length n ∧ i ≤ L.length ∧ T.length ≤ i ∧ Hid (T = thereL ver kind path (L.take i)) ∧ Hid (Own Kn.str 9 w.heap.size (fun _ => True) wr (.slice C T.length n) (T.map mkB)) ∧ Hid (Below w.heap.size w wr)) (fun _ iv _ => L.length - (intOf iv).toNat)
  case atStart => exact ⟨0, 0, none, [], rfl, rfl, Nat.zero_le _, Nat.le_refl _, by simp [Hid, thereL], Own.nil _ _ _ _ _, Below.refl _ _⟩
  case round =>
    obtain ⟨i, n, C, T, rfl, rfl, hi, hT, HT, hown, hbr⟩ := hrel
    obtain ⟨wp, rfl⟩ : ∃ wp, wp = wr := ⟨_, rfl⟩
    have hsz := hbr.out.size
    have hcp : wp.cell? ⟨pb, 2, none⟩ = some (.slice A L.length c) := (hbr.out.cell hpl).trans hc2
    by_cases hlt : i < L.length
    · obtain ⟨a, rfl, _, l0, l1, l2, l3, l4⟩ := ev_at (hr.below hbr.out) i hlt
      obtain ⟨x, hx⟩ : ∃ x, L[i] = x := ⟨_, rfl⟩
      have hsx := HSE.out L[i] (List.getElem_mem _)
      have hstep := thereL_take ver kind path hlt
      rw [hx] at l0 l1 l2 l3 l4 hsx hstep
      rw [← HT.out] at hstep
      have HST := Lib.hid hstep
      have hm1 : Ml (wp.alloc (.cells #[.int .i64 x.ver, .int .i64 x.kind, .bool x.gone, .string x.path, .string x.name] 41)) := (hm.below hbr.out).below ((Below.refl _ _).alloc (Nat.le_refl _) _)
      have HB1 := Lib.hid ((Below.refl wp.heap.size wp).alloc (Nat.le_refl _) (.cells #[.int .i64 x.ver, .int .i64 x.kind, .bool x.gone, .string x.path, .string x.name] 41))
      obtain ⟨hsx1, hsx2⟩ := hsx
      have hcat1 : x.path.size + 1 ≤ 9223372036854775807 := by omega
      have hcat2 : x.path.size + 1 + x.name.size ≤ 9223372036854775807 := by omega
      have hbb := heap_alloc_new wp (.cells #[.int .i64 x.ver, .int .i64 x.kind, .bool x.gone, .string x.path, .string x.name] 41)
      have p0 := cell_of_row _ wp.heap.size 0 _ _ _ hbb
      have p1 := cell_of_row _ wp.heap.size 1 _ _ _ hbb
      have p2 := cell_of_row _ wp.heap.size 2 _ _ _ hbb
      have p3 := cell_of_row _ wp.heap.size 3 _ _ _ hbb
      have p4 := cell_of_row _ wp.heap.size 4 _ _ _ hbb
      clear hx hstep hbb
      by_cases hv : x.ver ≤ ver
      · have e0 : decide (x.ver > ver) = false := by simp; omega
        by_cases hkd : x.kind = kind
        · have e1 : (x.kind != kind) = false := by simp [hkd]
          cases hu : underB x.path path
          · have HU := Lib.hid hu
            have HST2 := Lib.hid (HST.out.trans (stepV_skip (by rw [hu]; simp)))
            clear hu hkd hv
            go_wp2_with (go_at_call 25; refine (under_any _ _ _ hm1).mono ?_; rintro e w2 ⟨rfl, hb3⟩; rw [HU.out]; have HB3 := Lib.hid (HB1.out.trans (hb3.mono HB1.out.size)); clear hb3)
            go_roundw
            case rel => exact ⟨i + 1, n, C, T, by go_num, rfl, hlt, by omega, HST2.out.symm, hown.out.below HB3.out, hbr.out.trans (HB3.out.mono hsz)⟩
            case measure => simp [intOf]; omega
          · have HU := Lib.hid hu
            have HST2 := Lib.hid (HST.out.trans (stepV_do hv hkd hu))
            clear hu hkd hv
            go_upto_region 7 with (go_at_call 25; refine (under_any _ _ _ hm1).mono ?_; rintro e w2 ⟨rfl, hb3⟩; rw [HU.out]; have HB3 := Lib.hid (HB1.out.trans (hb3.mono HB1.out.size)); have hbx := (EvAt.mk (w := wp.alloc (.cells #[.int .i64 x.ver, .int .i64 x.kind, .bool x.gone, .string x.path, .string x.name] 41)) (a := ⟨wp.heap.size, 0, none⟩) (e := x) (p0.trans rfl) (p1.trans rfl) (p2.trans rfl) (p3.trans rfl) (p4.trans rfl)).below hb3; have HBX := Lib.hid hbx; obtain ⟨m0, m1, m2, m3, m4⟩ := hbx; clear hb3)
            clear p0 p1 p2 p3 p4
            go_cut [12] (fun s wx => ∃ sB, s = .string sB ∧ sB = mkB (textE x) ∧ w2 = wx)
            case first =>
              go_wp2
              go_meet
              exact ⟨_, rfl, text_bytes x, rfl⟩
            case rest =>
              obtain ⟨sB, rfl, hsB, rfl⟩ := hcut
              have HSB := Lib.hid hsB
              have hT2l := filter_len_le (T := T) (s := textE x)
              have hz2 := HB3.out.size
              clear hsB m0 m1 m2 m3 m4
              go_wp2
              go_loopw [13, 14] (fun rv jv wr => ∃ (j n3 : Nat) (C3 : Option Addr) (M : List ByteArray), jv = .int .i64 j ∧ rv = .slice C3 M.length n3 ∧ j ≤ T.length ∧ M.length ≤ j ∧ Hid (Own Kn.str 9 w2.heap.size (fun _ => True) wr (.slice C3 M.length n3) M) ∧ Hid (Below w2.heap.size w2 wr) ∧ Hid (M = ((T.take j).filter fun y => !decide (y = textE x)).map mkB)) (fun _ jv _ => T.length - (intOf jv).toNat)
              case atStart => exact ⟨0, 0, none, [], rfl, rfl, Nat.zero_le _, Nat.le_refl _, Own.nil _ _ _ _ _, Lib.hid (Below.refl _ _), by simp [Hid]⟩
              case round =>
                obtain ⟨j, n3, C3, M, rfl, rfl, hj, hM, hown3, hbr3, HM⟩ := hrel
                obtain ⟨wq, rfl⟩ : ∃ wq, wq = wr := ⟨_, rfl⟩
                have hsz3 := hbr3.out.size
                have HB4 := Lib.hid (HB3.out.trans (hbr3.out.mono hz2))
                by_cases hlt3 : j < T.length
                · obtain ⟨a2, rfl, hc⟩ := row_str_at (own_txt_row (hown.out.below HB4.out)).1 j (by rw [List.length_map]; exact hlt3)
                  obtain ⟨y, hy⟩ : ∃ y, (T.map mkB)[j]'(by rw [List.length_map]; exact hlt3) = y := ⟨_, rfl⟩
                  have hye : y = mkB (T[j]) := by rw [← hy]; simp
                  rw [hy] at hc
                  have hdec : (y.toList == sB.toList) = decide (T[j] = textE x) := by
                    rw [hye, HSB.out, mkB_toList, mkB_toList, Bool.eq_iff_iff]; simp
                  have hjT : (j : Int) < (T.length : Int) := by omega
                  have h16 : (M.length + 1) * 16 ≤ 140737488355328 := by omega
                  have hyT := Lib.hid hye
                  clear hy hye
                  cases he : (y.toList == sB.toList)
                  · have hM2 := Lib.hid (filter_step hlt3 (textE x) false (by rw [← hdec, he]))
                    clear hdec
                    go_wp2_with (at_builtin; refine wpList_app_plain strElem Kn.plain_str w2.heap.size rfl (.tmp 66) (.tmp 71) rfl (v := .slice C3 M.length n3) (xs := M) (ys := [y]) rfl (hown3.out.alloc _) rfl rfl (Row.newOnePlain (cs := [.string y]) Kn.plain_str rfl) (by exact h16) (by simp; omega) ?_; intro A7 c7 w7 happ; have HA7 := Lib.hid happ; clear happ)
                    go_roundw
                    case rel =>
                      have hl1 : (M ++ [y]).length = M.length + 1 := by rw [List.length_append]; rfl
                      refine ⟨j + 1, c7, A7, M ++ [y], by go_num, by rw [hl1], hlt3, by rw [hl1]; omega, by have := HA7.out.own; rw [hl1]; exact this, HA7.out.below (hbr3.out.alloc hsz3 _) (by simp; omega) (fun q hq => (hown3.out.block_lt q hq).1), ?_⟩
                      unfold Hid; rw [hM2.out, ← HM.out, hyT.out]; rfl
                    case measure => simp [intOf]; omega
                  · have hM2 := Lib.hid (filter_step hlt3 (textE x) true (by rw [← hdec, he]))
                    clear hdec
                    go_wp2
                    go_roundw
                    case rel => exact ⟨j + 1, n3, C3, M, by go_num, rfl, hlt3, by omega, hown3, hbr3, by unfold Hid; rw [hM2.out, ← HM.out]; simp⟩
                    case measure => simp [intOf]; omega
                · have hge3 : ¬ ((j : Int) < (T.length : Int)) := by omega
                  have hMe := HM.out
                  rw [List.take_of_length_le (by omega)] at hMe
                  have HME := Lib.hid hMe
                  have HEQ := HBX.out.below hbr3.out
                  obtain ⟨m0, m1, m2, m3, m4⟩ := HEQ
                  have h16 : (M.length + 1) * 16 ≤ 140737488355328 := by omega
                  have hMl : M.length = (T.filter fun y => !decide (y = textE x)).length := by rw [hMe, List.length_map]
                  have HML := Lib.hid hMl
                  have hMT : M.length ≤ T.length := by rw [hMl]; exact hT2l
                  clear hMe hMl
                  cases hg : x.gone
                  · have HST3 := Lib.hid (show (T.filter fun y => !decide (y = textE x)) ++ [textE x] = thereL ver kind path (L.take (i + 1)) by rw [HST2.out, hg]; rfl)
                    rw [hg] at m2
                    go_wp2_with (at_builtin; refine wpList_app_plain strElem Kn.plain_str w2.heap.size rfl (.tmp 76) (.tmp 78) rfl (v := .slice C3 M.length n3) (xs := M) (ys := [sB]) rfl (hown3.out.alloc _) rfl rfl (Row.newOnePlain (cs := [.string sB]) Kn.plain_str rfl) (by exact h16) (by simp; omega) ?_; intro A7 c7 w7 happ; have HA7 := Lib.hid happ; clear happ)
                    go_roundw
                    case rel =>
                      have hl1 : ((T.filter fun y => !decide (y = textE x)) ++ [textE x]).length = M.length + 1 := by rw [List.length_append, ← HML.out]; rfl
                      refine ⟨i + 1, c7, A7, (T.filter fun y => !decide (y = textE x)) ++ [textE x], by go_num, by rw [hl1], hlt, by rw [hl1]; omega, HST3.out, ?_, ?_⟩
                      · unfold Hid
                        rw [hl1, List.map_append, ← HME.out, List.map_cons, List.map_nil, ← HSB.out]
                        exact HA7.out.own.lower (Nat.le_trans hsz hz2)
                      · exact hbr.out.trans ((HB3.out.trans ((HA7.out.below (hbr3.out.alloc hsz3 _) (by simp; omega) (fun q hq => (hown3.out.block_lt q hq).1)).mono hz2)).mono hsz)
                    case measure => simp [intOf]; omega
                  · have HST3 := Lib.hid (show (T.filter fun y => !decide (y = textE x)) = thereL ver kind path (L.take (i + 1)) by rw [HST2.out, hg]; simp)
                    rw [hg] at m2
                    go_wp2
                    go_roundw
                    case rel =>
                      refine ⟨i + 1, n3, C3, T.filter fun y => !decide (y = textE x), by go_num, by rw [← HML.out], hlt, by rw [← HML.out]; omega, HST3.out, ?_, hbr.out.trans (HB4.out.mono hsz)⟩
                      unfold Hid
                      rw [← HML.out, ← HME.out]
                      exact hown3.out.lower (Nat.le_trans hsz hz2)
                    case measure => simp [intOf]; omega
        · have e1 : (x.kind != kind) = true := by simpa using hkd
          have HST2 := Lib.hid (HST.out.trans (stepV_skip (by simp [hkd])))
          clear hkd hv
          go_wp2
          go_roundw
          case rel => exact ⟨i + 1, n, C, T, by go_num, rfl, hlt, by omega, HST2.out.symm, hown.out.below HB1.out, hbr.out.trans (HB1.out.mono hsz)⟩
          case measure => simp [intOf]; omega
      · have e0 : decide (x.ver > ver) = true := by simp; omega
        have HST2 := Lib.hid (HST.out.trans (stepV_skip (by simp [hv])))
        clear hv
        go_wp2
        go_roundw
        case rel => exact ⟨i + 1, n, C, T, by go_num, rfl, hlt, by omega, HST2.out.symm, hown.out.below HB1.out, hbr.out.trans (HB1.out.mono hsz)⟩
        case measure => simp [intOf]; omega
    · have hge2 : ¬ ((i : Int) < (L.length : Int)) := by omega
      have hT2 := HT.out
      rw [List.take_of_length_le (by omega)] at hT2
      have HF := Lib.hid (show TextsPost (thereL ver kind path L) w (.returned (.slice C T.length n)) wp by rw [← hT2]; exact ⟨C, n, rfl, hown.out, hbr.out⟩)
      clear hT2
      go_wp2
      go_ret
      exact HF.out
end Go.Proofs.YtdchffghgajbfaaDoor
