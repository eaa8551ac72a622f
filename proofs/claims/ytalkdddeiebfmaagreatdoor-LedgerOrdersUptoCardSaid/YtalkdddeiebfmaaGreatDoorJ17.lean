/- The ledger's comparison of two rows: the walk. -/
import Derived.Test.YtalkdddeiebfmaaGreatDoorJ16
namespace Go.Proofs.YtalkdddeiebfmaaGreatDoor
open Go.RowKit Go.Sort

def orL : List Int → Int
  | [] => 0
  | a :: l => if a ≠ 0 then a else orL l
theorem row_int_at {P : Nat → Prop} {w : World} {A : Option Addr} {ss : List Int} (h : Row (Kn.int .i64) P w A ss) (i : Nat) (hi : i < ss.length) : ∃ a, A = some a ∧ w.cell? (a.add i) = some (.int .i64 ss[i]) := by
  obtain ⟨a, cs, hA, _, hr, hc⟩ := h.at_ i hi
  refine ⟨a, hA, ?_⟩
  have := hc 0 (.int .i64 ss[i]) (by rw [show cs = [Value.int .i64 ss[i]] from hr]; rfl)
  simpa [Kn.int, Kn.scalar] using this
theorem Row.newInts (w : World) (xs : List Int) (cs : Array Value) (hc : cs = (xs.map (Value.int .i64)).toArray) : Row (Kn.int .i64) (fun _ => True) (w.alloc (.cells cs 3)) (some ⟨w.heap.size, 0, none⟩) xs := fun _ =>
  ⟨_, rfl, trivial, xs.map (Value.int .i64), ⟨by simp [Kn.int, Kn.scalar], fun i hi => by
    show ((xs.map (Value.int .i64)).drop (i * 1)).take 1 = [Value.int .i64 xs[i]]
    rw [Nat.mul_one, List.drop_eq_getElem_cons (by simpa using hi)]
    simp⟩, fun j u hu => by
    rw [add_new, cell_of_row _ _ _ _ _ _ (heap_alloc_new w _), hc]; simpa using hu⟩
set_option maxRecDepth 100000 in
theorem cmpOr_any (A : Option Addr) (c : Nat) (P : Nat → Prop) (xs : List Int) (w : World) (hx : Row (Kn.int .i64) P w A xs) (h1 : xs.length ≤ 9223372036854775806) :
    Calls Tryz.prog 33 #[.slice A xs.length c] w fun e w' => e = .returned (.int .i64 (orL xs)) ∧ D.Below w.heap.size w w' := by
  have HX := Lib.hid hx
  clear hx
  go_enter Tryz.func33, Tryz.ntmps33
  go_wp2
  go_loopw [8] (fun iv wr => ∃ i : Nat, iv = .int .i64 i ∧ i ≤ xs.length ∧ Hid (D.Below w.heap.size w wr) ∧ Hid (orL xs = orL (xs.drop i))) (fun iv _ => xs.length - (intOf iv).toNat)
  case atStart => exact ⟨0, rfl, Nat.zero_le _, D.Below.refl _ _, by simp [Hid]⟩
  case round =>
    obtain ⟨i, rfl, hi, hb, hc⟩ := hrel
    obtain ⟨wo, rfl⟩ : ∃ wo, wo = wr := ⟨_, rfl⟩
    by_cases hlt : i < xs.length
    · obtain ⟨a, rfl, x0⟩ := row_int_at (HX.out.below hb.out.toB) i hlt
      have hlti : (i : Int) < (xs.length : Int) := by omega
      have HD := Lib.hid (show orL (xs.drop i) = if xs[i] ≠ 0 then xs[i] else orL (xs.drop (i + 1)) by rw [List.drop_eq_getElem_cons hlt]; rfl)
      obtain ⟨z, hz⟩ : ∃ z, xs[i] = z := ⟨_, rfl⟩
      rw [hz] at x0 HD
      clear hz
      by_cases hz0 : z = 0
      · subst hz0
        have HE := Lib.hid (show orL xs = orL (xs.drop (i + 1)) by rw [hc.out, HD.out, if_neg (by simp)])
        have HB := Lib.hid hb.out
        clear hb hc HD
        go_wp2
        go_roundw
        case rel => exact ⟨i + 1, by go_num, hlt, HB.out, HE.out⟩
        case measure => simp [intOf]; omega
      · have HE := Lib.hid (show orL xs = z by rw [hc.out, HD.out, if_pos hz0])
        have e2 : (z != 0) = true := by simpa using hz0
        have HB := Lib.hid hb.out
        clear hb hc HD hz0
        go_wp2
        go_ret
        exact ⟨by rw [HE.out]; rfl, HB.out⟩
    · have hge : ¬ ((i : Int) < (xs.length : Int)) := by omega
      have HE := Lib.hid (show orL xs = 0 by rw [hc.out, (List.drop_eq_nil_of_le (by omega) : xs.drop i = [])]; rfl)
      have HB := Lib.hid hb.out
      clear hb hc
      go_wp2
      go_ret
      exact ⟨by rw [HE.out]; rfl, HB.out⟩
theorem BJD {a w w' : World} (h : D.Below w.heap.size w w') (k : D.Below a.heap.size a w) : D.Below a.heap.size a w' := k.trans (h.mono k.size)
theorem cmpU_or (x y : Sh) : cmpU x y = orL [cmpNames (pathNames x.1.1) (pathNames y.1.1), cmpI x.1.2.1.1 y.1.2.1.1, cmpI x.1.2.1.2 y.1.2.1.2, cmpB x.1.2.2 y.1.2.2] := by
  unfold cmpU lexC onC
  simp only [orL]
  repeat' split
  all_goals first | rfl | omega
set_option maxRecDepth 100000 in
set_option maxHeartbeats 2000000 in
theorem rowsFn_any (x y : Sh) (W : World) (hm : Ml W) : Calls Tryz.prog 32 #[.agg #[.string x.1.1, .int .i64 x.1.2.1.1, .int .i64 x.1.2.1.2, .string x.1.2.2, .int .i64 x.2], .agg #[.string y.1.1, .int .i64 y.1.2.1.1, .int .i64 y.1.2.1.2, .string y.1.2.2, .int .i64 y.2]] W fun e w' => e = .returned (.int .i64 (cmpU x y)) ∧ D.Below W.heap.size W w' := by
  rw [cmpU_or]
  obtain ⟨⟨p, ⟨k, a⟩, r⟩, v⟩ := x
  obtain ⟨⟨p', ⟨k', a'⟩, r'⟩, v'⟩ := y
  simp only
  obtain ⟨N, hN⟩ : ∃ N, pathNames p = N := ⟨_, rfl⟩
  obtain ⟨N', hN'⟩ : ∃ N, pathNames p' = N := ⟨_, rfl⟩
  have HP := Lib.hid (fun w hm => (by have h := names_any p w hm; unfold NamesPost at h; rw [hN] at h; exact h : Calls Tryz.prog 35 #[.string p] w fun e w' => ∃ A c, e = .returned (.slice A N.length c) ∧ Row Kn.str (fun _ => True) w' A N ∧ D.Below w.heap.size w w'))
  have HP' := Lib.hid (fun w hm => (by have h := names_any p' w hm; unfold NamesPost at h; rw [hN'] at h; exact h : Calls Tryz.prog 35 #[.string p'] w fun e w' => ∃ A c, e = .returned (.slice A N'.length c) ∧ Row Kn.str (fun _ => True) w' A N' ∧ D.Below w.heap.size w w'))
  have hl : ∀ q : ByteArray, (pathNames q).length ≤ 8 := fun q => by
    rw [pathNames_nm, List.length_map]
    by_cases h : isPath q = true
    · exact (pathOk h).few
    · have : nm q = [] := by
        unfold nm
        unfold isPath at h
        rw [Bool.not_eq_true, Option.isSome_eq_false_iff, Option.isNone_iff_eq_none] at h
        rw [h]; rfl
      rw [this]; simp
  have hl1 := hl p
  have hl2 := hl p'
  rw [hN] at hl1 ⊢
  rw [hN'] at hl2 ⊢
  clear hN hN' hl
  have hx := heap_alloc_new W (.cells #[.string p, .int .i64 k, .int .i64 a, .string r, .int .i64 v] 49)
  have hb1 := (D.Below.refl W.heap.size W).alloc (Nat.le_refl _) (.cells #[.string p, .int .i64 k, .int .i64 a, .string r, .int .i64 v] 49)
  obtain ⟨w1, hw1⟩ : ∃ w1, W.alloc (.cells #[.string p, .int .i64 k, .int .i64 a, .string r, .int .i64 v] 49) = w1 := ⟨_, rfl⟩
  have hs1 : w1.heap.size = W.heap.size + 1 := by rw [← hw1]; simp
  rw [hw1] at hx hb1
  have hy := heap_alloc_new w1 (.cells #[.string p', .int .i64 k', .int .i64 a', .string r', .int .i64 v'] 49)
  have hb2 := (D.Below.refl w1.heap.size w1).alloc (Nat.le_refl _) (.cells #[.string p', .int .i64 k', .int .i64 a', .string r', .int .i64 v'] 49)
  obtain ⟨w2, hw2⟩ : ∃ w2, w1.alloc (.cells #[.string p', .int .i64 k', .int .i64 a', .string r', .int .i64 v'] 49) = w2 := ⟨_, rfl⟩
  rw [hw2] at hy hb2
  have hx2 := (hb2.block W.heap.size (by omega)).trans hx
  rw [hs1] at hy
  have HW := Lib.hid (BJD hb2 hb1)
  have HML := Lib.hid (hm.below HW.out.toB)
  have HS := Lib.hid (show ∀ w', Go.RowKit.Below w2.heap.size w2 w' → (w'.cell? ⟨W.heap.size, 0, none⟩ = some (.string p) ∧ w'.cell? ⟨W.heap.size, 1, none⟩ = some (.int .i64 k) ∧ w'.cell? ⟨W.heap.size, 2, none⟩ = some (.int .i64 a) ∧ w'.cell? ⟨W.heap.size, 3, none⟩ = some (.string r) ∧ w'.cell? ⟨W.heap.size + 1, 0, none⟩ = some (.string p') ∧ w'.cell? ⟨W.heap.size + 1, 1, none⟩ = some (.int .i64 k') ∧ w'.cell? ⟨W.heap.size + 1, 2, none⟩ = some (.int .i64 a') ∧ w'.cell? ⟨W.heap.size + 1, 3, none⟩ = some (.string r')) from fun w' hb => by
    have h1 := (hb.block W.heap.size (Array.getElem?_eq_some_iff.1 hx2).1).trans hx2
    have h2 := (hb.block (W.heap.size + 1) (Array.getElem?_eq_some_iff.1 hy).1).trans hy
    exact ⟨cell_of_row _ _ _ _ _ _ h1, cell_of_row _ _ _ _ _ _ h1, cell_of_row _ _ _ _ _ _ h1, cell_of_row _ _ _ _ _ _ h1, cell_of_row _ _ _ _ _ _ h2, cell_of_row _ _ _ _ _ _ h2, cell_of_row _ _ _ _ _ _ h2, cell_of_row _ _ _ _ _ _ h2⟩)
  have hl64 : N.length ≤ 9223372036854775806 := by omega
  have hl65 : N'.length ≤ 9223372036854775806 := by omega
  have T1 := True.intro
  have U1 := True.intro
  clear hx hb1 hy hb2 hx2 hm
  go_enter Tryz.func32, Tryz.ntmps32
  go_upto_region 1 with fail
  clear hw1 hw2 hs1
  go_cut [4] (fun s wx => s = .int .i64 (orL [cmpNames N N', cmpI k k', cmpI a a', cmpB r r']) ∧ D.Below w2.heap.size w2 wx)
  case first =>
    go_region_held3 (fun w' => w'.cell? ⟨W.heap.size, 0, none⟩ = some (.string p) ∧ w'.cell? ⟨W.heap.size, 1, none⟩ = some (.int .i64 k) ∧ w'.cell? ⟨W.heap.size, 2, none⟩ = some (.int .i64 a) ∧ w'.cell? ⟨W.heap.size, 3, none⟩ = some (.string r) ∧ w'.cell? ⟨W.heap.size + 1, 0, none⟩ = some (.string p') ∧ w'.cell? ⟨W.heap.size + 1, 1, none⟩ = some (.int .i64 k') ∧ w'.cell? ⟨W.heap.size + 1, 2, none⟩ = some (.int .i64 a') ∧ w'.cell? ⟨W.heap.size + 1, 3, none⟩ = some (.string r')) (exact HS.out _ (D.Below.toB (by repeat (first | exact HB8.out | exact HK3.out | exact HK2.out | exact HK1.out | exact D.Below.refl _ _ | refine D.Below.drew ?_ | refine D.Below.alloc ?_ (by have := HK3.out.size; simp; try omega) _)))) (first
      | (go_at_call 35; have T2 := T1; clear T1; refine (HP.out _ ?_).mono ?_; exact HML.out.below (D.Below.toB (by repeat (first | exact D.Below.refl _ _ | refine D.Below.drew ?_))); rintro e v1 ⟨A1, c1, rfl, hr1, hb1⟩; have HR1 := Lib.hid hr1; clear hr1; have HK1 := Lib.hid (show D.Below w2.heap.size w2 v1 from BJD hb1 (by repeat (first | exact D.Below.refl _ _ | refine D.Below.drew ?_))); clear hb1)
      | (go_at_call 35; have T3 := T2; clear T2; refine (HP'.out _ ?_).mono ?_; exact HML.out.below (D.Below.toB (by repeat (first | exact HK1.out | exact D.Below.refl _ _ | refine D.Below.drew ?_))); rintro e v2 ⟨A2, c2, rfl, hr2, hb2⟩; have HR2 := Lib.hid hr2; clear hr2; have HB12 := Lib.hid (show D.Below v1.heap.size v1 v2 from BJD hb2 (by repeat (first | exact D.Below.refl _ _ | refine D.Below.drew ?_))); have HK2 := Lib.hid (show D.Below w2.heap.size w2 v2 from BJD hb2 (by repeat (first | exact HK1.out | exact D.Below.refl _ _ | refine D.Below.drew ?_))); clear hb2)
      | (go_at_call 34; refine (strsCompare_any A1 A2 c1 c2 (fun _ => True) (fun _ => True) N N' _ ?_ ?_ hl64 hl65).mono ?_; exact HR1.out.below (D.Below.toB (by repeat (first | exact HB12.out | exact D.Below.refl _ _ | refine D.Below.drew ?_))); exact HR2.out.below (D.Below.toB (by repeat (first | exact D.Below.refl _ _ | refine D.Below.drew ?_))); rintro e v3 ⟨rfl, hb3⟩; have HK3 := Lib.hid (show D.Below w2.heap.size w2 v3 from BJD hb3 (by repeat (first | exact HK2.out | exact HK1.out | exact D.Below.refl _ _ | refine D.Below.drew ?_))); clear hb3)
      | (go_at_call 36; have U2 := U1; clear U1; refine (Tryz.cmp_Compare_int k k' _).mono ?_; rintro e v4 ⟨rfl, rfl⟩)
      | (go_at_call 36; have U3 := U2; clear U2; refine (Tryz.cmp_Compare_int a a' _).mono ?_; rintro e v5 ⟨rfl, rfl⟩)
      | (go_at_call 37; refine (cmpStr_any r r' _).mono ?_; rintro e v6 ⟨rfl, rfl⟩)
      | (go_at_call 33; refine (cmpOr_any _ _ (fun _ => True) [cmpNames N N', cmpI k k', cmpI a a', cmpB r r'] _ (Row.newInts _ _ _ rfl) (by simp)).mono ?_; rintro e v7 ⟨rfl, hb7⟩; have HB8 := Lib.hid (show D.Below w2.heap.size w2 v7 from BJD hb7 (HK3.out.alloc HK3.out.size _)); clear hb7))
    all_goals (go_wp2_with fail; go_meet; exact ⟨rfl, HB8.out⟩)
  case rest =>
    obtain ⟨rfl, hb3⟩ := hcut
    rename World => w3
    have HB3 := Lib.hid hb3
    clear hb3
    go_wp2
    go_ret
    exact ⟨rfl, BJD HB3.out HW.out⟩
end Go.Proofs.YtalkdddeiebfmaaGreatDoor
