/- bursarref04.Join, Line, Under. -/
import Derived.Test.YtdchffghgajbfaaDoorN4
namespace Go.Proofs.YtdchffghgajbfaaDoor
open Go.RowKit

theorem join_step {ns : List (List UInt8)} {k : Nat} (hk : k < ns.length) {s x : ByteArray} (hs : s.data.toList = joinL (ns.take k)) (hx : x.data.toList = ns[k]) : ((s ++ ⟨#[47]⟩ : ByteArray) ++ x : ByteArray).data.toList = joinL (ns.take (k + 1)) := by
  rw [List.take_succ_eq_append_getElem hk, joinL_append, joinL_cons, ← hs, ← hx]
  simp [joinL]
theorem join_size {ns : List (List UInt8)} (h2 : (joinP ns).length ≤ 64) (k : Nat) {s : ByteArray} (hs : s.data.toList = joinL (ns.take k)) : s.size ≤ 64 := by
  rw [← data_len, hs]
  by_cases h0 : ns = []
  · subst h0; simp [joinL]
  · rw [joinP_ne h0] at h2
    have := joinL_take_le ns k
    omega
set_option maxRecDepth 100000 in
theorem rjoin_any (A : Option Addr) (c : Nat) (P : Nat → Prop) (xs : List ByteArray) (ns : List (List UInt8)) (w : World) (hr : Row Kn.str P w A xs) (hx : xs = ns.map mkB) (h1 : ns.length ≤ 8) (h2 : (joinP ns).length ≤ 64) (h3 : ns.all nameL = true) :
    Calls Tryd.prog 124 #[.slice A xs.length c] w fun e w' => e = .returned (.tuple #[.string (mkB (joinP ns)), .int .i64 0]) ∧ w = w' := by
  have hlen : xs.length = ns.length := by rw [hx]; simp
  have hk8 : xs.length ≤ 8 := by omega
  have e9 : decide ((xs.length : Int) > 8) = false := by simp; omega
  have hel : ∀ k (h : k < xs.length), xs[k].data.toList = ns[k]'(by omega) := fun k h => by subst hx; simp [mkB_data]
  have hnm : ∀ k (h : k < xs.length), nameB xs[k] = true := fun k h => by
    unfold nameB; rw [hel k h]; exact List.all_eq_true.1 h3 _ (List.getElem_mem _)
  have HSTEP := Lib.hid (fun (k : Nat) (h : k < xs.length) (s : ByteArray) (hs : s.data.toList = joinL (ns.take k)) => join_step (x := xs[k]) (show k < ns.length by omega) hs (hel k h))
  have HSIZE := Lib.hid (fun (k : Nat) (s : ByteArray) (hs : s.data.toList = joinL (ns.take k)) => join_size h2 k hs)
  have HNM := Lib.hid hnm
  have HX := Lib.hid hx
  have HL := Lib.hid hlen
  clear hnm hel hx h3 h2 h1 hlen
  go_enter Tryd.func124, Tryd.ntmps124
  go_wp2
  go_loopw [4, 5] (fun sv iv wr => ∃ (k : Nat) (s : ByteArray), iv = .int .i64 k ∧ sv = .string s ∧ k ≤ xs.length ∧ s.size ≤ 64 ∧ Hid (w = wr) ∧ Hid (s.data.toList = joinL (ns.take k))) (fun _ iv _ => xs.length - (intOf iv).toNat)
  case atStart => exact ⟨0, ⟨#[]⟩, rfl, rfl, Nat.zero_le _, by simp [ByteArray.size], rfl, by simp [Hid, joinL]⟩
  case round =>
    obtain ⟨k, s, rfl, rfl, hk, hsz, hw, HS⟩ := hrel
    obtain ⟨wo, rfl⟩ : ∃ wo, wo = wr := ⟨_, rfl⟩
    have hw' := hw.out
    by_cases hlt : k < xs.length
    · obtain ⟨a, rfl, hc⟩ := row_str_at (hw' ▸ hr) k hlt
      have HN := Lib.hid (HNM.out k hlt)
      have HS2 := Lib.hid (HSTEP.out k hlt s HS.out)
      have hs2 := HSIZE.out _ _ HS2.out
      have hb1 : s.size + 1 ≤ 9223372036854775807 := by omega
      have hb2 : (s ++ (⟨#[47]⟩ : ByteArray)).size + xs[k].size ≤ 9223372036854775807 := by
        rw [← ByteArray.size_append]; omega
      have hb3 : s.size + 1 + xs[k].size ≤ 9223372036854775807 := by rw [ByteArray.size_append] at hb2; exact hb2
      clear hw' 
      go_wp2_with (go_at_call 105; refine (rname_any _ _).mono ?_; rintro e w3 ⟨rfl, rfl⟩; rw [HN.out])
      go_roundw
      case rel => exact ⟨k + 1, _, by go_num, rfl, hlt, hs2, hw, HS2⟩
      case measure => simp [intOf]; omega
    · have hall : s.data.toList = joinL ns := by have := HS.out; rwa [List.take_of_length_le (by have := HL.out; omega)] at this
      have e10 : decide ((s.size : Int) > 64) = false := by simp; omega
      have hge : ¬ ((k : Int) < (xs.length : Int)) := by omega
      clear hw'
      by_cases h0 : ns = []
      · have hs0 : s.data.toList = [] := by rw [hall, h0]; rfl
        have e11 : s.toList.isEmpty = true := by rw [toList_eq, hs0]; rfl
        have hj : mkB (joinP ns) = ⟨#[47]⟩ := by rw [h0]; rfl
        have HJ := Lib.hid hj
        clear hj h0 hs0 hall
        go_wp2
        go_ret2
        exact ⟨by rw [HJ.out]; rfl, hw.out⟩
      · have hs1 : s.data.toList ≠ [] := by
          rw [hall]
          cases ns with
          | nil => exact absurd rfl h0
          | cons x xs => simp [joinL_cons]
        have e11 : s.toList.isEmpty = false := by rw [toList_eq]; simpa using hs1
        have hj : mkB (joinP ns) = s := by rw [joinP_ne h0, ← hall]; exact data_mkB s
        have HJ := Lib.hid hj
        clear hj h0 hs1 hall
        go_wp2
        go_ret2
        exact ⟨by rw [HJ.out]; rfl, hw.out⟩
theorem rjoin_at (A : Option Addr) (c m : Nat) (P : Nat → Prop) (ns : List (List UInt8)) (w : World) (hr : Row Kn.str P w A (ns.map mkB)) (hp : (joinP ns).length ≤ 64) (h1 : ns.length ≤ 8) (h3 : ns.all nameL = true) (hm : m ≤ ns.length) :
    Calls Tryd.prog 124 #[.slice A m c] w fun e w' => e = .returned (.tuple #[.string (mkB (joinP (ns.take m))), .int .i64 0]) ∧ w = w' := by
  have hl : ((ns.take m).map mkB).length = m := by simp; omega
  have := rjoin_any A c P ((ns.take m).map mkB) (ns.take m) w (by rw [List.map_take]; exact hr.take m) rfl (by rw [List.length_take]; omega) (joinP_le _ _ hp) (names_take _ h3)
  rwa [hl] at this

theorem heap_size_alloc' (w : World) (o : Obj) : (w.alloc o).heap.size = w.heap.size + 1 := by simp
def RLinePost (p : ByteArray) (w : World) (e : Ending) (w' : World) : Prop :=
  ∃ A c, e = .returned (.tuple #[.slice A (lineB p).length c, .int .i64 (errPath p)]) ∧ Row Kn.str (fun _ => True) w' A (lineB p) ∧ Below w.heap.size w w'
set_option maxRecDepth 100000 in
set_option maxHeartbeats 1000000 in
theorem rline_any (p : ByteArray) (w : World) (hs : p.size ≤ 1073741824) : Calls Tryd.prog 104 #[.string p] w (RLinePost p w) := by
  rcases errPath_cases p with ⟨hp, ep⟩ | ⟨hp, ep⟩
  · have PO := pathOk hp
    have hP64 : (joinP (nm p)).length ≤ 64 := by rw [← PO.text, data_len]; exact PO.short
    have hfew := PO.few
    have hnames := PO.names
    have hfin : ∀ (T : List ByteArray) A c w', T = lineTo (nm p) (nm p).length → Own Kn.str 9 w.heap.size (fun _ => True) w' (.slice A T.length c) T → Below w.heap.size w w' → RLinePost p w (.returned (.tuple #[.slice A T.length c, .int .i64 0])) w' := fun T A c w' hT ho hb => by
      have e : lineB p = T := by unfold lineB; rw [if_pos hp, hT]
      unfold RLinePost
      rw [e, ep]
      exact ⟨A, c, rfl, ho.row'.2.1, hb⟩
    have hspl := rsplit_any p w hs
    unfold RSplitPost at hspl
    rw [ep, pathNames_nm] at hspl
    obtain ⟨ns, hns⟩ : ∃ ns, nm p = ns := ⟨_, rfl⟩
    rw [hns] at hspl hfin hnames hfew hP64
    have hml : (ns.map mkB).length = ns.length := by simp
    rw [hml] at hspl
    have HF := Lib.hid hfin
    have HS := Lib.hid hspl
    clear hfin hspl ep PO hp hns hml
    go_enter Tryd.func104, Tryd.ntmps104
    go_wp2_with (go_at_call 106; refine HS.out.mono ?_; rintro e w1 ⟨A1, c1, rfl, hr1, hc1, hb1⟩; have HR1 := Lib.hid hr1; have HB1 := Lib.hid hb1; clear hr1 hb1)
    go_loopw [6, 7] (fun lv iv wr => ∃ (i : Int) (m n : Nat) (A : Option Addr) (T : List ByteArray), iv = .int .i64 i ∧ i = (m : Int) - 1 ∧ lv = .slice A T.length n ∧ m ≤ ns.length + 1 ∧ T.length ≤ 16 - m ∧ Hid (Own Kn.str 9 w1.heap.size (fun _ => True) wr (.slice A T.length n) T) ∧ Hid (Below w1.heap.size w1 wr) ∧ Hid (if m = 0 then T = lineTo ns ns.length else T ++ lineTo ns (m - 1) = lineTo ns ns.length)) (fun _ iv _ => ((intOf iv) + 1).toNat)
    case atStart => exact ⟨ns.length, ns.length + 1, 0, none, [], rfl, by omega, rfl, Nat.le_refl _, Nat.zero_le _, Own.nil _ _ _ _ _, Below.refl _ _, by simp [Hid]⟩
    case round =>
      obtain ⟨i, m, n, A, T, rfl, him, rfl, hm, hT, hown, hbr, HT⟩ := hrel
      obtain ⟨wo, rfl⟩ : ∃ wo, wo = wr := ⟨_, rfl⟩
      have hsz := hbr.out.size
      cases m with
      | zero =>
        have hT2 := HT.out
        rw [if_pos rfl] at hT2
        have hf := Lib.hid (HF.out T A n wo hT2 (hown.out.lower HB1.out.size) (HB1.out.trans (hbr.out.mono HB1.out.size)))
        have him2 : i = -1 := by omega
        subst him2
        clear him
        clear hT2
        go_wp2
        go_ret2
        exact hf.out
      | succ k =>
        have him2 : i = (k : Int) := by omega
        subst him2
        clear him
        have hge : (k : Int) ≥ 0 := by omega
        have hkn : k ≤ ns.length := by omega
        have hcut := run_cut_to strElem A1 ns.length c1 k (by omega)
        have HRW := Lib.hid (HR1.out.below hbr.out)
        have h16 : (T.length + 1) * 16 ≤ 140737488355328 := by omega
        have hT2 := HT.out
        rw [if_neg (by omega), Nat.add_sub_cancel] at hT2
        have HT2 := Lib.hid hT2
        clear hT2
        go_wp2_with (first
          | (go_at_call 124; refine (rjoin_at A1 _ k _ ns _ HRW.out hP64 hfew hnames hkn).mono ?_; rintro e w3 ⟨rfl, rfl⟩)
          | (at_builtin; refine wpList_app_plain strElem Kn.plain_str w1.heap.size rfl (.tmp 31) (.tmp 33) rfl (v := .slice A T.length n) (xs := T) (ys := [mkB (joinP (ns.take k))]) rfl (hown.out.alloc _) rfl rfl (Row.newOnePlain (cs := [.string (mkB (joinP (ns.take k)))]) Kn.plain_str rfl) (by exact h16) (by rw [heap_size_alloc']; omega) ?_; intro A7 c7 w7 happ; have HA7 := Lib.hid happ; clear happ))
        go_roundw
        case rel =>
          have hl1 : (T ++ [mkB (joinP (ns.take k))]).length = T.length + 1 := by rw [List.length_append]; rfl
          refine ⟨(k : Int) - 1, k, c7, A7, T ++ [mkB (joinP (ns.take k))], by go_num, rfl, by rw [hl1], by omega, by rw [hl1]; omega, by have := HA7.out.own; rw [hl1]; exact this, ?_, ?_⟩
          · exact HA7.out.below (hbr.out.alloc hbr.out.size _) (by rw [heap_size_alloc']; omega) (fun q hq => (hown.out.block_lt q hq).1)
          · unfold Hid
            have := HT2.out
            cases k with
            | zero => rw [if_pos rfl]; simpa [lineTo, joinP] using this
            | succ j => rw [if_neg (by omega), Nat.add_sub_cancel]; rw [lineTo] at this; simpa using this
        case measure => simp [intOf]
  · have HP := Lib.hid ep
    have hfin : ∀ w', Below w.heap.size w w' → RLinePost p w (.returned (.tuple #[.slice none 0 0, .int .i64 41])) w' := fun w' hb => by
      have e : lineB p = [] := by unfold lineB; rw [if_neg (by rw [hp]; simp)]
      unfold RLinePost
      rw [e, ep]
      exact ⟨none, 0, rfl, Row.nil _ _ _ _, hb⟩
    have HF := Lib.hid hfin
    clear hfin hp ep
    go_enter Tryd.func104, Tryd.ntmps104
    go_wp2_with (go_at_call 106; refine (rsplit_any p w hs).mono ?_; rintro e w1 ⟨A, c, rfl, _, _, hb⟩; rw [HP.out])
    go_ret2
    exact HF.out _ hb
set_option maxRecDepth 100000 in
set_option maxHeartbeats 400000 in
theorem runder_any (p t : ByteArray) (w : World) (hs : p.size ≤ 1073741824) : Calls Tryd.prog 79 #[.string p, .string t] w fun e w' => e = .returned (.bool (underB p t)) ∧ Below w.heap.size w w' := by
  have hline := rline_any p w hs
  have hu := under_line p t
  have hlen : (lineB p).length ≤ 9 := by
    unfold lineB
    split
    · rename_i h; rw [lineTo_length]; have := (pathOk h).few; omega
    · simp
  unfold RLinePost at hline
  obtain ⟨L, hL⟩ : ∃ L, lineB p = L := ⟨_, rfl⟩
  rw [hL] at hline hu hlen
  obtain ⟨R, hR⟩ : ∃ R, underB p t = R := ⟨_, rfl⟩
  rw [hR] at hu ⊢
  have HL := Lib.hid hline
  have HU := Lib.hid hu
  clear hline hu hL hR
  go_enter Tryd.func79, Tryd.ntmps79
  go_wp2_with (go_at_call 104; refine HL.out.mono ?_; rintro e w1 ⟨A1, c1, rfl, hr1, hb1⟩; have HR1 := Lib.hid hr1; have HB1 := Lib.hid hb1; clear hr1 hb1)
  go_loopw [7] (fun iv wr => ∃ k : Nat, iv = .int .i64 k ∧ k ≤ L.length ∧ Hid (w1 = wr) ∧ Hid ((L.take k).any (fun x => x.toList == t.toList) = false)) (fun iv _ => L.length - (intOf iv).toNat)
  case atStart => exact ⟨0, rfl, Nat.zero_le _, rfl, rfl⟩
  case round =>
    obtain ⟨k, rfl, hk, hw, HA⟩ := hrel
    obtain ⟨wo, rfl⟩ : ∃ wo, wo = wr := ⟨_, rfl⟩
    by_cases hlt : k < L.length
    · obtain ⟨a, rfl, hc⟩ := row_str_at (hw.out ▸ HR1.out) k hlt
      have ht : (L.take (k + 1)).any (fun x => x.toList == t.toList) = (L[k].toList == t.toList) := by
        rw [List.take_succ_eq_append_getElem hlt, List.any_append, HA.out]; simp
      cases hq : (L[k].toList == t.toList)
      · rw [hq] at ht
        have HT := Lib.hid ht
        clear ht
        go_wp2
        go_roundw
        case rel => exact ⟨k + 1, by go_num, hlt, hw, HT⟩
        case measure => simp [intOf]; omega
      · have hres : R = true := by
          rw [HU.out, List.any_eq_true]
          exact ⟨L[k], List.getElem_mem _, hq⟩
        have HRS := Lib.hid hres
        clear hres ht
        go_wp2
        go_ret
        exact ⟨by rw [HRS.out]; rfl, by rw [← hw.out]; exact HB1.out⟩
    · have hres : R = false := by
        have := HA.out
        rwa [List.take_of_length_le (by omega), ← HU.out] at this
      have HRS := Lib.hid hres
      have hge : ¬ ((k : Int) < (L.length : Int)) := by omega
      clear hres
      go_wp2
      go_ret
      exact ⟨by rw [HRS.out]; rfl, by rw [← hw.out]; exact HB1.out⟩
end Go.Proofs.YtdchffghgajbfaaDoor
