/- label.above, label.Line. -/
import Derived.Test.YtalkdddeiebfmaaGreatDoorJ6
namespace Go.Proofs.YtalkdddeiebfmaaGreatDoor
open Go.RowKit

theorem last_slash (a x : List UInt8) (hx : (47 : UInt8) ∉ x) : Lib.lastIndexByte (mkB (a ++ 47 :: x)) 47 = a.length := by
  have hsz : (mkB (a ++ 47 :: x)).size = a.length + (x.length + 1) := by rw [← data_len, mkB_data]; simp
  have hget : ∀ j, j < a.length + (x.length + 1) → (mkB (a ++ 47 :: x)).data[j]! = (a ++ 47 :: x)[j]! := fun j hj => by simp [mkB]
  have hbehind : ∀ j, a.length < j → j < a.length + (x.length + 1) → (((mkB (a ++ 47 :: x)).data[j]!).toNat : Int) ≠ 47 := fun j h1 h2 e => by
    rw [hget j h2] at e
    have hj : j < (a ++ 47 :: x).length := by simp; omega
    rw [getElem!_pos _ j hj] at e
    have e2 : (a ++ 47 :: x)[j] = x[j - a.length - 1]'(by omega) := by
      rw [List.getElem_append_right (by omega), List.getElem_cons, dif_neg (by omega)]
    have : (a ++ 47 :: x)[j] = 47 := UInt8.toNat_inj.1 (by simpa using (by exact_mod_cast e : (a ++ 47 :: x)[j].toNat = 47))
    exact hx (by rw [← this, e2]; exact List.getElem_mem _)
  have hat : (((mkB (a ++ 47 :: x)).data[a.length]!).toNat : Int) = 47 := by
    rw [hget _ (by omega), getElem!_pos _ _ (by simp)]
    simp
  rcases Lib.lastIndexByte_spec (mkB (a ++ 47 :: x)) 47 with ⟨_, h⟩ | ⟨i, hi, e, hc, hn⟩
  · exact absurd hat (h a.length (by omega))
  · rw [e]
    rw [hsz] at hi hn
    rcases Nat.lt_trichotomy i a.length with h | h | h
    · exact absurd hat (hn a.length h (by omega))
    · rw [h]
    · exact absurd hc (hbehind i h hi)
theorem joinP_step {ns : List (List UInt8)} {k : Nat} (hk : k < ns.length) : joinP (ns.take (k + 1)) = joinL (ns.take k) ++ 47 :: ns[k] := by
  rw [List.take_succ_eq_append_getElem hk, joinP_ne (fun e => by have h2 := congrArg List.length e; rw [List.length_append] at h2; simp only [List.length_singleton, List.length_nil] at h2; omega), joinL_append, joinL_cons]
  simp [joinL]
theorem above_is {ns : List (List UInt8)} {k : Nat} (hk : k < ns.length) (m : Nat) (hm : m = max 1 (joinL (ns.take k)).length) : (mkB (joinP (ns.take (k + 1)))).extract 0 m = mkB (joinP (ns.take k)) := by
  apply bytes_inj
  rw [extract_data, mkB_data, mkB_data, List.drop_zero, joinP_step hk, hm]
  by_cases h0 : ns.take k = []
  · rw [h0]; simp [joinL, joinP]
  · have h1 : 1 ≤ (joinL (ns.take k)).length := by
      cases hc : ns.take k with
      | nil => exact absurd hc h0
      | cons x xs => rw [joinL_cons]; simp
    rw [Nat.max_eq_right h1, joinP_ne h0, List.take_left]
theorem above_any {ns : List (List UInt8)} {k : Nat} (hk : k < ns.length) (hn : ns.all nameL = true) (h64 : (joinP ns).length ≤ 64) (w : World) :
    Calls Tryz.prog 57 #[.string (mkB (joinP (ns.take (k + 1))))] w fun e w' => e = .returned (.string (mkB (joinP (ns.take k)))) ∧ w = w' := by
  have hx : (47 : UInt8) ∉ ns[k] := nameL_no (List.all_eq_true.1 hn _ (List.getElem_mem _))
  have hli := last_slash (joinL (ns.take k)) ns[k] hx
  rw [← joinP_step hk] at hli
  have hle := joinP_le ns (k + 1) h64
  have hsz : (mkB (joinP (ns.take (k + 1)))).size = (joinP (ns.take (k + 1))).length := by rw [← data_len, mkB_data]
  have hl2 : (joinL (ns.take k)).length < (joinP (ns.take (k + 1))).length := by rw [joinP_step hk]; simp
  obtain ⟨j, hj⟩ : ∃ j, (joinL (ns.take k)).length = j := ⟨_, rfl⟩
  have hab := fun m hm => above_is hk m hm
  rw [hj] at hli hl2 hab
  obtain ⟨s, hs⟩ : ∃ s, mkB (joinP (ns.take (k + 1))) = s := ⟨_, rfl⟩
  obtain ⟨t, ht⟩ : ∃ t, mkB (joinP (ns.take k)) = t := ⟨_, rfl⟩
  rw [hs, ht] at hab
  rw [hs] at hli hsz ⊢
  rw [ht]
  have HC := Lib.hid (Tryz.strings_LastIndex_one s ⟨#[47]⟩ rfl (by omega) w)
  have e1 : ((⟨#[47]⟩ : ByteArray)[0]'(by decide)).toNat = 47 := rfl
  have HL := Lib.hid hli
  have HA := Lib.hid hab
  have hss : j < s.size := by omega
  clear hs ht hli hab hle hsz hl2 hj hx
  have hmx : max (1 : Int) (j : Int) = ((max 1 j : Nat) : Int) := by omega
  have hmx2 : max 1 j ≤ s.size := by omega
  go_enter Tryz.func57, Tryz.ntmps57
  go_wp2_with (go_at_call 82; refine HC.out.mono ?_; rintro e w1 ⟨rfl, rfl⟩; rw [show Lib.lastIndexByte s (((⟨#[47]⟩ : ByteArray)[0]'(by decide)).toNat : Int) = (j : Int) from HL.out])
  rw [HA.out _ rfl]
  go_ret
  exact ⟨rfl, rfl⟩
def sliceLen : Value → Nat
  | .slice _ n _ => n
  | _ => 0
def LinePost (p : ByteArray) (w : World) (e : Ending) (w' : World) : Prop :=
  ∃ A c, e = .returned (.tuple #[.slice A (lineB p).length c, .int .i64 (errPath p)]) ∧ Own Kn.str 9 w.heap.size (fun _ => False) w' (.slice A (lineB p).length c) (lineB p) ∧ Below w.heap.size w w'
set_option maxRecDepth 100000 in
set_option maxHeartbeats 1000000 in
theorem line_any (p : ByteArray) (w : World) (hml : Ml w) : Calls Tryz.prog 52 #[.string p] w (LinePost p w) := by
  rcases errPath_cases p with ⟨hp, ep⟩ | ⟨hp, ep⟩
  · have PO := pathOk hp
    have hP64 : (joinP (nm p)).length ≤ 64 := by rw [← PO.text, data_len]; exact PO.short
    have hfew := PO.few
    have hnames := PO.names
    have hpt : p = mkB (joinP (nm p)) := by rw [← PO.text]; exact (data_mkB p).symm
    have hfin : ∀ (T : List ByteArray) A c w', T = lineTo (nm p) (nm p).length → Own Kn.str 9 w.heap.size (fun _ => False) w' (.slice A T.length c) T → Below w.heap.size w w' → LinePost p w (.returned (.tuple #[.slice A T.length c, .int .i64 0])) w' := fun T A c w' hT ho hb => by
      have e : lineB p = T := by unfold lineB; rw [if_pos hp, hT]
      unfold LinePost
      rw [e, ep]
      exact ⟨A, c, rfl, ho, hb⟩
    obtain ⟨ns, hns⟩ : ∃ ns, nm p = ns := ⟨_, rfl⟩
    rw [hns] at hfin hnames hfew hP64 hpt
    have HF := Lib.hid hfin
    have HP := Lib.hid ep
    have hfull : joinP (ns.take ns.length) = joinP ns := by rw [List.take_length]
    have HFULL := Lib.hid (show p = mkB (joinP (ns.take ns.length)) by rw [hfull]; exact hpt)
    clear hfin PO hp ep hns hpt hfull
    go_enter Tryz.func52, Tryz.ntmps52
    go_wp2_with (go_at_call 56; refine (path_any _ _ hml).mono ?_; rintro e w1 ⟨rfl, hb1⟩; rw [HP.out]; have HB1 := Lib.hid hb1; clear hb1)
    have HO1 := Lib.hid (show Own Kn.str 9 w1.heap.size (fun _ => False) (w1.alloc (.cells #[.string p] 9)) (.slice (some ⟨w1.heap.size, 0, none⟩) 1 1) [p] from
      ⟨[.string p], ⟨rfl, .inr ⟨w1.heap.size, 1, #[.string p], rfl, Nat.le_refl _, heap_alloc_new w1 _, Nat.le_refl _, by unfold maxLen; omega, rfl, rfl⟩⟩, Flat.single rfl⟩)
    have HB2 := Lib.hid ((Below.refl w1.heap.size w1).alloc (Nat.le_refl _) (.cells #[.string p] 9))
    have HFULL2 := Lib.hid (show mkB (joinP (ns.take ns.length)) = p from HFULL.out.symm)
    have hq : p = mkB (joinP (ns.take ns.length)) := HFULL.out
    go_loopw [0, 5] (fun pv lv wr => ∃ (k n m : Nat) (A : Option Addr) (T : List ByteArray), pv = .string (mkB (joinP (ns.take k))) ∧ lv = .slice A m n ∧ k ≤ ns.length ∧ m = ns.length - k + 1 ∧ T.length = ns.length - k ∧ Hid (Own Kn.str 9 w1.heap.size (fun _ => False) wr (.slice A m n) (T ++ [mkB (joinP (ns.take k))])) ∧ Hid (Below w1.heap.size w1 wr) ∧ Hid (T ++ lineTo ns k = lineTo ns ns.length)) (fun _ lv _ => 16 - sliceLen lv)
    case atStart =>
      refine ⟨ns.length, 1, 1, some ⟨w1.heap.size, 0, none⟩, [], by rw [← hq], rfl, Nat.le_refl _, by omega, by simp, ?_, HB2.out, by simp [Hid]⟩
      rw [List.nil_append, ← hq]; exact HO1.out
    case round =>
      clear HFULL HFULL2 hq HO1 HB2
      obtain ⟨k, n, m, A, T, rfl, rfl, hk, hm, hT, hown, hbr, HT⟩ := hrel
      obtain ⟨wo, rfl⟩ : ∃ wo, wo = wr := ⟨_, rfl⟩
      have hsz := hbr.out.size
      cases k with
      | zero =>
        have e1 : ((mkB (joinP (ns.take 0))).toList == [47]) = true := by rw [List.take_zero, toList_eq, mkB_data]; rfl
        have e2 : (mkB (joinP (ns.take 0))).toList = [47] := by rw [List.take_zero, toList_eq, mkB_data]; rfl
        have hl : m = (T ++ [mkB (joinP (ns.take 0))]).length := by rw [List.length_append, List.length_singleton]; omega
        have hf := Lib.hid (show LinePost p w (.returned (.tuple #[.slice A m n, .int .i64 0])) wo from by
          have h1 := HF.out (T ++ [mkB (joinP (ns.take 0))]) A n wo (by rw [← HT.out]; rfl) (by rw [← hl]; exact hown.out.lower HB1.out.size) (HB1.out.trans (hbr.out.mono HB1.out.size))
          rw [← hl] at h1; exact h1)
        obtain ⟨s, hs⟩ : ∃ s, mkB (joinP (ns.take 0)) = s := ⟨_, rfl⟩
        rw [hs] at e1 e2 ⊢
        clear hs hown HT hm hT hl
        go_wp2
        go_ret2
        exact hf.out
      | succ k =>
        have hkn : k < ns.length := by omega
        have hlen : ¬ (joinP (ns.take (k + 1))) = [47] := by
          rw [joinP_step hkn]
          intro e
          have h1 := congrArg List.length e
          have h2 := List.all_eq_true.1 hnames _ (List.getElem_mem hkn)
          unfold nameL at h2
          simp only [Bool.and_eq_true, decide_eq_true_eq] at h2
          rw [List.length_append, List.length_cons, List.length_singleton] at h1
          omega
        have e2 : ¬ (mkB (joinP (ns.take (k + 1)))).toList = [47] := by rw [toList_eq, mkB_data]; exact hlen
        have e1 : ((mkB (joinP (ns.take (k + 1)))).toList == [47]) = false := by simpa using e2
        have HC := Lib.hid (above_any hkn hnames hP64 wo)
        have hl2 : (T ++ [mkB (joinP (ns.take (k + 1)))]).length = m := by rw [List.length_append, List.length_singleton]; omega
        have h16 : ((T ++ [mkB (joinP (ns.take (k + 1)))]).length + 1) * 16 ≤ 140737488355328 := by omega
        have HT2 := Lib.hid (show (T ++ [mkB (joinP (ns.take (k + 1)))]) ++ lineTo ns k = lineTo ns ns.length by rw [← HT.out, lineTo, List.append_assoc]; rfl)
        obtain ⟨T2, hT2⟩ : ∃ T2, T ++ [mkB (joinP (ns.take (k + 1)))] = T2 := ⟨_, rfl⟩
        obtain ⟨s, hs⟩ : ∃ s, mkB (joinP (ns.take (k + 1))) = s := ⟨_, rfl⟩
        obtain ⟨t, ht⟩ : ∃ t, mkB (joinP (ns.take k)) = t := ⟨_, rfl⟩
        rw [hT2] at hown hl2 h16 HT2
        rw [hs] at e1 e2 HC ⊢
        rw [ht] at HC
        have HTT := Lib.hid ht
        have HL2 := Lib.hid hl2
        have HM := Lib.hid hm
        clear hs hT2 HT hm hT hlen ht hl2
        go_wp2_with (first
          | (go_at_call 57; refine HC.out.mono ?_; rintro e w3 ⟨rfl, rfl⟩)
          | (at_builtin; refine wpList_app_plain strElem Kn.plain_str w1.heap.size rfl (.tmp 17) (.tmp 19) rfl (v := .slice A m n) (xs := T2) (ys := [t]) rfl (hown.out.alloc _) rfl rfl (Row.newOnePlain (cs := [.string t]) Kn.plain_str rfl) (by exact h16) (by simp; omega) ?_; intro A7 c7 w7 happ; rw [HL2.out] at happ ⊢; have HA7 := Lib.hid happ; clear happ))
        go_roundw
        case rel =>
          refine ⟨k, c7, m + 1, A7, T2, by rw [HTT.out], rfl, by omega, ?_, ?_, ?_, ?_, HT2.out⟩
          · have := HM.out; omega
          · have := HL2.out; have := HM.out; omega
          · rw [HTT.out]; exact HA7.out.own
          · exact HA7.out.below (hbr.out.alloc hbr.out.size _) (by rw [heap_size_alloc']; omega) (fun q hq => (hown.out.block_lt q hq).1)
        case measure => have := HM.out; simp [sliceLen]; omega
  · have hf := Lib.hid (fun w' (hb : Below w.heap.size w w') => (show LinePost p w (.returned (.tuple #[.slice none 0 0, .int .i64 41])) w' from by
      have e : lineB p = [] := by unfold lineB; rw [if_neg (by rw [hp]; simp)]
      unfold LinePost
      rw [e, ep]
      exact ⟨none, 0, rfl, Own.nil _ _ _ _ _, hb⟩))
    have HP := Lib.hid ep
    clear hp ep
    go_enter Tryz.func52, Tryz.ntmps52
    go_wp2_with (go_at_call 56; refine (path_any _ _ hml).mono ?_; rintro e w1 ⟨rfl, hb1⟩; rw [HP.out]; have HB1 := Lib.hid hb1; clear hb1)
    go_ret2
    exact hf.out _ HB1.out
end Go.Proofs.YtalkdddeiebfmaaGreatDoor
