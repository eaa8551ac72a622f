/- The ledger's comparison of rows: the walks. -/
import Derived.Test.YtalkdddeiebfmaaGreatDoorJ15
import Derived.Sort.Walk0
namespace Go.Proofs.YtalkdddeiebfmaaGreatDoor
open Go.RowKit Go.Sort

def NamesPost (p : ByteArray) (w : World) (e : Ending) (w' : World) : Prop := ∃ A c, e = .returned (.slice A (pathNames p).length c) ∧ Row Kn.str (fun _ => True) w' A (pathNames p) ∧ D.Below w.heap.size w w'
theorem names_any (p : ByteArray) (w : World) (hm : Ml w) : Calls Tryz.prog 35 #[.string p] w (NamesPost p w) := by
  have hsp := D.split_any p w hm
  unfold D.SplitPost at hsp
  obtain ⟨N, hN⟩ : ∃ N, pathNames p = N := ⟨_, rfl⟩
  obtain ⟨z, hz⟩ : ∃ z, errPath p = z := ⟨_, rfl⟩
  have HN := Lib.hid hN
  rw [hN, hz] at hsp
  have HS := Lib.hid hsp
  clear hsp hN hz
  go_enter Tryz.func35, Tryz.ntmps35
  go_wp2_with (go_at_call 71; refine HS.out.mono ?_; rintro e w1 ⟨v, rfl, ⟨A, c, rfl, -, -, hr⟩, hb⟩; have HR := Lib.hid hr; have HB := Lib.hid hb; clear hr hb)
  go_ret
  refine ⟨A, c, by rw [HN.out]; rfl, by rw [HN.out]; exact HR.out.mono fun _ _ => trivial, HB.out⟩
theorem nanStr_any (s : ByteArray) (w : World) : Calls Tryz.prog 73 #[.string s] w fun e w' => e = .returned (.bool false) ∧ w = w' := by
  have e1 : (s.toList == s.toList) = true := by simp
  go_enter Tryz.func73, Tryz.ntmps73
  go_wp2
  go_ret
  exact ⟨rfl, rfl⟩
theorem cmpStr_any (a b : ByteArray) (w : World) : Calls Tryz.prog 37 #[.string a, .string b] w fun e w' => e = .returned (.int .i64 (cmpB a b)) ∧ w = w' := by
  have hb : Op.bytesLess a.toList b.toList = decide (a.data.toList < b.data.toList) := by rw [toList_eq, toList_eq, bytesLess_eq]
  have hbb : Op.bytesLess b.toList a.toList = decide (b.data.toList < a.data.toList) := by rw [toList_eq, toList_eq, bytesLess_eq]
  by_cases h1 : a.data.toList < b.data.toList
  · have e1 : Op.bytesLess a.toList b.toList = true := by rw [hb]; simpa using h1
    have HC := Lib.hid (show cmpB a b = -1 by unfold cmpB; rw [if_pos h1])
    clear hb hbb h1
    go_enter Tryz.func37, Tryz.ntmps37
    go_wp2_with (go_at_call 73; refine (nanStr_any _ _).mono ?_; rintro e w' ⟨rfl, rfl⟩)
    go_ret
    exact ⟨by rw [HC.out]; rfl, rfl⟩
  · have e1 : Op.bytesLess a.toList b.toList = false := by rw [hb]; simpa using h1
    by_cases h2 : b.data.toList < a.data.toList
    · have e2 : (a.toList == b.toList) = false := by
        rw [toList_eq, toList_eq]
        simp only [beq_eq_false_iff_ne, ne_eq]
        intro e
        rw [e] at h2
        exact List.lt_irrefl _ h2
      have HC := Lib.hid (show cmpB a b = 1 by unfold cmpB; rw [if_neg h1, if_pos h2])
      have e3 : Op.bytesLess b.toList a.toList = true := by rw [hbb]; simpa using h2
      clear hb hbb h1 h2
      go_enter Tryz.func37, Tryz.ntmps37
      go_wp2_with (go_at_call 73; refine (nanStr_any _ _).mono ?_; rintro e w' ⟨rfl, rfl⟩)
      go_ret
      exact ⟨by rw [HC.out]; rfl, rfl⟩
    · have he : a = b := bytes_inj (List.le_antisymm (List.not_lt.1 h2) (List.not_lt.1 h1))
      have HC := Lib.hid (show cmpB a b = 0 by unfold cmpB; rw [if_neg h1, if_neg h2])
      have e2 : (a.toList == b.toList) = true := by rw [he]; simp
      have e3 : Op.bytesLess b.toList a.toList = false := by rw [hbb]; simpa using h2
      clear hb hbb h1 h2 he
      go_enter Tryz.func37, Tryz.ntmps37
      go_wp2_with (go_at_call 73; refine (nanStr_any _ _).mono ?_; rintro e w' ⟨rfl, rfl⟩)
      go_ret
      exact ⟨by rw [HC.out]; rfl, rfl⟩
theorem cmpNames_drop {a b : List ByteArray} {k : Nat} (h1 : k < a.length) (h2 : k < b.length) : cmpNames (a.drop k) (b.drop k) = if cmpB a[k] b[k] ≠ 0 then cmpB a[k] b[k] else cmpNames (a.drop (k + 1)) (b.drop (k + 1)) := by
  rw [List.drop_eq_getElem_cons h1, List.drop_eq_getElem_cons h2]
  rfl
set_option maxRecDepth 100000 in
theorem strsCompare_any (A B : Option Addr) (c d : Nat) (P Q : Nat → Prop) (xs ys : List ByteArray) (w : World) (hx : Row Kn.str P w A xs) (hy : Row Kn.str Q w B ys) (h1 : xs.length ≤ 9223372036854775806) (h2 : ys.length ≤ 9223372036854775806) :
    Calls Tryz.prog 34 #[.slice A xs.length c, .slice B ys.length d] w fun e w' => e = .returned (.int .i64 (cmpNames xs ys)) ∧ D.Below w.heap.size w w' := by
  have HX := Lib.hid hx
  have HY := Lib.hid hy
  clear hx hy
  go_enter Tryz.func34, Tryz.ntmps34
  go_wp2
  go_loopw [11] (fun iv wr => ∃ i : Nat, iv = .int .i64 i ∧ i ≤ xs.length ∧ i ≤ ys.length ∧ Hid (D.Below w.heap.size w wr) ∧ Hid (cmpNames xs ys = cmpNames (xs.drop i) (ys.drop i))) (fun iv _ => xs.length - (intOf iv).toNat)
  case atStart => exact ⟨0, rfl, Nat.zero_le _, Nat.zero_le _, D.Below.refl _ _, by simp [Hid]⟩
  case round =>
    obtain ⟨i, rfl, hi, hi2, hb, hc⟩ := hrel
    obtain ⟨wo, rfl⟩ : ∃ wo, wo = wr := ⟨_, rfl⟩
    by_cases hlt : i < xs.length
    · obtain ⟨a, rfl, x0⟩ := row_str_at (HX.out.below hb.out.toB) i hlt
      have hlti : (i : Int) < (xs.length : Int) := by omega
      by_cases hlty : i < ys.length
      · obtain ⟨b, rfl, y0⟩ := row_str_at (HY.out.below hb.out.toB) i hlty
        have e1 : decide ((i : Int) ≥ (ys.length : Int)) = false := by simp; omega
        have hyi : (i : Int) < (ys.length : Int) := by omega
        have HD := Lib.hid (cmpNames_drop hlt hlty)
        obtain ⟨s, hs⟩ : ∃ s, xs[i] = s := ⟨_, rfl⟩
        obtain ⟨t, ht⟩ : ∃ t, ys[i] = t := ⟨_, rfl⟩
        rw [hs] at x0 HD
        rw [ht] at y0 HD
        obtain ⟨z, hz⟩ : ∃ z, cmpB s t = z := ⟨_, rfl⟩
        rw [hz] at HD
        have HZ := Lib.hid hz
        clear hs ht hz
        by_cases hz0 : z = 0
        · subst hz0
          have HE := Lib.hid (show cmpNames xs ys = cmpNames (xs.drop (i + 1)) (ys.drop (i + 1)) by rw [hc.out, HD.out, if_neg (by simp)])
          have HB := Lib.hid hb.out
          clear hb hc HD
          go_wp2_with (go_at_call 37; refine (cmpStr_any _ _ _).mono ?_; rintro e w2 ⟨rfl, rfl⟩; rw [HZ.out])
          go_roundw
          case rel => exact ⟨i + 1, by go_num, hlt, hlty, HB.out, HE.out⟩
          case measure => simp [intOf]; omega
        · have HE := Lib.hid (show cmpNames xs ys = z by rw [hc.out, HD.out, if_pos hz0])
          have e2 : (z != 0) = true := by simpa using hz0
          have HB := Lib.hid hb.out
          clear hb hc HD hz0
          go_wp2_with (go_at_call 37; refine (cmpStr_any _ _ _).mono ?_; rintro e w2 ⟨rfl, rfl⟩; rw [HZ.out])
          go_ret
          exact ⟨by rw [HE.out]; rfl, HB.out⟩
      · have HE := Lib.hid (show cmpNames xs ys = 1 by
          rw [hc.out, (List.drop_eq_nil_of_le (by omega) : ys.drop i = []), List.drop_eq_getElem_cons hlt]
          rfl)
        have e1 : decide ((i : Int) ≥ (ys.length : Int)) = true := by simp; omega
        have HB := Lib.hid hb.out
        clear hb hc
        go_wp2
        go_ret
        exact ⟨by rw [HE.out]; rfl, HB.out⟩
    · have hge : ¬ ((i : Int) < (xs.length : Int)) := by omega
      have HB := Lib.hid hb.out
      have hce := hc.out
      rw [(List.drop_eq_nil_of_le (by omega) : xs.drop i = [])] at hce
      by_cases hl2 : xs.length < ys.length
      · have e1 : decide ((xs.length : Int) < (ys.length : Int)) = true := by simp; omega
        have HE := Lib.hid (show cmpNames xs ys = -1 by
          rw [hce, List.drop_eq_getElem_cons (l := ys) (i := i) (by omega)]
          rfl)
        clear hb hc hce
        go_wp2
        go_ret
        exact ⟨by rw [HE.out]; rfl, HB.out⟩
      · have e1 : decide ((xs.length : Int) < (ys.length : Int)) = false := by simp; omega
        have HE := Lib.hid (show cmpNames xs ys = 0 by
          rw [hce, (List.drop_eq_nil_of_le (by omega) : ys.drop i = [])]
          rfl)
        clear hb hc hce
        go_wp2
        go_ret
        exact ⟨by rw [HE.out]; rfl, HB.out⟩
end Go.Proofs.YtalkdddeiebfmaaGreatDoor
