/- bursarref04.pieces: a text cut at each c. -/
import Derived.Test.YtdchffghgajbfaaDoorN1
import Derived.Test.YtdchffghgajbfaaDoorA2
namespace Go.Proofs.YtdchffghgajbfaaDoor
open Go.RowKit

theorem strElem : Elem Tryd.prog 84 9 Kn.str 16 :=
  Elem.mk_ (z := .string ⟨#[]⟩) Tryd.underlying84 (by kernel_rfl) rfl (by omega)

/-- what is between two places, cut at no c -/
def NoC (s : ByteArray) (c : UInt8) (a b : Nat) : Prop := ∀ k (h : k < s.size), a ≤ k → k < b → s[k] ≠ c
theorem NoC.refl (s : ByteArray) (c : UInt8) (a : Nat) : NoC s c a a := fun k _ h1 h2 => by omega
theorem NoC.step {s : ByteArray} {c : UInt8} {a i : Nat} (h : NoC s c a i) (hi : i < s.size) (hc : s[i] ≠ c) : NoC s c a (i + 1) := fun k hk h1 h2 => by
  by_cases e : k = i
  · subst e; exact hc
  · exact h k hk h1 (by omega)
theorem extract_data (s : ByteArray) (a b : Nat) : (s.extract a b).data.toList = (s.data.toList.take b).drop a := by
  rw [ByteArray.data_extract]; simp [List.drop_take]
def PiecesPost4 (s : ByteArray) (c : UInt8) (w : World) (e : Ending) (w' : World) : Prop :=
  ∃ A n, e = .returned (.slice A (splitC c s.data.toList).length n) ∧ Own Kn.str 9 w.heap.size (fun _ => True) w' (.slice A (splitC c s.data.toList).length n) ((splitC c s.data.toList).map mkB) ∧ Below w.heap.size w w'

theorem piece_end {s : ByteArray} {c : UInt8} {fr : Nat} (h : NoC s c fr s.size) : (splitC c (s.data.toList.drop fr)).map mkB = [s.extract fr s.size] := by
  have hno : c ∉ s.data.toList.drop fr := fun hm => by
    obtain ⟨k, hk, e⟩ := List.getElem_of_mem hm
    rw [List.length_drop, data_len] at hk
    rw [List.getElem_drop] at e
    exact h (fr + k) (by omega) (by omega) (by omega) e
  rw [splitC_none c _ hno]
  simp only [List.map_cons, List.map_nil, List.cons.injEq, and_true]
  refine bytes_inj ?_
  rw [mkB_data, extract_data, List.take_of_length_le (by rw [data_len]; omega)]
theorem piece_at {s : ByteArray} {c : UInt8} {fr i : Nat} (hi : i < s.size) (hfr : fr ≤ i) (hc : s[i] = c) (h : NoC s c fr i) : (splitC c (s.data.toList.drop fr)).map mkB = s.extract fr i :: (splitC c (s.data.toList.drop (i + 1))).map mkB := by
  have h1 : (s.data.toList.drop fr)[i - fr]? = some c := by
    rw [List.getElem?_drop, show fr + (i - fr) = i by omega, List.getElem?_eq_getElem (by rw [data_len]; exact hi)]
    exact congrArg some hc
  have h2 : c ∉ (s.data.toList.drop fr).take (i - fr) := fun hm => by
    obtain ⟨k, hk, e⟩ := List.getElem_of_mem hm
    rw [List.length_take, List.length_drop, data_len] at hk
    rw [List.getElem_take, List.getElem_drop] at e
    exact h (fr + k) (by omega) (by omega) (by omega) e
  rw [splitC_at c _ _ h1 h2, List.map_cons, List.drop_drop, show fr + (i - fr + 1) = i + 1 by omega]
  congr 1
  refine bytes_inj ?_
  rw [mkB_data, extract_data, List.drop_take]
set_option maxRecDepth 100000 in
theorem rpieces_any (s : ByteArray) (c : UInt8) (w : World) (hs : s.size ≤ 1073741824) : Calls Tryd.prog 125 #[.string s, .int .u8 (c.toNat : Nat)] w (PiecesPost4 s c w) := by
  go_enter Tryd.func125, Tryd.ntmps125
  go_wp2
  go_loopw [5, 6, 7] (fun lv fv iv wr => ∃ (i fr n : Nat) (A : Option Addr) (T : List ByteArray), iv = .int .i64 i ∧ fv = .int .i64 fr ∧ lv = .slice A T.length n ∧ i ≤ s.size + 1 ∧ fr ≤ i ∧ T.length ≤ i ∧ Own Kn.str 9 w.heap.size (fun _ => True) wr (.slice A T.length n) T ∧ Below w.heap.size w wr ∧
    Hid (NoC s c fr i) ∧ Hid (if i ≤ s.size then T ++ (splitC c (s.data.toList.drop fr)).map mkB = (splitC c s.data.toList).map mkB else T = (splitC c s.data.toList).map mkB)) (fun _ _ iv _ => s.size + 1 - (intOf iv).toNat)
  case atStart => exact ⟨0, 0, 0, none, [], rfl, rfl, rfl, Nat.zero_le _, Nat.le_refl _, Nat.le_refl _, Own.nil _ _ _ _ _, Below.refl _ _, NoC.refl _ _ _, by simp [Hid]⟩
  case round =>
    obtain ⟨i, fr, n, A, T, rfl, rfl, rfl, hi, hfr, hT, hown, hbr, HN, HT⟩ := hrel
    by_cases hle : i ≤ s.size
    · have HT2 := Lib.hid (show T ++ (splitC c (s.data.toList.drop fr)).map mkB = (splitC c s.data.toList).map mkB by have := HT.out; rwa [if_pos hle] at this)
      have h16 : (T.length + 1) * 16 ≤ 140737488355328 := by omega
      by_cases heq : i = s.size
      · have e1 : ((i : Int) == s.size) = true := by simp; omega
        have hpc := Lib.hid (piece_end (s := s) (c := c) (fr := fr) (by rw [← heq]; exact HN.out))
        go_wp2_with (at_builtin; refine wpList_app_plain strElem Kn.plain_str w.heap.size rfl (.tmp 25) (.tmp 30) rfl (v := .slice A T.length n) (xs := T) (ys := [s.extract fr s.size]) rfl (hown.alloc _) rfl rfl (Row.newOnePlain (cs := [.string (s.extract fr s.size)]) Kn.plain_str rfl) (by simpa using h16) (by have := hbr.size; simp; omega) ?_; intro A7 c7 w7 happ; have HA7 := Lib.hid happ; clear happ)
        go_roundw
        case rel =>
          have q := hbr.size
          refine ⟨i + 1, i + 1, c7, A7, T ++ [s.extract fr s.size], by go_num, by go_num, by simp, by omega, Nat.le_refl _, by simp; omega, by simpa using HA7.out.own, HA7.out.below (hbr.alloc q _) (by simp; omega) (fun q hq => (hown.block_lt q hq).1), NoC.refl _ _ _, ?_⟩
          have := HT2.out
          rw [hpc.out] at this
          unfold Hid
          rw [if_neg (by omega)]
          simpa using this
        case measure => simp [intOf]; omega
      · have hlt : i < s.size := by omega
        have e1 : ((i : Int) == s.size) = false := by simp; omega
        by_cases hc : s[i] = c
        · have e2 : ((s[i].toNat : Int) == (c.toNat : Int)) = true := by rw [hc]; simp
          have hpc := Lib.hid (piece_at hlt hfr hc HN.out)
          clear hc
          go_wp2_with (at_builtin; refine wpList_app_plain strElem Kn.plain_str w.heap.size rfl (.tmp 25) (.tmp 30) rfl (v := .slice A T.length n) (xs := T) (ys := [s.extract fr i]) rfl (hown.alloc _) rfl rfl (Row.newOnePlain (cs := [.string (s.extract fr i)]) Kn.plain_str rfl) (by simpa using h16) (by have := hbr.size; simp; omega) ?_; intro A7 c7 w7 happ; have HA7 := Lib.hid happ; clear happ)
          go_roundw
          case rel =>
            have q := hbr.size
            refine ⟨i + 1, i + 1, c7, A7, T ++ [s.extract fr i], by go_num, by go_num, by simp, by omega, Nat.le_refl _, by simp; omega, by simpa using HA7.out.own, HA7.out.below (hbr.alloc q _) (by simp; omega) (fun q hq => (hown.block_lt q hq).1), NoC.refl _ _ _, ?_⟩
            have := HT2.out
            rw [hpc.out] at this
            unfold Hid
            rw [if_pos (by omega)]
            simpa using this
          case measure => simp [intOf]; omega
        · have e2 : ((s[i].toNat : Int) == (c.toNat : Int)) = false := by
            have : s[i].toNat ≠ c.toNat := fun h => hc (UInt8.toNat_inj.1 h)
            simp; omega
          have hn2 := Lib.hid (HN.out.step hlt hc)
          clear hc
          go_wp2
          go_roundw
          case rel => exact ⟨i + 1, fr, n, A, T, by go_num, rfl, rfl, by omega, by omega, by omega, hown, hbr, hn2.out, by unfold Hid; rw [if_pos (by omega)]; exact HT2.out⟩
          case measure => simp [intOf]; omega
    · have hTe := Lib.hid (show T = (splitC c s.data.toList).map mkB by have := HT.out; rwa [if_neg hle] at this)
      have hle' : ¬ (i : Int) ≤ s.size := by omega
      go_wp2
      go_ret
      have hl : T.length = (splitC c s.data.toList).length := by rw [hTe.out]; simp
      refine ⟨A, n, by rw [← hl]; rfl, ?_, hbr⟩
      rw [← hl, ← hTe.out]; exact hown
end Go.Proofs.YtdchffghgajbfaaDoor
