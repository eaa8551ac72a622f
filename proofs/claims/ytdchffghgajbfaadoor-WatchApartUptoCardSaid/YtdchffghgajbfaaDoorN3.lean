/- bursarref04.Split, Path. -/
import Derived.Test.YtdchffghgajbfaaDoorN2
namespace Go.Proofs.YtdchffghgajbfaaDoor
open Go.RowKit

def RSplitPost (s : ByteArray) (w : World) (e : Ending) (w' : World) : Prop :=
  ∃ A c, e = .returned (.tuple #[.slice A (pathNames s).length c, .int .i64 (errPath s)]) ∧ Row Kn.str (fun _ => True) w' A (pathNames s) ∧ (pathNames s).length ≤ c ∧ Below w.heap.size w w'
theorem RSplitPost.no {s : ByteArray} {w w' : World} (h : isPath s = false) (hb : Below w.heap.size w w') : RSplitPost s w (.returned (.tuple #[.slice none 0 0, .int .i64 41])) w' := by
  have hn : pathNames s = [] := by
    unfold pathNames
    unfold isPath at h
    cases hp : pathL s.data.toList with
    | none => rfl
    | some l => rw [hp] at h; cases h
  have he : errPath s = 41 := by unfold errPath; rw [h]; rfl
  unfold RSplitPost
  rw [hn, he]
  exact ⟨none, 0, rfl, Row.nil _ _ _ _, Nat.zero_le _, hb⟩
/-- what the tests ask -/
theorem path_tests (s : ByteArray) (hne : s.data.toList ≠ [47]) : isPath s = (decide (s.size ≤ 64) && decide (2 ≤ (splitC 47 s.data.toList).length) && decide ((splitC 47 s.data.toList).length ≤ 9) && decide ((splitC 47 s.data.toList).head? = some []) && (splitC 47 s.data.toList).tail.all nameL) := by
  unfold isPath pathL
  rw [if_neg hne, ← data_len]
  cases hs : s.data.toList with
  | nil => simp [splitC]
  | cons b l =>
    by_cases hb : b = 47
    · subst hb
      have e : splitC 47 (47 :: l) = [] :: splitC 47 l := by simp [splitC]
      rw [e]
      have hpos : 1 ≤ (splitC 47 l).length := List.length_pos_iff.2 (splitC_ne 47 l)
      simp only [List.head?_cons, List.tail_cons, List.length_cons]
      split
      · rename_i h
        obtain ⟨_, h2, h3, h4⟩ := h
        simp; refine ⟨⟨⟨by simpa using h2, hpos⟩, h3⟩, by simpa using h4⟩
      · rename_i h
        symm; simp only [Option.isSome_none, Bool.and_eq_false_iff, decide_eq_false_iff_not]
        by_cases a1 : (l.length + 1 ≤ 64)
        · by_cases a2 : (splitC 47 l).length ≤ 8
          · right
            cases a3 : (splitC 47 l).all nameL
            · rfl
            · exact absurd ⟨by simp, by simpa using a1, a2, a3⟩ h
          · left; left; right; omega
        · left; left; left; left; exact a1
    · have hh : (splitC 47 (b :: l)).head? ≠ some [] := by
        unfold splitC
        rw [if_neg hb]
        split <;> simp
      rw [if_neg (by simp [hb])]
      simp [hh]
theorem path_names (s : ByteArray) (hne : s.data.toList ≠ [47]) (h : isPath s = true) : pathNames s = (splitC 47 s.data.toList).tail.map mkB ∧ errPath s = 0 := by
  refine ⟨?_, by unfold errPath; rw [h]; rfl⟩
  unfold pathNames
  unfold isPath pathL at h
  unfold pathL
  rw [if_neg hne] at h ⊢
  split at h
  · rename_i hc
    rw [if_pos hc]
    cases hs : s.data.toList with
    | nil => rw [hs] at hc; simp at hc
    | cons b l =>
      rw [hs] at hc
      have : b = 47 := by simpa using hc.1
      subst this
      simp [splitC]
  · cases h

set_option maxRecDepth 100000 in
theorem rsplit_any (s : ByteArray) (w : World) (hs : s.size ≤ 1073741824) : Calls Tryd.prog 106 #[.string s] w (RSplitPost s w) := by
  by_cases h0 : s.data.toList = [47]
  · have e1 : (s.toList == [47]) = true := by rw [toList_eq, h0]; rfl
    have hfin := Lib.hid (show RSplitPost s w (.returned (.tuple #[.slice none 0 0, .int .i64 0])) w by
      have hp : pathL s.data.toList = some [] := by unfold pathL; rw [if_pos h0]
      have hn : pathNames s = [] := by unfold pathNames; rw [hp]; rfl
      have he : errPath s = 0 := by unfold errPath isPath; rw [hp]; rfl
      unfold RSplitPost
      rw [hn, he]
      exact ⟨none, 0, rfl, Row.nil _ _ _ _, Nat.zero_le _, Below.refl _ _⟩)
    clear h0
    go_enter Tryd.func106, Tryd.ntmps106
    go_wp2
    go_ret2
    exact hfin.out
  · have e1 : (s.toList == [47]) = false := by rw [toList_eq]; simpa using h0
    have htest := path_tests s h0
    have hyes := Lib.hid (path_names s h0)
    have hpc := rpieces_any s 47 w hs
    obtain ⟨M, hM⟩ : ∃ M, splitC 47 s.data.toList = M := ⟨_, rfl⟩
    unfold PiecesPost4 at hpc
    rw [hM] at hpc htest hyes
    have HM := Lib.hid hM
    have hML : (M.map mkB).length = M.length := by simp
    have HPC := Lib.hid hpc
    have HNO := Lib.hid (fun (h : isPath s = false) w' (hb : Below w.heap.size w w') => RSplitPost.no h hb)
    clear hM hpc h0
    by_cases h1 : s.size ≤ 64
    · have e2 : decide ((s.size : Int) > 64) = false := by simp; omega
      by_cases h2 : 2 ≤ M.length
      · have e3 : decide ((M.length : Int) < 2) = false := by simp; omega
        by_cases h3 : M.length ≤ 9
        · have e4 : decide ((M.length : Int) > 9) = false := by simp; omega
          obtain ⟨LL, hLL⟩ : ∃ LL, M.map mkB = LL := ⟨_, rfl⟩
          rw [hLL] at hML
          have hl0 : 0 < LL.length := by omega
          have hM0 : 0 < M.length := by omega
          have hx0 : (LL[0]'hl0).data.toList = M[0]'hM0 := by subst hLL; simp [mkB_data]
          have hb0 : (0 : Int) < M.length := by omega
          have hhd : M.head? = some (M[0]'hM0) := by rw [List.head?_eq_getElem?, List.getElem?_eq_getElem (by omega)]
          have HLL := Lib.hid hLL
          have HML := Lib.hid hML
          have hrow : ∀ w1 A n, Own Kn.str 9 w.heap.size (fun _ => True) w1 (.slice A M.length n) (M.map mkB) → Row Kn.str (fun _ => True) w1 A LL ∧ LL.length ≤ n := fun w1 A n ho => by
            obtain ⟨_, q1, q2, _⟩ := ho.row'
            rw [HLL.out] at q1 q2
            exact ⟨q1, q2⟩
          have HROW := Lib.hid hrow
          have hm1 : M.length ≤ LL.length := by omega
          have hm2 : LL.length ≤ M.length := by omega
          clear hrow hLL hML
          by_cases h5 : M[0]'hM0 = []
          · have e5 : (LL[0]'hl0).toList.isEmpty = true := by rw [toList_eq, hx0, h5]; rfl
            have hnm : ∀ (k : Nat) (hk : k < LL.length), nameB LL[k] = nameL (M[k]'(by omega)) := fun k hk => by
              have := HLL.out
              subst this
              unfold nameB; simp [mkB_data]
            have HNM := Lib.hid hnm
            have hyes2 := Lib.hid (fun (h : M.tail.all nameL = true) => hyes.out (by rw [htest, hhd, h5, h]; simp [h1, h2, h3]))
            have hno2 := Lib.hid (fun (h : M.tail.all nameL = false) => HNO.out (by rw [htest, h]; simp))
            clear htest hx0 hhd hnm hyes h5
            go_enter Tryd.func106, Tryd.ntmps106
            go_wp2_with (go_at_call 125; refine HPC.out.mono ?_; rintro e w1 ⟨A1, n1, rfl, ho1, hb1⟩; have HB1 := Lib.hid hb1; clear hb1; have HR1 := Lib.hid (HROW.out _ _ _ ho1); obtain ⟨a1, rfl, hc0⟩ := row_str_at HR1.out.1 0 hl0; have hc00 := (show w1.cell? a1 = _ by simpa [Addr.add] using hc0); clear hc0)
            clear e1 e2 e3 e4 e5 hc00
            go_loopw [5] (fun iv wr => ∃ k : Nat, iv = .int .i64 k ∧ 1 ≤ k ∧ k ≤ LL.length ∧ Below w1.heap.size w1 wr ∧ Hid (∀ j (h : j < LL.length), 1 ≤ j → j < k → nameB LL[j] = true)) (fun iv _ => LL.length - (intOf iv).toNat)
            case atStart => exact ⟨1, rfl, Nat.le_refl _, by omega, Below.refl _ _, fun j _ a b => by omega⟩
            case round =>
              obtain ⟨k, rfl, hk1, hkl, hbr, HK⟩ := hrel
              have HB2 := Lib.hid (HB1.out.trans (hbr.mono HB1.out.size))
              by_cases hlt : k < LL.length
              · obtain ⟨a2, ha2, hck⟩ := row_str_at (HR1.out.1.below hbr) k hlt
                obtain rfl := Option.some.inj ha2
                clear ha2
                have hki : (k : Int) < M.length := by omega
                cases hname : nameB LL[k]
                · have hfin := Lib.hid (hno2.out (by
                    rw [Bool.eq_false_iff]; intro h
                    rw [List.all_eq_true] at h
                    have h9 : M[k]'(by omega) ∈ M.tail := by
                      rw [← List.drop_one, List.mem_drop_iff_getElem]
                      exact ⟨k - 1, by omega, by congr 1; omega⟩
                    have := h _ h9
                    rw [← HNM.out k hlt, hname] at this; cases this))
                  have HNAME := Lib.hid hname
                  clear hname
                  go_wp2_with (go_at_call 105; refine (rname_any _ _).mono ?_; rintro e w3 ⟨rfl, rfl⟩; rw [HNAME.out])
                  go_ret2
                  exact hfin.out _ HB2.out
                · have hk2 := Lib.hid (show ∀ j (h : j < LL.length), 1 ≤ j → j < k + 1 → nameB LL[j] = true from fun j h a b => by
                    by_cases e : j = k
                    · subst e; exact hname
                    · exact HK.out j h a (by omega))
                  have HNAME := Lib.hid hname
                  clear hname
                  go_wp2_with (go_at_call 105; refine (rname_any _ _).mono ?_; rintro e w3 ⟨rfl, rfl⟩; rw [HNAME.out])
                  go_roundw
                  case rel => exact ⟨k + 1, by go_num, by omega, hlt, hbr, hk2⟩
                  case measure => simp [intOf]; omega
              · have hki : ¬ (k : Int) < M.length := by omega
                have hall : M.tail.all nameL = true := by
                  rw [List.all_eq_true]
                  intro x hx
                  obtain ⟨j, hj, rfl⟩ := List.getElem_of_mem hx
                  rw [List.length_tail] at hj
                  rw [List.getElem_tail, ← HNM.out (j + 1) (by omega)]
                  exact HK.out (j + 1) (by omega) (by omega) (by omega)
                have hres := hyes2.out hall
                obtain ⟨A3, hA3⟩ : ∃ A3, (if n1 = 1 then some a1 else (some a1).map (·.add (1 * Kn.str.sz))) = A3 := ⟨_, rfl⟩
                have hcut := run_cut_from strElem (some a1) M.length n1 1 (by omega)
                rw [hA3] at hcut
                have hrd := (HR1.out.1.below hbr).drop 1 n1 HR1.out.2
                rw [hA3] at hrd
                have hfin := Lib.hid (show RSplitPost s w (.returned (.tuple #[.slice A3 (M.length - 1) (n1 - 1), .int .i64 0])) wr by
                  unfold RSplitPost
                  rw [hres.1, hres.2]
                  have e8 : M.tail.map mkB = LL.drop 1 := by rw [← HLL.out, ← List.map_drop, List.drop_one]
                  rw [e8]
                  exact ⟨A3, n1 - 1, by rw [List.length_drop, show LL.length - 1 = M.length - 1 by omega], hrd, by rw [List.length_drop]; have := HR1.out.2; omega, HB2.out⟩)
                have hn1 : ¬ n1 = 1 := by have := HR1.out.2; omega
                have hA4 : A3 = some ⟨a1.block, a1.off + 1, none⟩ := by rw [← hA3, if_neg hn1]; rfl
                clear hall hres hrd hcut hA3
                subst hA4
                go_wp2
                go_ret2
                exact hfin.out
          · have e5 : (LL[0]'hl0).toList.isEmpty = false := by rw [toList_eq, hx0]; simpa using h5
            have hfin := Lib.hid (HNO.out (by rw [htest, hhd]; simp [h5]))
            clear htest hx0 hhd h5
            go_enter Tryd.func106, Tryd.ntmps106
            go_wp2_with (go_at_call 125; refine HPC.out.mono ?_; rintro e w1 ⟨A1, n1, rfl, ho1, hb1⟩; have HB1 := Lib.hid hb1; clear hb1; obtain ⟨a1, rfl, hc0⟩ := row_str_at (HROW.out _ _ _ ho1).1 0 hl0; have hc00 := (show w1.cell? a1 = _ by simpa [Addr.add] using hc0); clear hc0)
            go_ret2
            exact hfin.out _ HB1.out
        · have e4 : decide ((M.length : Int) > 9) = true := by simp; omega
          have hfin := Lib.hid (HNO.out (by rw [htest]; simp [h3]))
          clear htest
          go_enter Tryd.func106, Tryd.ntmps106
          go_wp2_with (go_at_call 125; refine HPC.out.mono ?_; rintro e w1 ⟨A1, n1, rfl, ho1, hb1⟩; have HB1 := Lib.hid hb1; clear hb1)
          go_ret2
          exact hfin.out _ HB1.out
      · have e3 : decide ((M.length : Int) < 2) = true := by simp; omega
        have hfin := Lib.hid (HNO.out (by rw [htest]; simp [h2]))
        clear htest
        go_enter Tryd.func106, Tryd.ntmps106
        go_wp2_with (go_at_call 125; refine HPC.out.mono ?_; rintro e w1 ⟨A1, n1, rfl, ho1, hb1⟩; have HB1 := Lib.hid hb1; clear hb1)
        go_ret2
        exact hfin.out _ HB1.out
    · have e2 : decide ((s.size : Int) > 64) = true := by simp; omega
      have hfin := Lib.hid (HNO.out (by rw [htest]; simp [h1]))
      clear htest
      go_enter Tryd.func106, Tryd.ntmps106
      go_wp2_with (go_at_call 125; refine HPC.out.mono ?_; rintro e w1 ⟨A1, n1, rfl, ho1, hb1⟩; have HB1 := Lib.hid hb1; clear hb1)
      go_ret2
      exact hfin.out _ HB1.out
theorem rpath_any (s : ByteArray) (w : World) (hs : s.size ≤ 1073741824) : Calls Tryd.prog 83 #[.string s] w fun e w' => e = .returned (.int .i64 (errPath s)) ∧ Below w.heap.size w w' := by
  go_enter Tryd.func83, Tryd.ntmps83
  go_wp2_with (go_at_call 106; refine (rsplit_any s w hs).mono ?_; rintro e w1 ⟨A, c, rfl, _, _, hb⟩)
  go_ret
  exact ⟨rfl, hb⟩
end Go.Proofs.YtdchffghgajbfaaDoor
