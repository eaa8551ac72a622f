/- The law's sameSet, where it says yes. -/
import Derived.Test.YtdchffghgajbfaaDoorM6
import Derived.Test.YtdchffghgajbfaaDoorM5
namespace Go.Proofs.YtdchffghgajbfaaDoor
open Go.RowKit

theorem any_step {T : List Tx} {j : Nat} (hj : j < T.length) (s : Tx) : (T.take (j + 1)).any (fun t => decide (s = t)) = ((T.take j).any (fun t => decide (s = t)) || decide (s = T[j])) := by
  rw [List.take_succ_eq_append_getElem hj, List.any_append]; simp
theorem txt_at {P : Nat → Prop} {w : World} {A : Option Addr} {S : List Tx} (h : Row Kn.str P w A (S.map mkB)) (i : Nat) (hi : i < S.length) : ∃ a x, A = some a ∧ x = mkB S[i] ∧ w.cell? (a.add i) = some (.string x) := by
  obtain ⟨a, ha, hc⟩ := row_str_at h i (by rw [List.length_map]; exact hi)
  exact ⟨a, _, ha, by simp, hc⟩
set_option maxRecDepth 100000 in
set_option maxHeartbeats 1000000 in
theorem sameSet_any (A B : Option Addr) (c d : Nat) (P Q : Nat → Prop) (S T : List Tx) (w : World) (hx : Row Kn.str P w A (S.map mkB)) (hy : Row Kn.str Q w B (T.map mkB)) (hasc : Asc S) (hlen : S.length = T.length) (hmem : ∀ x ∈ S, x ∈ T) (hlx : S.length ≤ 9223372036854775807) :
    Calls Tryd.prog 51 #[.slice A S.length c, .slice B T.length d] w fun e w' => e = .returned (.bool true) ∧ Below w.heap.size w w' := by
  have hl1 : ((S.length : Int) != T.length) = false := by simp [hlen]
  have HASC := Lib.hid hasc
  have HMEM := Lib.hid hmem
  have hlT : T.length ≤ 9223372036854775807 := by omega
  clear hasc hmem hlen
  go_enter Tryd.func51, Tryd.ntmps51
  go_wp2
  go_loopw [5] (fun iv wr => ∃ i : Nat, iv = .int .i64 i ∧ i ≤ S.length ∧ Hid (Below w.heap.size w wr)) (fun iv _ => S.length - (intOf iv).toNat)
  case atStart => exact ⟨0, rfl, Nat.zero_le _, Lib.hid (Below.refl _ _)⟩
  case round =>
    obtain ⟨i, rfl, hi, hbr⟩ := hrel
    obtain ⟨wo, rfl⟩ : ∃ wo, wo = wr := ⟨_, rfl⟩
    by_cases hlt : i < S.length
    · obtain ⟨a, y, rfl, hye, hc⟩ := txt_at (hx.below hbr.out) i hlt
      have hiS : (i : Int) < (S.length : Int) := by omega
      have hi0 : (0 : Int) ≤ (i : Int) := by omega
      have HY := Lib.hid hye
      have HCY := Lib.hid (fun W (hb : Below w.heap.size w W) => show W.cell? (a.add i) = some (.string y) by
        obtain ⟨a', y', ha', hy', hc'⟩ := txt_at (hx.below hb) i hlt
        cases ha'; rw [hy', ← hye] at hc'; exact hc')
      clear hye
      go_upto_region 6 with fail
      go_cut [32] (fun s wx => ∃ w1, w1 = wx ∧ s = .bool false ∧ Below wo.heap.size wo w1)
      case first =>
        by_cases h0 : i = 0
        · have e0 : decide ((i : Int) > 0) = false := by simp; omega
          go_quiet (fail)
          go_wp2
          go_meet
          exact ⟨_, rfl, rfl, below_drewN (Below.refl _ _) _⟩
        · have e0 : decide ((i : Int) > 0) = true := by simp; omega
          have hpos : 0 < i := by omega
          have hw1 : IntKind.i64.wrap ((i : Int) - 1) = ((i - 1 : Nat) : Int) := by rw [IntKind.wrap_i64]; omega
          obtain ⟨a', z, ha', hze, hcz⟩ := txt_at (hx.below hbr.out) (i - 1) (by omega)
          cases ha'
          have hlt2 : S[i - 1]'(by omega) < S[i] := by
            have := List.pairwise_iff_getElem.1 HASC.out (i - 1) i (by omega) hlt (by omega)
            exact this
          have e1 : Op.bytesLess y.toList z.toList = false := by
            rw [HY.out, hze, mkB_toList, mkB_toList, bytesLess_eq]
            simp only [decide_eq_false_iff_not]
            exact fun h => List.lt_irrefl _ (List.lt_trans h hlt2)
          have e2 : (y.toList == z.toList) = false := by
            rw [HY.out, hze, mkB_toList, mkB_toList]
            simp only [beq_eq_false_iff_ne]
            intro h
            rw [h] at hlt2
            exact List.lt_irrefl _ hlt2
          have hi1 : ((i - 1 : Nat) : Int) < (S.length : Int) := by omega
          clear hze hlt2
          go_quiet (fail)
          go_wp2
          go_meet
          exact ⟨_, rfl, rfl, below_drewN (Below.refl _ _) _⟩
      case rest =>
        obtain ⟨w1, rfl, rfl, hb1⟩ := hcut
        have HB1 := Lib.hid (hbr.out.trans (hb1.mono hbr.out.size))
        clear hb1 hc
        go_wp2
        go_loopw [6, 7] (fun fv jv wr => ∃ (j : Nat) (b : Bool), jv = .int .i64 j ∧ fv = .bool b ∧ j ≤ T.length ∧ Hid (Below w.heap.size w wr) ∧ Hid ((T.take j).any (fun t => decide (S[i] = t)) = b)) (fun _ jv _ => T.length - (intOf jv).toNat)
        case atStart => exact ⟨0, false, rfl, rfl, Nat.zero_le _, HB1, by simp [Hid]⟩
        case round =>
          obtain ⟨j, b, rfl, rfl, hj, hb2, HA⟩ := hrel
          obtain ⟨w2, rfl⟩ : ∃ w2, w2 = wr := ⟨_, rfl⟩
          have hcy := HCY.out _ hb2.out
          by_cases hlt2 : j < T.length
          · obtain ⟨a3, t, rfl, hte, hct⟩ := txt_at (hy.below hb2.out) j hlt2
            have hjT : (j : Int) < (T.length : Int) := by omega
            have hj0 : (0 : Int) ≤ (j : Int) := by omega
            have hstep := any_step hlt2 S[i]
            rw [HA.out] at hstep
            have hq : (y.toList == t.toList) = decide (S[i] = T[j]) := by
              rw [HY.out, hte, mkB_toList, mkB_toList, Bool.eq_iff_iff]; simp
            cases b
            · cases he : (y.toList == t.toList)
              · have HS := Lib.hid (show (T.take (j + 1)).any (fun t => decide (S[i] = t)) = false by rw [hstep, ← hq, he]; rfl)
                clear hstep hq hte
                go_wp2
                go_quiet (fail)
                go_wp2
                go_roundw
                case rel => exact ⟨j + 1, false, by go_num, rfl, hlt2, below_drewN hb2.out _, HS⟩
                case measure => simp [intOf]; omega
              · have HS := Lib.hid (show (T.take (j + 1)).any (fun t => decide (S[i] = t)) = true by rw [hstep, ← hq, he]; rfl)
                clear hstep hq hte
                go_wp2
                go_quiet (fail)
                go_wp2
                go_roundw
                case rel => exact ⟨j + 1, true, by go_num, rfl, hlt2, below_drewN hb2.out _, HS⟩
                case measure => simp [intOf]; omega
            · have HS := Lib.hid (show (T.take (j + 1)).any (fun t => decide (S[i] = t)) = true by rw [hstep]; rfl)
              clear hstep hq hte
              go_wp2
              go_quiet (fail)
              go_wp2
              go_roundw
              case rel => exact ⟨j + 1, true, by go_num, rfl, hlt2, below_drewN hb2.out _, HS⟩
              case measure => simp [intOf]; omega
          · have hge : ¬ ((j : Int) < (T.length : Int)) := by omega
            have hall := HA.out
            rw [List.take_of_length_le (by omega)] at hall
            have hb : b = true := by
              rw [← hall, List.any_eq_true]
              exact ⟨S[i], HMEM.out _ (List.getElem_mem _), by simp⟩
            subst hb
            clear hall
            go_wp2
            go_roundw
            case rel => exact ⟨i + 1, by go_num, hlt, hb2⟩
            case measure => simp [intOf]; omega
    · have hge : ¬ ((i : Int) < (S.length : Int)) := by omega
      go_wp2
      go_ret
      exact ⟨rfl, hbr.out⟩
end Go.Proofs.YtdchffghgajbfaaDoor
