/- The lists of scopes: alike; all that are valid. -/
import Derived.Test.YtdchffghgajbfaaDoorV5
namespace Go.Proofs.YtdchffghgajbfaaDoor
open Go.RowKit

theorem sc_at {P : Nat → Prop} {w : World} {A : Option Addr} {xs : List ScV} (h : Row kSc P w A xs) (i : Nat) (hi : i < xs.length) : ∃ a, A = some a ∧ w.cell? (a.add (i * 2)) = some (.int .i64 xs[i].kind) ∧ w.cell? ⟨(a.add (i * 2)).block, (a.add (i * 2)).off + 1, none⟩ = some (.int .i64 xs[i].arg) := by
  obtain ⟨a, cs, hA, hP, hr, hc⟩ := h.at_ i hi
  obtain rfl : cs = xs[i].cells := hr
  exact ⟨a, hA, hc 0 _ rfl, by rw [← add_off _ _ 1 (by omega)]; exact hc 1 _ rfl⟩
set_option maxRecDepth 100000 in
theorem sameScopes_any (A B : Option Addr) (n m c d : Nat) (P Q : Nat → Prop) (xs ys : List ScV) (w : World) (hx : Row kSc P w A xs) (hy : Row kSc Q w B ys) (hn : xs.length = n) (hm : ys.length = m) (hlx : n ≤ 9223372036854775807) :
    Calls Tryd.prog 34 #[.slice A n c, .slice B m d] w fun e w' => e = .returned (.bool (decide (xs = ys))) ∧ Below w.heap.size w w' := by
  subst hn; subst hm
  by_cases hl : xs.length = ys.length
  · have hl1 : ((xs.length : Int) != ys.length) = false := by simp [hl]
    have HL := Lib.hid hl
    clear hl
    go_enter Tryd.func34, Tryd.ntmps34
    go_wp2
    go_loopw [5] (fun i wr => ∃ k : Nat, i = .int .i64 k ∧ k ≤ xs.length ∧ Below w.heap.size w wr ∧ Hid (xs.take k = ys.take k)) (fun i _ => xs.length - (intOf i).toNat)
    case atStart => exact ⟨0, rfl, Nat.zero_le _, Below.refl _ _, by simp [Hid]⟩
    case round =>
      obtain ⟨k, rfl, hk, hbr, HT⟩ := hrel
      by_cases hlt : k < xs.length
      · have hlty : k < ys.length := by rw [← HL.out]; exact hlt
        obtain ⟨a, rfl, l0, l1⟩ := sc_at (hx.below hbr) k hlt
        obtain ⟨b, rfl, m0, m1⟩ := sc_at (hy.below hbr) k hlty
        have hx1 : (k : Int) < (xs.length : Int) := by omega
        have hy1 : (k : Int) < (ys.length : Int) := by omega
        have hk0 : (0 : Int) ≤ (k : Int) := by omega
        cases he : eqSc xs[k] (ys[k]'hlty)
        · have hrun := fun W => run_neqSc xs[k] (ys[k]'hlty) false he W
          have hne := Lib.hid (show decide (xs = ys) = false by
            simp only [decide_eq_false_iff_not]
            intro e
            have : xs[k] = ys[k]'hlty := by simp [e]
            rw [eqSc_iff, decide_eq_false_iff_not] at he
            exact he this)
          go_wp2
          go_quiet (fail)
          go_wp2
          go_ret
          exact ⟨by rw [hne.out]; rfl, below_drewN hbr _⟩
        · have hrun := fun W => run_neqSc xs[k] (ys[k]'hlty) true he W
          have hkk : xs[k] = ys[k]'hlty := by rw [eqSc_iff] at he; simpa using he
          have HT2 := Lib.hid (show xs.take (k + 1) = ys.take (k + 1) by rw [List.take_succ_eq_append_getElem hlt, List.take_succ_eq_append_getElem hlty, HT.out, hkk])
          clear hkk
          go_wp2
          go_quiet (fail)
          go_wp2
          go_roundw
          case rel => exact ⟨k + 1, by go_num, hlt, below_drewN hbr _, HT2⟩
          case measure => simp [intOf]; omega
      · have hres := Lib.hid (show decide (xs = ys) = true by
          have h1 := HT.out
          rw [List.take_of_length_le (by omega), List.take_of_length_le (by rw [← HL.out]; omega)] at h1
          simpa using h1)
        have hge : ¬ ((k : Int) < (xs.length : Int)) := by omega
        go_wp2
        go_ret
        exact ⟨by rw [hres.out]; rfl, hbr⟩
  · have hl1 : ((xs.length : Int) != ys.length) = true := by simp only [bne_iff_ne, ne_eq]; omega
    have hres := Lib.hid (show decide (xs = ys) = false by simp only [decide_eq_false_iff_not]; intro e; exact hl (by rw [e]))
    clear hl
    go_enter Tryd.func34, Tryd.ntmps34
    go_wp2
    go_ret
    exact ⟨by rw [hres.out]; rfl, Below.refl _ _⟩

theorem scAt_new (w : World) (k a : Int) : ScAt (w.alloc (.cells #[.int .i64 k, .int .i64 a] 54)) w.heap.size k a := by
  have hg := heap_alloc_new w (.cells #[.int .i64 k, .int .i64 a] 54)
  exact ⟨(cell_of_row _ _ _ _ _ _ hg).trans rfl, (cell_of_row _ _ _ _ _ _ hg).trans rfl⟩
theorem ScAt.below {w w' : World} {p : Nat} {k a : Int} (h : ScAt w p k a) (hb : Below w.heap.size w w') : ScAt w' p k a := by
  have hl := World.block_lt_of_cell? w _ h.s0
  exact ⟨(hb.cell (p := ⟨p, 0, none⟩) hl).trans h.s0, (hb.cell (p := ⟨p, 1, none⟩) hl).trans h.s1⟩
structure ScsAt (b0 : Nat) (w0 wr : World) (lv : Value) (M L : List ScV) : Prop where
  own : Own kSc 54 b0 (fun _ => True) wr lv M
  below : Below b0 w0 wr
  eq : M = L
theorem ScsAt.mono_below {b0 : Nat} {w0 wr w' : World} {lv : Value} {M L : List ScV} (h : ScsAt b0 w0 wr lv M L) (hb : Below wr.heap.size wr w') (h0 : b0 ≤ wr.heap.size) : ScsAt b0 w0 w' lv M L := ⟨h.own.below hb, h.below.trans (hb.mono h0), h.eq⟩
theorem ScsAt.app {b0 : Nat} {w0 wr wx w' : World} {lv lv' : Value} {M L zs : List ScV} {x : ScV} (h : ScsAt b0 w0 wr lv M L) (hx : Below wr.heap.size wr wx) (h0 : b0 ≤ wr.heap.size) (hz : zs = M ++ [x]) (ha : Appended kSc 54 b0 (fun _ => True) wx w' lv lv' zs) : ScsAt b0 w0 w' lv' zs (L ++ [x]) :=
  ⟨ha.own, ha.below (h.below.trans (hx.mono h0)) (Nat.le_trans h0 hx.size) (fun q hq => (h.own.block_lt q hq).1), by rw [hz, h.eq]⟩
def ScopesPost (w : World) (e : Ending) (w' : World) : Prop := ∃ A c, e = .returned (.slice A 15 c) ∧ Own kSc 54 w.heap.size (fun _ => True) w' (.slice A 15 c) allS ∧ Below w.heap.size w w'
set_option maxRecDepth 100000 in
theorem scopes_any (w : World) : Calls Tryd.prog 45 #[] w (ScopesPost w) := by
  have HW := Lib.hid (Below.refl w.heap.size w)
  go_enter Tryd.func45, Tryd.ntmps45
  go_wp2
  go_loopw [1, 2] (fun lv kv wr => ∃ (j n : Nat) (B : Option Addr) (M : List ScV), kv = .int .i64 ((j : Int) - 1) ∧ lv = .slice B M.length n ∧ j ≤ 9 ∧ M.length ≤ 117 ∧ Hid (ScsAt w.heap.size w wr lv M (scopesTo j))) (fun _ kv _ => 9 - (intOf kv + 1).toNat)
  case atStart => exact ⟨0, 0, none, [], by go_num, rfl, Nat.zero_le _, Nat.zero_le _, Own.nil _ _ _ _ _, HW.out, by simp [scopesTo]⟩
  case round =>
    obtain ⟨j, n, B, M, rfl, rfl, hj, hM, hall⟩ := hrel
    obtain ⟨wo, rfl⟩ : ∃ wo, wo = wr := ⟨_, rfl⟩
    by_cases hlt : j < 9
    · have hlt1 : (j : Int) - 1 < 8 := by omega
      have HLEN := Lib.hid (show (scopesTo j).length ≤ 13 * j from scopesTo_len j)
      clear hM
      go_wp2
      go_loopw [1, 3] (fun lv av wr => ∃ (a n : Nat) (B : Option Addr) (M : List ScV), av = .int .i64 ((a : Int) - 1) ∧ lv = .slice B M.length n ∧ a ≤ 13 ∧ M.length ≤ 117 ∧ Hid (ScsAt w.heap.size w wr lv M (scopesTo j ++ rowS ((j : Int) - 1) a))) (fun _ av _ => 13 - (intOf av + 1).toNat)
      case atStart => exact ⟨0, n, B, M, by go_num, rfl, Nat.zero_le _, by rw [hall.out.eq]; have := HLEN.out; omega, hall.out.own, hall.out.below, by rw [hall.out.eq]; simp [rowS]⟩
      case round =>
        clear hall
        obtain ⟨a, n2, B2, M2, rfl, rfl, ha, hM2, hall2⟩ := hrel
        obtain ⟨wp, rfl⟩ : ∃ wp, wp = wr := ⟨_, rfl⟩
        have hsz := hall2.out.below.size
        by_cases hlta : a < 13
        · have hlt2 : (a : Int) - 1 < 12 := by omega
          have HB1 := Lib.hid ((Below.refl wp.heap.size wp).alloc (Nat.le_refl _) (.cells #[.int .i64 ((j : Int) - 1), .int .i64 ((a : Int) - 1)] 54))
          obtain ⟨s0, s1⟩ := scAt_new wp ((j : Int) - 1) ((a : Int) - 1)
          have HLN := Lib.hid (show M2.length ≤ 13 * j + a by
            rw [hall2.out.eq, List.length_append]
            have := HLEN.out
            have := rowS_len ((j : Int) - 1) a
            omega)
          have h16 : (M2.length + 1) * 16 ≤ 140737488355328 := by omega
          cases hv : validS ⟨(j : Int) - 1, (a : Int) - 1⟩
          · have HV := Lib.hid hv
            have HST := Lib.hid (show rowS ((j : Int) - 1) (a + 1) = rowS ((j : Int) - 1) a by rw [rowS_step, hv]; simp)
            clear hv
            go_wp2_with (go_at_call 28; refine (valid_val ⟨(j : Int) - 1, (a : Int) - 1⟩ false HV _).mono ?_; rintro e w2 ⟨rfl, hb2⟩; have HB2 := Lib.hid (HB1.out.trans (hb2.mono HB1.out.size)); clear hb2)
            go_roundw
            case rel => exact ⟨a + 1, n2, B2, M2, by go_num, rfl, hlta, hM2, by have := hall2.out.mono_below HB2.out hsz; unfold Hid; rw [HST.out]; exact this⟩
            case measure => simp [intOf]; omega
          · have HV := Lib.hid hv
            have HST := Lib.hid (show rowS ((j : Int) - 1) (a + 1) = rowS ((j : Int) - 1) a ++ [⟨(j : Int) - 1, (a : Int) - 1⟩] by rw [rowS_step, hv]; rfl)
            clear hv
            go_wp2_with (first
              | (go_at_call 28; refine (valid_val ⟨(j : Int) - 1, (a : Int) - 1⟩ true HV _).mono ?_; rintro e w2 ⟨rfl, hb2⟩; have HB2 := Lib.hid (HB1.out.trans (hb2.mono HB1.out.size)); have m0 := (hb2.cell (World.block_lt_of_cell? _ _ s0)).trans s0; have m1 := (hb2.cell (World.block_lt_of_cell? _ _ s1)).trans s1; clear hb2)
              | (at_builtin; refine wpList_app_plain scElem kSc_plain w.heap.size rfl (.tmp 18) (.tmp 20) rfl (v := .slice B2 M2.length n2) (xs := M2) (ys := [(⟨(j : Int) - 1, (a : Int) - 1⟩ : ScV)]) rfl ((hall2.out.own.below HB2.out).alloc _) rfl rfl (Row.newOnePlain (cs := ScV.cells ⟨(j : Int) - 1, (a : Int) - 1⟩) kSc_plain rfl) (by exact h16) (by have := HB2.out.size; simp; omega) ?_; intro A7 c7 w7 happ; have HA7 := Lib.hid happ; clear happ))
            go_roundw
            case rel =>
              have hl1 : (M2 ++ [(⟨(j : Int) - 1, (a : Int) - 1⟩ : ScV)]).length = M2.length + 1 := by rw [List.length_append]; rfl
              exact ⟨a + 1, c7, A7, M2 ++ [⟨(j : Int) - 1, (a : Int) - 1⟩], by go_num, by rw [hl1], hlta, by rw [hl1]; have := HLN.out; omega, by
                have := hall2.out.app (HB2.out.alloc HB2.out.size _) hsz rfl HA7.out
                unfold Hid; rw [HST.out]; rw [List.append_assoc] at this; exact this⟩
            case measure => simp [intOf]; omega
        · have hge2 : ¬ ((a : Int) - 1 < 12) := by omega
          have ha13 : a = 13 := by omega
          subst ha13
          go_wp2
          go_roundw
          case rel => exact ⟨j + 1, n2, B2, M2, by go_num, rfl, hlt, hM2, by unfold Hid; rw [scopesTo_step]; exact hall2.out⟩
          case measure => simp [intOf]; omega
    · have hge : ¬ ((j : Int) - 1 < 8) := by omega
      have hj9 : j = 9 := by omega
      subst hj9
      have HM9 := Lib.hid (show M = allS by rw [hall.out.eq, scopesTo_all])
      have hl15 : M.length = 15 := by rw [HM9.out]; rfl
      have HO := Lib.hid (show Own kSc 54 w.heap.size (fun _ => True) wo (.slice B 15 n) allS by have := hall.out.own; rw [HM9.out] at this; exact this)
      have HBL := Lib.hid hall.out.below
      rw [hl15]
      clear hall hM hl15
      go_wp2
      go_ret
      exact ⟨_, _, rfl, HO.out, HBL.out⟩
end Go.Proofs.YtdchffghgajbfaaDoor
