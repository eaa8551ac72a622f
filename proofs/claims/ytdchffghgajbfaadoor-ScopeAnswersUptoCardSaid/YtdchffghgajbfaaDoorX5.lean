/- The document's Parse. -/
import Derived.Test.YtdchffghgajbfaaDoorX4
namespace Go.Proofs.YtdchffghgajbfaaDoor
open Go.RowKit

theorem rprint_val (s : ScV) (t : ByteArray) (n : Int) (hp : Hid (printS s = (t, n))) (w : World) : Calls Tryd.prog 44 #[.agg #[.int .i64 s.kind, .int .i64 s.arg]] w fun e w' => e = .returned (.tuple #[.string t, .int .i64 n]) ∧ Below w.heap.size w w' := by
  have := rprint_any s w
  rw [hp.out] at this
  exact this
/-- a scope's own block -/
structure SBox (w : World) (b : Nat) (k a : Int) : Prop where
  blk : w.heap[b]? = some (.cells #[.int .i64 k, .int .i64 a] 54 (0, 0))
theorem SBox.below {w w' : World} {b : Nat} {k a : Int} (h : SBox w b k a) (hb : Below w.heap.size w w') : SBox w' b k a := ⟨(hb.block b (Array.getElem?_eq_some_iff.1 h.blk).1).trans h.blk⟩
theorem below_setRow2 {B g : Nat} {w w' : World} (h : Below B w w') (hg : B ≤ g) (cs : Array Value) : Below B w (w'.setRow g cs) :=
  ⟨h.os, h.tape, h.output, by simp only [size_setRow]; exact h.size, fun k hk => (setRow_other _ _ _ _ (by omega)).trans (h.block k hk)⟩
set_option maxRecDepth 100000 in
theorem rparse_any (t : ByteArray) (w : World) : Calls Tryd.prog 42 #[.string t] w (ParsePost (parseS t) w) := by
  have HB0 := Lib.hid ((Below.refl w.heap.size w).alloc (Nat.le_refl _) (.cells #[.int .i64 0, .int .i64 0] 54))
  have HS0 := Lib.hid (show SBox (w.alloc (.cells #[.int .i64 0, .int .i64 0] 54)) w.heap.size 0 0 from ⟨heap_alloc_new _ _⟩)
  have hinf : (Tryd.prog.info? 54).map (·.size) = some 2 := by kernel_rfl
  have hone : ∀ k a : Int, (#[.int .i64 k, .int .i64 a] : Array Value).all (·.oneCell') = true := fun k a => by simp [Value.oneCell']
  go_enter Tryd.func42, Tryd.ntmps42
  go_upto_region 2 with (go_at_call 72; refine (rAll_any _).mono ?_; rintro e w1 ⟨A1, c1, rfl, hown1, hb1⟩; have HB1 := Lib.hid hb1; have HO1 := Lib.hid hown1; clear hb1 hown1)
  have HBW := Lib.hid (HB0.out.trans (HB1.out.mono HB0.out.size))
  have HSW := Lib.hid (HS0.out.below HB1.out)
  have hl15 : (allS.length : Nat) = 15 := rfl
  go_wp2
  go_loopw [5] (fun iv wr => ∃ k : Nat, iv = .int .i64 k ∧ k ≤ 15 ∧ Hid (Below w1.heap.size w1 wr) ∧ Hid (∀ s ∈ allS.take k, textS s ≠ t)) (fun iv _ => 15 - (intOf iv).toNat)
  case atStart => exact ⟨0, rfl, Nat.zero_le _, Below.refl _ _, by simp [Hid]⟩
  case round =>
    obtain ⟨k, rfl, hk, hbr, hnt⟩ := hrel
    obtain ⟨wo, rfl⟩ : ∃ wo, wo = wr := ⟨_, rfl⟩
    have HSO := Lib.hid (HSW.out.below hbr.out)
    have HBO := Lib.hid (HBW.out.trans (hbr.out.mono HBW.out.size))
    by_cases hlt : k < 15
    · have hltx : k < allS.length := hlt
      have hlt1 : (k : Int) < 15 := by omega
      obtain ⟨a, rfl, l0, l1⟩ := sc_at (HO1.out.row'.2.1.below hbr.out) k hltx
      have hsv := allS_valid _ (List.getElem_mem hltx)
      have HPT := Lib.hid (parse_text _ (List.getElem_mem hltx))
      have HTK := Lib.hid (show allS.take (k + 1) = allS.take k ++ [allS[k]] from List.take_succ_eq_append_getElem hltx)
      obtain ⟨s, hs⟩ : ∃ s, allS[k] = s := ⟨_, rfl⟩
      rw [hs] at l0 l1 hsv HPT HTK
      obtain ⟨T, hT⟩ : ∃ T, textS s = T := ⟨_, rfl⟩
      have HPR := Lib.hid (show printS s = (T, 0) by unfold printS; rw [hsv, ← hT]; rfl)
      clear hs hsv
      have L0 := Lib.hid l0
      have L1 := Lib.hid l1
      by_cases he : T = t
      · have e1 : (T.toList == t.toList) = true := by rw [he]; simp
        have HF := Lib.hid (show parseS t = (s, 0) by rw [← he, ← hT]; exact HPT.out)
        clear he hT
        go_wp2_with (first
          | (go_at_call 44; refine (rprint_val s T 0 HPR _).mono ?_; rintro e w3 ⟨rfl, hb3⟩; have HB3 := Lib.hid hb3; have m0 := (hb3.cell (World.block_lt_of_cell? _ _ L0.out)).trans L0.out; have m1 := (hb3.cell (World.block_lt_of_cell? _ _ L1.out)).trans L1.out; have HS3 := Lib.hid (HSO.out.below hb3); clear hb3)
          | (refine wpList_store_row rfl 54 (.tmp 2) (.tmp 29) rfl w.heap.size #[.int .i64 s.kind, .int .i64 s.arg] rfl rfl _ _ HS3.out.blk hinf rfl (hone _ _) ?_))
        (try simp only [Exit.inBlock, Exit.then])
        refine bodyPost_ret (results_cell_tmp rfl _ _ w.heap.size 54 #[.int .i64 s.kind, .int .i64 s.arg] (0, 0) _ rfl (setRow_heap _ _ _ _ _ _ HS3.out.blk) Tryd.underlying54 rfl hinf) rfl ?_
        unfold ParsePost
        rw [HF.out]
        exact ⟨rfl, below_setRow2 (HBO.out.trans (HB3.out.mono HBO.out.size)) (Nat.le_refl _) _⟩
      · have e1 : (T.toList == t.toList) = false := by
          rw [Bool.eq_false_iff]
          intro h
          exact he (bytes_inj (by rw [← toList_eq, ← toList_eq]; simpa using h))
        have HN := Lib.hid (show ∀ s ∈ allS.take (k + 1), textS s ≠ t by
          rw [HTK.out]
          intro s' hs'
          rcases List.mem_append.1 hs' with h | h
          · exact hnt.out s' h
          · obtain rfl := List.mem_singleton.1 h
            rw [hT]; exact he)
        clear he hT
        go_wp2_with (go_at_call 44; refine (rprint_val s T 0 HPR _).mono ?_; rintro e w3 ⟨rfl, hb3⟩; have HB3 := Lib.hid hb3; clear hb3)
        go_roundw
        case rel => exact ⟨k + 1, by go_num, hlt, hbr.out.trans (HB3.out.mono hbr.out.size), HN.out⟩
        case measure => simp [intOf]; omega
    · have hge : ¬ ((k : Int) < 15) := by omega
      have HF := Lib.hid (show parseS t = (⟨0, 0⟩, 150) from parse_none fun s hs => hnt.out s (by rw [List.take_of_length_le (by rw [hl15]; omega)]; exact hs))
      go_wp2_with (refine wpList_store_row rfl 54 (.tmp 2) (.tmp 30) rfl w.heap.size #[.int .i64 0, .int .i64 0] rfl rfl _ _ HSO.out.blk hinf rfl (hone _ _) ?_)
      (try simp only [Exit.inBlock, Exit.then])
      refine bodyPost_ret (results_cell_tmp rfl _ _ w.heap.size 54 #[.int .i64 0, .int .i64 0] (0, 0) _ rfl (setRow_heap _ _ _ _ _ _ HSO.out.blk) Tryd.underlying54 rfl hinf) rfl ?_
      unfold ParsePost
      rw [HF.out]
      exact ⟨rfl, below_setRow2 HBO.out (Nat.le_refl _) _⟩
theorem rparse_val (t : ByteArray) (s : ScV) (n : Int) (hp : Hid (parseS t = (s, n))) (w : World) : Calls Tryd.prog 42 #[.string t] w fun e w' => e = .returned (.tuple #[.agg #[.int .i64 s.kind, .int .i64 s.arg], .int .i64 n]) ∧ Below w.heap.size w w' := by
  have := rparse_any t w
  rw [hp.out] at this
  exact this
end Go.Proofs.YtdchffghgajbfaaDoor
