/- The document's Uses: rows counted, amounts put in their places. -/
import Derived.Test.YtdchffghgajbfaaDoorY5
import Derived.Test.YtdchffghgajbfaaDoorY2
namespace Go.Proofs.YtdchffghgajbfaaDoor
open Go.RowKit

theorem RowsAt.move_below {base : Nat} {w0 wr w' : World} {lv : Value} {j : Nat} {R : List RawV} {T : List (Key × Int)} (h : RowsAt base w0 wr lv j R T) (hb0 : base ≤ w0.heap.size) (hb : Below wr.heap.size wr w') : RowsAt base w0 w' lv j R T :=
  ⟨h.own.below hb, h.below.trans (hb.mono (Nat.le_trans hb0 h.below.size)), h.eq, h.nodup, h.ok, h.len⟩
theorem rows_start (w0 : World) : RowsAt w0.heap.size w0 (w0.alloc (.cells #[.string ⟨#[99, 111, 117, 110, 116]⟩, .int .i64 0, .int .i64 1000] 117)) (.slice (some ⟨w0.heap.size, 0, none⟩) 1 1) 0 [⟨⟨#[99, 111, 117, 110, 116]⟩, 0, 1000⟩] [(countK, 1000)] := by
  refine ⟨⟨RawV.cells ⟨⟨#[99, 111, 117, 110, 116]⟩, 0, 1000⟩, ⟨rfl, .inr ⟨w0.heap.size, 1, _, rfl, Nat.le_refl _, heap_alloc_new _ _, Nat.le_refl _, by unfold maxLen; omega, rfl, rfl⟩⟩, Flat.single rfl⟩, (Below.refl _ _).alloc (Nat.le_refl _) _, rfl, by simp, fun r hr => ?_, Nat.le_refl _⟩
  rw [List.mem_singleton.1 hr]
  exact ⟨Int.le_refl _, by show (0 : Int) ≤ _; omega, by show (0 : Int) ≤ 1000; omega, by show (1000 : Int) < _; omega⟩
theorem rowsR_append (T l r : List (Key × Int)) : rowsR T (l ++ r) = rowsR (rowsR T l) r := by unfold rowsR; rw [List.foldl_append]
theorem allA_take {ps : List PartV} {k : Nat} (h : k < ps.length) : allA (ps.take (k + 1)) = allA (ps.take k) ++ (ps[k].req.map (preA reqK) ++ ps[k].lim.map (preA limK)) := by
  rw [List.take_succ_eq_append_getElem h]
  unfold allA
  rw [List.flatMap_append]
  simp
theorem any_neg_pre (s : ByteArray) (L : List Amt) : (L.map (preB s)).any negA = L.any negA := by rw [List.any_map]; rfl
theorem allB_neg_step {ps : List PartV} {k : Nat} (h : k < ps.length) (h0 : (allB (ps.take k)).any negA = false) (h1 : ps[k].req.any negA = false) (h2 : ps[k].lim.any negA = false) : (allB (ps.take (k + 1))).any negA = false := by
  rw [allB_take h, List.any_append, List.any_append, any_neg_pre, any_neg_pre, h0, h1, h2]; rfl
theorem allB_neg_of {ps : List PartV} {k : Nat} (h : k < ps.length) (h1 : ps[k].req.any negA = true ∨ ps[k].lim.any negA = true) : (allB ps).any negA = true := by
  have hs : (allB (ps.take (k + 1))).any negA = true := by
    rw [allB_take h, List.any_append, List.any_append, any_neg_pre, any_neg_pre]
    rcases h1 with h | h <;> rw [h] <;> simp
  have ha : allB ps = allB (ps.take (k + 1)) ++ allB (ps.drop (k + 1)) := by
    unfold allB
    rw [← List.flatMap_append, List.take_append_drop]
  rw [ha, List.any_append, hs]; rfl
theorem pos_of_neg {L : List Amt} (h : L.any negA = false) : ∀ a ∈ L, 0 ≤ a.val := fun a ha => by
  have := List.any_eq_false.1 h a ha
  simpa [negA] using this
/-- the whole answer out of the rows -/
theorem uses_of_rows {ps : List PartV} {T : List (Key × Int)} (hn : (allB ps).any negA = false) (hT : T = rowsR [(countK, 1000)] (allA ps)) (h : T.any (fun p => decide (p.2 > 9223372036854775807)) = false) : usesV ps = (insR [] T, 0) := by
  rw [← refV_eq]
  unfold refV
  rw [hn, ← hT, h]; rfl
theorem uses_over_rows {ps : List PartV} {T : List (Key × Int)} (hn : (allB ps).any negA = false) (hT : T = rowsR [(countK, 1000)] (allA ps)) (h : T.any (fun p => decide (p.2 > 9223372036854775807)) = true) : usesV ps = ([], 7) := by
  rw [← refV_eq]
  unfold refV
  rw [hn, ← hT, h]; rfl
theorem insR_take {T : List (Key × Int)} {i : Nat} (h : i < T.length) : insR [] (T.take (i + 1)) = addK T[i].1 T[i].2 (insR [] (T.take i)) := by
  rw [List.take_succ_eq_append_getElem h]
  unfold insR
  rw [List.foldl_append]; rfl
/-- two neighbours change their places -/
theorem shift_set {S : List Amt} {j : Nat} {a : Amt} (hj : j < S.length) : ((S.take (j + 1) ++ a :: S.drop (j + 1)).set (j + 1) S[j]).set j a = S.take j ++ a :: S.drop j := by
  have h1 : S.take (j + 1) = S.take j ++ [S[j]] := List.take_succ_eq_append_getElem hj
  have h2 : S.drop j = S[j] :: S.drop (j + 1) := List.drop_eq_getElem_cons hj
  have hl : (S.take j).length = j := by rw [List.length_take]; omega
  rw [h1, h2, List.append_assoc]
  rw [List.set_append_right _ _ (by rw [hl]; omega), List.set_append_right _ _ (by rw [hl]; exact Nat.le_refl _), hl]
  have e1 : j + 1 - j = 1 := by omega
  have e2 : j - j = 0 := by omega
  rw [e1, e2]
  rfl
theorem own_put {base g n c i : Nat} {w : World} {M : List Amt} (h : Own kAmt 64 base (fun _ => False) w (.slice (some ⟨g, 0, none⟩) n c) M) (hi : i < M.length) (y : Amt) :
    Own kAmt 64 base (fun _ => False) ((w.setCell ⟨g, i * 2, none⟩ (.string y.name)).setCell ⟨g, i * 2 + 1, none⟩ (.int .i64 y.val)) (.slice (some ⟨g, 0, none⟩) n c) (M.set i y) := by
  have h1 := Own.setEnc (f := Amt.cells) (n := 2) h i hi 0 (by omega) (.string y.name) ⟨y.name, M[i].val⟩ rfl
  have h2 := Own.setEnc (f := Amt.cells) (n := 2) h1 i (by simpa using hi) 1 (by omega) (.int .i64 y.val) y (by rw [List.getElem_set_self]; rfl)
  rwa [List.set_set] at h2
/-- the amount's place has been found -/
theorem place_found {S : List Amt} {j : Nat} {a : Amt} (hasc : AscK (S.map kvOf)) (hl : ∀ (h : 0 < j) (h2 : j - 1 < S.length), S[j - 1].name.data.toList < a.name.data.toList) (hr : ∀ p ∈ S.drop j, a.name.data.toList < p.name.data.toList) (hj : j ≤ S.length) :
    addK a.name.data.toList a.val (S.map kvOf) = (S.take j ++ a :: S.drop j).map kvOf := by
  have hd : S.map kvOf = (S.take j).map kvOf ++ (S.drop j).map kvOf := by rw [← List.map_append, List.take_append_drop]
  rw [hd, addK_at]
  · rw [List.map_append, List.map_cons]; rfl
  · intro p hp
    obtain ⟨x, hx, rfl⟩ := List.mem_map.1 hp
    obtain ⟨i, hi, rfl⟩ := List.getElem_of_mem hx
    rw [List.length_take] at hi
    rw [List.getElem_take]
    have h0 := hl (by omega) (by omega)
    by_cases e : i = j - 1
    · subst e; exact h0
    · have hpw := List.pairwise_iff_getElem.1 hasc i (j - 1) (by rw [List.length_map]; omega) (by rw [List.length_map]; omega) (by omega)
      rw [List.getElem_map, List.getElem_map] at hpw
      exact List.lt_trans hpw h0
  · intro p hp
    obtain ⟨x, hx, rfl⟩ := List.mem_map.1 hp
    exact hr x hx
/-- an amount's cells in a row of the call's own -/
structure OwnCell (w : World) (g i : Nat) (y : Amt) : Prop where
  c0 : w.cell? ⟨g, i * 2, none⟩ = some (.string y.name)
  c1 : w.cell? ⟨g, i * 2 + 1, none⟩ = some (.int .i64 y.val)
  fz : ∀ j, w.frozen? ⟨g, j, none⟩ = false
theorem own_cell {base g n c : Nat} {w : World} {M : List Amt} (h : Own kAmt 64 base (fun _ => False) w (.slice (some ⟨g, 0, none⟩) n c) M) (i : Nat) (hi : i < M.length) : OwnCell w g i M[i] := by
  obtain ⟨a1, ha1, -, l0, l1⟩ := amt_at (own_rows h) i hi
  cases ha1
  rw [add_new] at l0 l1
  obtain ⟨g', cur, hg', hb, hblk⟩ := own_blk h (fun e => by rw [e] at hi; simp at hi)
  cases hg'
  exact ⟨l0, l1, fun j => frozen_of_row w g j cur 64 hblk⟩
theorem own_name {base g n c i : Nat} {w : World} {M : List Amt} (h : Own kAmt 64 base (fun _ => False) w (.slice (some ⟨g, 0, none⟩) n c) M) (hi : i < M.length) (s : ByteArray) : OwnCell (w.setCell ⟨g, i * 2, none⟩ (.string s)) g i ⟨s, M[i].val⟩ := by
  have h1 := Own.setEnc (f := Amt.cells) (n := 2) h i hi 0 (by omega) (.string s) ⟨s, M[i].val⟩ rfl
  have := own_cell (M := M.set i ⟨s, M[i].val⟩) h1 i (by simpa using hi)
  rwa [List.getElem_set_self] at this
theorem take_drop_get {S : List Amt} {j : Nat} {a : Amt} (hj : j < S.length) (h : j < (S.take (j + 1) ++ a :: S.drop (j + 1)).length) : (S.take (j + 1) ++ a :: S.drop (j + 1))[j] = S[j] := by
  rw [List.getElem_append_left (by rw [List.length_take]; omega), List.getElem_take]
theorem take_drop_get2 {S : List Amt} {j : Nat} {a : Amt} (hj : j < S.length) (h : j + 1 < (S.take (j + 1) ++ a :: S.drop (j + 1)).length) : (S.take (j + 1) ++ a :: S.drop (j + 1))[j + 1] = a := by
  rw [List.getElem_append_right (by rw [List.length_take]; omega)]
  simp [List.length_take, Nat.min_eq_left (show j + 1 ≤ S.length by omega)]
theorem take_drop_len {S : List Amt} {j : Nat} {a : Amt} (hj : j ≤ S.length) : (S.take j ++ a :: S.drop j).length = S.length + 1 := by
  rw [List.length_append, List.length_cons, List.length_take, List.length_drop]; omega
theorem ins_asc (T : List (Key × Int)) : AscK (insR [] T) := asc_ins T [] (by simp [AscK])
end Go.Proofs.YtdchffghgajbfaaDoor
