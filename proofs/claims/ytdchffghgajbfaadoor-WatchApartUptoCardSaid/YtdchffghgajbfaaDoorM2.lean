/- The law's sameTexts; the document's text, placed. -/
import Derived.Test.YtdchffghgajbfaaDoorM1
import Derived.Sort.Walk0
namespace Go.Proofs.YtdchffghgajbfaaDoor
open Go.RowKit

set_option maxRecDepth 100000 in
theorem sameTexts_any (A B : Option Addr) (n m c d : Nat) (P Q : Nat → Prop) (xs ys : List ByteArray) (w : World) (hx : Row Kn.str P w A xs) (hy : Row Kn.str Q w B ys) (hn : xs.length = n) (hm : ys.length = m) (hlx : n ≤ 9223372036854775807) :
    Calls Tryd.prog 48 #[.slice A n c, .slice B m d] w fun e w' => e = .returned (.bool (decide (xs = ys))) ∧ Below w.heap.size w w' := by
  subst hn; subst hm
  by_cases hl : xs.length = ys.length
  · have hl1 : ((xs.length : Int) != ys.length) = false := by simp [hl]
    have HL := Lib.hid hl
    clear hl
    go_enter Tryd.func48, Tryd.ntmps48
    go_wp2
    go_loopw [5] (fun i wr => ∃ k : Nat, i = .int .i64 k ∧ k ≤ xs.length ∧ Below w.heap.size w wr ∧ Hid (xs.take k = ys.take k)) (fun i _ => xs.length - (intOf i).toNat)
    case atStart => exact ⟨0, rfl, Nat.zero_le _, Below.refl _ _, by simp [Hid]⟩
    case round =>
      obtain ⟨k, rfl, hk, hbr, HT⟩ := hrel
      by_cases hlt : k < xs.length
      · have hlty : k < ys.length := by rw [← HL.out]; exact hlt
        obtain ⟨a, rfl, l0⟩ := row_str_at (hx.below hbr) k hlt
        obtain ⟨b, rfl, m0⟩ := row_str_at (hy.below hbr) k hlty
        have hx1 : (k : Int) < (xs.length : Int) := by omega
        have hy1 : (k : Int) < (ys.length : Int) := by omega
        have hk0 : (0 : Int) ≤ (k : Int) := by omega
        cases he : (xs[k].toList == ys[k].toList)
        · have hne := Lib.hid (show decide (xs = ys) = false by
            simp only [decide_eq_false_iff_not]
            intro e
            have : xs[k] = ys[k]'hlty := by simp [e]
            rw [this] at he; simp at he)
          go_wp2
          go_quiet (fail)
          go_wp2
          go_ret
          exact ⟨by rw [hne.out]; rfl, below_drewN hbr _⟩
        · have hkk : xs[k] = ys[k] := bytes_inj (by rw [← toList_eq, ← toList_eq]; simpa using he)
          have HT2 := Lib.hid (show xs.take (k + 1) = ys.take (k + 1) by rw [List.take_succ_eq_append_getElem hlt, List.take_succ_eq_append_getElem hlty, HT.out, hkk])
          clear hkk
          go_wp2
          go_quiet (fail)
          go_wp2
          go_roundw
          case rel => exact ⟨k + 1, by go_num, hlt, below_drewN hbr _, HT2⟩
          case measure => simp [intOf]; omega
      · have hres := Lib.hid (show decide (xs = ys) = true by
          have := HT.out
          rw [List.take_of_length_le (by omega), List.take_of_length_le (by have := HL.out; omega)] at this
          rw [this]; simp)
        have hge : ¬ ((k : Int) < (xs.length : Int)) := by omega
        go_wp2
        go_ret
        exact ⟨by rw [hres.out]; rfl, hbr⟩
  · have hl1 : ((xs.length : Int) != ys.length) = true := by simp; omega
    have hne := Lib.hid (show decide (xs = ys) = false by
      simp only [decide_eq_false_iff_not]
      rintro rfl; exact hl rfl)
    clear hl
    go_enter Tryd.func48, Tryd.ntmps48
    go_wp2
    go_ret
    exact ⟨by rw [hne.out]; rfl, Below.refl _ _⟩

theorem text_bytes (e : Ev) : ((e.path ++ ⟨#[32]⟩ : ByteArray) ++ e.name : ByteArray) = mkB (textE e) := bytes_inj (by rw [mkB_data]; simp [textE])
theorem rtext_any (x : Ev) (w : World) (hs : x.path.size + 1 + x.name.size ≤ 9223372036854775807) :
    Calls Tryd.prog 80 #[.agg #[.int .i64 x.ver, .int .i64 x.kind, .bool x.gone, .string x.path, .string x.name]] w fun e w' => e = .returned (.string (mkB (textE x))) ∧ Below w.heap.size w w' := by
  have hb0 : Below w.heap.size w (w.alloc (.cells #[.int .i64 x.ver, .int .i64 x.kind, .bool x.gone, .string x.path, .string x.name] 41)) := (Below.refl _ _).alloc (Nat.le_refl _) _
  have HB0 := Lib.hid hb0
  have HT := Lib.hid (text_bytes x)
  have h1 : x.path.size + 1 ≤ 9223372036854775807 := by omega
  clear hb0
  go_enter Tryd.func80, Tryd.ntmps80
  go_wp2
  go_ret
  exact ⟨by rw [← HT.out]; rfl, HB0.out⟩

theorem mkB_toList (x : Tx) : (mkB x).toList = x := by rw [toList_eq, mkB_data]
/-- what the loop of placed has behind k rounds -/
def PlInv (s : Tx) (l : List Tx) (k : Nat) (done : Bool) (out : List Tx) : Prop := out ++ (if done = true then l.drop k else placedL s (l.drop k)) = placedL s l
theorem PlInv.start (s : Tx) (l : List Tx) : PlInv s l 0 false [] := by simp [PlInv]
theorem PlInv.done_ {s : Tx} {l : List Tx} {k : Nat} {out : List Tx} (h : PlInv s l k true out) (hk : k < l.length) : PlInv s l (k + 1) true (out ++ [l[k]]) := by
  unfold PlInv at *
  rw [if_pos rfl] at h ⊢
  rw [← h, List.drop_eq_getElem_cons hk]; simp
theorem PlInv.same {s : Tx} {l : List Tx} {k : Nat} {out : List Tx} (h : PlInv s l k false out) (hk : k < l.length) (he : l[k] = s) : PlInv s l (k + 1) true (out ++ [l[k]]) := by
  unfold PlInv at *
  rw [if_neg (by simp), List.drop_eq_getElem_cons hk, placedL, if_pos he] at h
  rw [if_pos rfl, ← h]; simp
theorem PlInv.less {s : Tx} {l : List Tx} {k : Nat} {out : List Tx} (h : PlInv s l k false out) (hk : k < l.length) (he : l[k] ≠ s) (hl : s < l[k]) : PlInv s l (k + 1) true (out ++ [s] ++ [l[k]]) := by
  unfold PlInv at *
  rw [if_neg (by simp), List.drop_eq_getElem_cons hk, placedL, if_neg he, if_pos hl] at h
  rw [if_pos rfl, ← h]; simp
theorem PlInv.more {s : Tx} {l : List Tx} {k : Nat} {out : List Tx} (h : PlInv s l k false out) (hk : k < l.length) (he : l[k] ≠ s) (hl : ¬ s < l[k]) : PlInv s l (k + 1) false (out ++ [l[k]]) := by
  unfold PlInv at *
  rw [if_neg (by simp), List.drop_eq_getElem_cons hk, placedL, if_neg he, if_neg hl] at h
  rw [if_neg (by simp), ← h]; simp
theorem PlInv.end_ {s : Tx} {l : List Tx} {k : Nat} {done : Bool} {out : List Tx} (h : PlInv s l k done out) (hk : l.length ≤ k) : (if done = true then out else out ++ [s]) = placedL s l := by
  unfold PlInv at h
  rw [List.drop_eq_nil_of_le hk] at h
  cases done
  · rw [if_neg (by simp)] at h ⊢; exact h
  · rw [if_pos rfl] at h ⊢; simpa using h
def PlacedPost (s : Tx) (l : List Tx) (w : World) (e : Ending) (w' : World) : Prop :=
  ∃ A c, e = .returned (.slice A (placedL s l).length c) ∧ Own Kn.str 9 w.heap.size (fun _ => True) w' (.slice A (placedL s l).length c) ((placedL s l).map mkB) ∧ Below w.heap.size w w'
theorem PlacedPost.mk_ {s : Tx} {l T : List Tx} {w w' : World} {A : Option Addr} {c : Nat} (hT : T = placedL s l) (ho : Own Kn.str 9 w.heap.size (fun _ => True) w' (.slice A T.length c) (T.map mkB)) (hb : Below w.heap.size w w') : PlacedPost s l w (.returned (.slice A T.length c)) w' := by
  subst hT; exact ⟨A, c, rfl, ho, hb⟩

theorem app_txt {base : Nat} {w w' : World} {A A' : Option Addr} {n c c' : Nat} {T : List Tx} {s : Tx} (h : Appended Kn.str 9 base (fun _ => True) w w' (.slice A n c) (.slice A' (n + 1) c') (T.map mkB ++ [mkB s])) : Own Kn.str 9 base (fun _ => True) w' (.slice A' (n + 1) c') ((T ++ [s]).map mkB) := by
  rw [List.map_append]; exact h.own

set_option maxRecDepth 100000 in
set_option maxHeartbeats 1000000 in
theorem placed_any (A : Option Addr) (c : Nat) (P : Nat → Prop) (l : List Tx) (s : Tx) (w : World) (hr : Row Kn.str P w A (l.map mkB)) (hl : l.length ≤ 1099511627776) :
    Calls Tryd.prog 78 #[.slice A l.length c, .string (mkB s)] w (PlacedPost s l w) := by
  have hN : (l.map mkB).length = l.length := by simp
  have hNk0 : ∀ N : List ByteArray, l.map mkB = N → ∀ k (h : k < l.length) (h' : k < N.length), N[k] = mkB (l[k]) := by rintro _ rfl k h h'; simp
  obtain ⟨N, hNe⟩ : ∃ N, l.map mkB = N := ⟨_, rfl⟩
  obtain ⟨sB, hsB⟩ : ∃ sB, mkB s = sB := ⟨_, rfl⟩
  have hcmp : ∀ k (h : k < l.length), ((mkB l[k]).toList == sB.toList) = decide (l[k] = s) ∧ Op.bytesLess sB.toList (mkB l[k]).toList = decide (s < l[k]) := fun k h => by
    subst hsB
    rw [mkB_toList, mkB_toList]
    exact ⟨by rw [Bool.eq_iff_iff]; simp, bytesLess_eq _ _⟩
  have HNK := Lib.hid (hNk0 N hNe)
  have HCMP := Lib.hid hcmp
  have HS := Lib.hid hsB
  have hNl : N.length = l.length := by rw [← hNe]; exact hN
  have HNL := Lib.hid hNl
  have HNE := Lib.hid hNe
  rw [hNe] at hr
  rw [hsB]
  clear hN hNk0 hcmp hsB hNe hNl
  go_enter Tryd.func78, Tryd.ntmps78
  go_wp2
  go_loopw [5, 6, 7] (fun lv dv iv wr => ∃ (k n : Nat) (done : Bool) (B : Option Addr) (M : List ByteArray), iv = .int .i64 k ∧ dv = .bool done ∧ lv = .slice B M.length n ∧ k ≤ l.length ∧ M.length ≤ 2 * k ∧ Hid (Own Kn.str 9 w.heap.size (fun _ => True) wr (.slice B M.length n) M) ∧ Below w.heap.size w wr ∧ Hid (∃ T, M = T.map mkB ∧ PlInv s l k done T)) (fun _ _ iv _ => l.length - (intOf iv).toNat)
  case atStart => exact ⟨0, 0, false, none, [], rfl, rfl, rfl, Nat.zero_le _, Nat.zero_le _, Own.nil _ _ _ _ _, Below.refl _ _, ⟨[], rfl, PlInv.start s l⟩⟩
  case round =>
    obtain ⟨k, n, done, B, M, rfl, rfl, rfl, hk, hM, hown, hbr, HT⟩ := hrel
    obtain ⟨wo, rfl⟩ : ∃ wo, wo = wr := ⟨_, rfl⟩
    have hsz := hbr.size
    by_cases hlt : k < l.length
    · obtain ⟨a, rfl, hc⟩ := row_str_at (hr.below hbr) k (by rw [HNL.out]; exact hlt)
      obtain ⟨x, hx⟩ : ∃ x, N[k]'(by rw [HNL.out]; exact hlt) = x := ⟨_, rfl⟩
      have hxe : x = mkB (l[k]) := by rw [← hx]; exact HNK.out k hlt _
      rw [hx] at hc
      obtain ⟨h1, h2⟩ := HCMP.out k hlt
      rw [← hxe] at h1 h2
      have HX := Lib.hid hxe
      have HROW2 := Lib.hid (fun W (hb : Below w.heap.size w W) => show W.cell? (a.add k) = some (.string x) by
        obtain ⟨a', ha', hc'⟩ := row_str_at (hr.below hb) k (by rw [HNL.out]; exact hlt)
        cases ha'; rw [hx] at hc'; exact hc')
      clear hx hxe
      have h16 : (M.length + 1) * 16 ≤ 140737488355328 := by omega
      by_cases he : l[k] = s
      · have e1 : (x.toList == sB.toList) = true := by rw [h1]; simp [he]
        have HE := Lib.hid he
        clear h1 h2 he
        cases done
        · skip
          go_wp2_with (at_builtin; refine wpList_app_plain strElem Kn.plain_str w.heap.size rfl (.tmp 34) (.tmp 39) rfl (v := .slice B M.length n) (xs := M) (ys := [x]) rfl (hown.out.alloc _) rfl rfl (Row.newOnePlain (cs := [.string x]) Kn.plain_str rfl) (by exact h16) (by simp; omega) ?_; intro A7 c7 w7 happ; have HA7 := Lib.hid happ; clear happ)
          go_roundw
          case rel =>
            have hl1 : (M ++ [x]).length = M.length + 1 := by rw [List.length_append]; rfl
            refine ⟨k + 1, c7, true, A7, M ++ [x], by go_num, rfl, by rw [hl1], hlt, by rw [hl1]; omega, by have := HA7.out.own; rw [hl1]; exact this, HA7.out.below (hbr.alloc hsz _) (by simp; omega) (fun q hq => (hown.out.block_lt q hq).1), ?_⟩
            obtain ⟨T, hT1, hT2⟩ := HT.out
            exact ⟨T ++ [l[k]], by rw [List.map_append, ← hT1, HX.out]; rfl, hT2.same hlt HE.out⟩
          case measure => simp [intOf]; omega
        · skip
          go_wp2_with (at_builtin; refine wpList_app_plain strElem Kn.plain_str w.heap.size rfl (.tmp 34) (.tmp 39) rfl (v := .slice B M.length n) (xs := M) (ys := [x]) rfl (hown.out.alloc _) rfl rfl (Row.newOnePlain (cs := [.string x]) Kn.plain_str rfl) (by exact h16) (by simp; omega) ?_; intro A7 c7 w7 happ; have HA7 := Lib.hid happ; clear happ)
          go_roundw
          case rel =>
            have hl1 : (M ++ [x]).length = M.length + 1 := by rw [List.length_append]; rfl
            refine ⟨k + 1, c7, true, A7, M ++ [x], by go_num, rfl, by rw [hl1], hlt, by rw [hl1]; omega, by have := HA7.out.own; rw [hl1]; exact this, HA7.out.below (hbr.alloc hsz _) (by simp; omega) (fun q hq => (hown.out.block_lt q hq).1), ?_⟩
            obtain ⟨T, hT1, hT2⟩ := HT.out
            exact ⟨T ++ [l[k]], by rw [List.map_append, ← hT1, HX.out]; rfl, hT2.done_ hlt⟩
          case measure => simp [intOf]; omega
      · have e1 : (x.toList == sB.toList) = false := by rw [h1]; simp [he]
        have HE := Lib.hid he
        clear h1 he
        cases done
        · by_cases hls : s < l[k]
          · have e2 : Op.bytesLess sB.toList x.toList = true := by rw [h2]; simpa using hls
            have HLS := Lib.hid hls
            have h17 : (M.length + 1 + 1) * 16 ≤ 140737488355328 := by omega
            have U1 := True.intro
            clear h2 hls
            go_wp2_with (first
              | (at_builtin; have U2 := U1; clear U1; refine wpList_app_plain strElem Kn.plain_str w.heap.size rfl (.tmp 30) (.tmp 32) rfl (v := .slice B M.length n) (xs := M) (ys := [sB]) rfl (hown.out.alloc _) rfl rfl (Row.newOnePlain (cs := [.string sB]) Kn.plain_str rfl) (by exact h16) (by simp; omega) ?_; intro A6 c6 w6 happ
                 have HO6 := Lib.hid (show Own Kn.str 9 w.heap.size (fun _ => True) w6 (.slice A6 (M.length + 1) c6) (M ++ [sB]) from happ.own)
                 have HB6 := Lib.hid (happ.below (hbr.alloc hsz _) (by simp; omega) (fun q hq => (hown.out.block_lt q hq).1))
                 have hc6 := HROW2.out w6 HB6.out
                 clear happ)
              | (at_builtin; have U3 := U2; clear U2; refine wpList_app_plain strElem Kn.plain_str w.heap.size rfl (.tmp 34) (.tmp 39) rfl (v := .slice A6 (M.length + 1) c6) (xs := M ++ [sB]) (ys := [x]) rfl (HO6.out.alloc _) rfl rfl (Row.newOnePlain (cs := [.string x]) Kn.plain_str rfl) (by rw [List.length_append]; exact h17) (by have := HB6.out.size; simp; omega) ?_; intro A7 c7 w7 happ; have HA7 := Lib.hid happ; clear happ))
            go_roundw
            case rel =>
              have hl1 : (M ++ [sB] ++ [x]).length = M.length + 1 + 1 := by rw [List.length_append, List.length_append]; rfl
              refine ⟨k + 1, c7, true, A7, M ++ [sB] ++ [x], by go_num, rfl, by rw [hl1], hlt, by rw [hl1]; omega, by have := HA7.out.own; rw [hl1]; unfold Hid; simpa using this, HA7.out.below (HB6.out.alloc HB6.out.size _) (by have := HB6.out.size; simp; omega) (fun q hq => (HO6.out.block_lt q hq).1), ?_⟩
              obtain ⟨T, hT1, hT2⟩ := HT.out
              exact ⟨T ++ [s] ++ [l[k]], by rw [List.map_append, List.map_append, ← hT1, HX.out, ← HS.out]; rfl, hT2.less hlt HE.out HLS.out⟩
            case measure => simp [intOf]; omega
          · have e2 : Op.bytesLess sB.toList x.toList = false := by rw [h2]; simpa using hls
            have HLS := Lib.hid hls
            clear h2 hls
            go_wp2_with (at_builtin; refine wpList_app_plain strElem Kn.plain_str w.heap.size rfl (.tmp 34) (.tmp 39) rfl (v := .slice B M.length n) (xs := M) (ys := [x]) rfl (hown.out.alloc _) rfl rfl (Row.newOnePlain (cs := [.string x]) Kn.plain_str rfl) (by exact h16) (by simp; omega) ?_; intro A7 c7 w7 happ; have HA7 := Lib.hid happ; clear happ)
            go_roundw
            case rel =>
              have hl1 : (M ++ [x]).length = M.length + 1 := by rw [List.length_append]; rfl
              refine ⟨k + 1, c7, false, A7, M ++ [x], by go_num, rfl, by rw [hl1], hlt, by rw [hl1]; omega, by have := HA7.out.own; rw [hl1]; exact this, HA7.out.below (hbr.alloc hsz _) (by simp; omega) (fun q hq => (hown.out.block_lt q hq).1), ?_⟩
              obtain ⟨T, hT1, hT2⟩ := HT.out
              exact ⟨T ++ [l[k]], by rw [List.map_append, ← hT1, HX.out]; rfl, hT2.more hlt HE.out HLS.out⟩
            case measure => simp [intOf]; omega
        · clear h2
          go_wp2_with (at_builtin; refine wpList_app_plain strElem Kn.plain_str w.heap.size rfl (.tmp 34) (.tmp 39) rfl (v := .slice B M.length n) (xs := M) (ys := [x]) rfl (hown.out.alloc _) rfl rfl (Row.newOnePlain (cs := [.string x]) Kn.plain_str rfl) (by exact h16) (by simp; omega) ?_; intro A7 c7 w7 happ; have HA7 := Lib.hid happ; clear happ)
          go_roundw
          case rel =>
            have hl1 : (M ++ [x]).length = M.length + 1 := by rw [List.length_append]; rfl
            refine ⟨k + 1, c7, true, A7, M ++ [x], by go_num, rfl, by rw [hl1], hlt, by rw [hl1]; omega, by have := HA7.out.own; rw [hl1]; exact this, HA7.out.below (hbr.alloc hsz _) (by simp; omega) (fun q hq => (hown.out.block_lt q hq).1), ?_⟩
            obtain ⟨T, hT1, hT2⟩ := HT.out
            exact ⟨T ++ [l[k]], by rw [List.map_append, ← hT1, HX.out]; rfl, hT2.done_ hlt⟩
          case measure => simp [intOf]; omega
    · have hge : ¬ ((k : Int) < (l.length : Int)) := by omega
      obtain ⟨T, hT1, hT2⟩ := HT.out
      have hend := hT2.end_ (by omega)
      have h16 : (M.length + 1) * 16 ≤ 140737488355328 := by omega
      cases done
      · have hml : (T ++ [s]).length = M.length + 1 := by rw [hT1]; simp
        have hmm : (T ++ [s]).map mkB = M ++ [sB] := by rw [List.map_append, ← hT1, ← HS.out]; rfl
        have hpl : T ++ [s] = placedL s l := by simpa using hend
        have hfin := Lib.hid (fun W A7 c7 (ho : Own Kn.str 9 w.heap.size (fun _ => True) W (.slice A7 (M.length + 1) c7) (M ++ [sB])) (hb : Below w.heap.size w W) => PlacedPost.mk_ hpl (by rw [hml, hmm]; exact ho) hb)
        have HML := Lib.hid hml
        clear hend hT1 hT2 hml hmm hpl
        go_wp2_with (at_builtin; refine wpList_app_plain strElem Kn.plain_str w.heap.size rfl (.tmp 43) (.tmp 45) rfl (v := .slice B M.length n) (xs := M) (ys := [sB]) rfl (hown.out.alloc _) rfl rfl (Row.newOnePlain (cs := [.string sB]) Kn.plain_str rfl) (by exact h16) (by simp; omega) ?_; intro A7 c7 w7 happ; have HA7 := Lib.hid happ; clear happ)
        go_ret
        have := hfin.out _ A7 c7 HA7.out.own (HA7.out.below (hbr.alloc hsz _) (by simp; omega) (fun q hq => (hown.out.block_lt q hq).1))
        rw [HML.out] at this
        exact this
      · have hml : T.length = M.length := by rw [hT1]; simp
        have hpl : T = placedL s l := by simpa using hend
        have hfin := Lib.hid (PlacedPost.mk_ hpl (by rw [hml, ← hT1]; exact hown.out) hbr)
        have HML := Lib.hid hml
        clear hend hT1 hT2 hml hpl
        go_wp2
        go_ret
        have := hfin.out
        rw [HML.out] at this
        exact this
end Go.Proofs.YtdchffghgajbfaaDoor
