/- WatchApart: the walk. -/
import Derived.Test.YtdchffghgajbfaaDoorN13
import Derived.Test.YtdchffghgajbfaaDoorN11
namespace Go.Proofs.YtdchffghgajbfaaDoor
open Go.RowKit

theorem right_small0 {e : Ev} (h : rightE e = true) : e.path.size ≤ 64 ∧ e.name.size ≤ 32 := by
  have hp := isPath_size (rightE_path h)
  refine ⟨hp, ?_⟩
  unfold rightE at h
  simp only [Bool.and_eq_true] at h
  have h2 := h.2
  split at h2
  · have : e.name.data.toList = [] := by simpa using h2
    rw [← data_len, this]; simp
  · unfold nameL at h2
    simp only [Bool.and_eq_true, decide_eq_true_eq] at h2
    have := h2.1.1.1.2
    rw [data_len] at this; exact this
theorem right_small {e : Ev} (h : rightE e = true) : e.path.size ≤ 1073741824 ∧ e.name.size ≤ 1073741824 := by
  have := right_small0 h
  omega
abbrev markS : ByteArray := ⟨#[109, 97, 114, 107]⟩
theorem BJw {a w w' : World} (h : Below w.heap.size w w') (k : Below a.heap.size a w) : Below a.heap.size a w' := k.trans (h.mono k.size)
theorem own_rowTrue {α : Type} {d : Kn α} {e base : Nat} {w : World} {A : Option Addr} {n c : Nat} {xs : List α} {P : Nat → Prop} (h : Own d e base P w (.slice A n c) xs) : Row d (fun _ => True) w A xs ∧ xs.length ≤ c := ⟨h.row'.2.1, h.row'.2.2.1⟩
theorem own_blkE {α : Type} {d : Kn α} {e base : Nat} {P : Nat → Prop} {w : World} {A : Option Addr} {n c : Nat} {xs : List α} (h : Own d e base P w (.slice A n c) xs) (hx : xs ≠ []) : ∃ g cur, A = some ⟨g, 0, none⟩ ∧ base ≤ g ∧ w.heap[g]? = some (.cells cur e (0, 0)) := by
  obtain ⟨cells, ho, _⟩ := h
  rcases ho.2 with ⟨hv, h0⟩ | ⟨g, cap, cur, hv, hg, hb, _⟩
  · exact absurd (List.length_eq_zero_iff.1 h0) hx
  · cases hv; exact ⟨g, cur, rfl, hg, hb⟩
theorem low_at {F : Nat → Prop} (g : Nat) (h : HubS) (low : Int) (hl : h.low = low) (w : World) (k : IsHub F w g h) : Calls Tryd.prog 19 #[.pointer (some ⟨g, 0, none⟩)] w fun e w' => e = .returned (.int .i64 low) ∧ w = w' := by
  subst hl
  exact low_any g h w k
theorem since_at {F : Nat → Prop} (g : Nat) (h : HubS) (v most : Int) (path : ByteArray) (L : List Ev) (n2 n3 : Int) (n : Nat) (hn : L.length = n) (hres : Hid (hubSince h v path most = (L, n2, n3))) (w : World) (hm : Ml w) (k : IsHub F w g h) :
    Calls Tryd.prog 22 #[.pointer (some ⟨g, 0, none⟩), .int .i64 v, .string path, .int .i64 most] w fun e w' => ∃ A c, e = .returned (.tuple #[.slice A n c, .int .i64 n2, .int .i64 n3]) ∧ Own kEvent 41 w.heap.size (fun _ => False) w' (.slice A n c) L ∧ Below w.heap.size w w' := by
  subst hn
  have := since_any g h v most path w hm k
  rw [hres.out] at this
  exact this.mono fun e w' ⟨A, c, h1, h2, h3⟩ => ⟨A, c, h1, h2.plain kEvent_plain, h3⟩
theorem replay_at (kind : Int) (path : ByteArray) (A B : Option Addr) (n1 c n2 c2 : Nat) (P1 P2 : Nat → Prop) (names : List Tx) (l : List Ev) (T : List ByteArray) (q : Nat) (hT : Hid ((replayL kind path names l).map mkB = T)) (hq : T.length = q) (h1 : names.length = n1) (h2 : l.length = n2) (w : World) (hm : Ml w) (hr1 : Row Kn.str P1 w A (names.map mkB)) (hr2 : Row kEvent P2 w B l)
    (hn : names.length ≤ 1073741824) (hl : l.length ≤ 1073741824) (hsn : ∀ t ∈ names, t.length ≤ 1073741824) (hse : ∀ e ∈ l, e.path.size ≤ 1073741824 ∧ e.name.size ≤ 1073741824) :
    Calls Tryd.prog 47 #[.int .i64 kind, .string path, .slice A n1 c, .slice B n2 c2] w fun e w' => ∃ A c, e = .returned (.slice A q c) ∧ Own Kn.str 9 w.heap.size (fun _ => False) w' (.slice A q c) T ∧ Below w.heap.size w w' := by
  subst h1
  subst h2
  have hl2 : (replayL kind path names l).length = q := by rw [← hq, ← hT.out, List.length_map]
  refine (replay_any kind path A B c c2 P1 P2 names l w hm hr1 hr2 hn hl hsn hse).mono fun e w' ⟨A, c, h1, h2, h3⟩ => ?_
  rw [hl2] at h1 h2
  rw [hT.out] at h2
  exact ⟨A, c, h1, h2.plain Kn.plain_str, h3⟩
theorem own_rowsW {α : Type} {d : Kn α} {e base : Nat} {w : World} {A : Option Addr} {n c : Nat} {xs : List α} (h : Own d e base (fun _ => False) w (.slice A n c) xs) : Row d (fun k => base ≤ k ∧ k < w.heap.size) w A xs := by
  obtain ⟨A', c', hv, _, _, h3⟩ := h.row
  cases hv
  exact h3.mono fun k hk => hk.elim (fun f => f.elim) (fun e => h.block_lt k e)
theorem behind_n (A : Option Addr) (n c : Nat) (xs : List Ev) (hn : xs.length = n) (P : Nat → Prop) (w : World) (he : Env w) (hr : Row kEvent P w A xs) (hb : (xs.length + 1) * 56 ≤ 140737488355328) :
    Calls Tryd.prog 46 #[.slice A n c] w fun e w' => ∃ A c, e = .returned (.slice A (n + 1) c) ∧ Row kEvent (fun k => w.heap.size ≤ k ∧ k < w'.heap.size) w' A (xs ++ [markE]) ∧ Below w.heap.size w w' := by
  subst hn
  exact (behind_at A c P xs w he hr hb).mono fun e w' ⟨A, c, h1, h2, h3⟩ => ⟨A, c, h1, own_rowsW (h2.plain kEvent_plain), h3⟩
theorem sameT (A B : Option Addr) (n c d : Nat) (P Q : Nat → Prop) (xs : List ByteArray) (w : World) (hx : Row Kn.str P w A xs) (hy : Row Kn.str Q w B xs) (hn : xs.length = n) (hlx : n ≤ 9223372036854775807) :
    Calls Tryd.prog 48 #[.slice A n c, .slice B n d] w fun e w' => e = .returned (.bool true) ∧ Below w.heap.size w w' := by
  refine (sameTexts_any A B n n c d P Q xs xs w hx hy hn hn hlx).mono fun e w' ⟨h1, h2⟩ => ⟨?_, h2⟩
  rw [h1, decide_eq_true rfl]
theorem marked {w : World} {a : Addr} (h : EvAt w a markE) : w.cell? a = some (.int .i64 77) ∧ w.cell? ⟨a.block, a.off + 1, none⟩ = some (.int .i64 0) ∧ w.cell? ⟨a.block, a.off + 2, none⟩ = some (.bool false) ∧ w.cell? ⟨a.block, a.off + 3, none⟩ = some (.string ⟨#[]⟩) ∧ w.cell? ⟨a.block, a.off + 4, none⟩ = some (.string ⟨#[109, 97, 114, 107]⟩) := ⟨h.c0, h.c1, h.c2, h.c3, h.c4⟩
set_option maxRecDepth 100000 in
set_option maxHeartbeats 4000000 in
theorem watchApart_walk (A : Option Addr) (c : Nat) (P : Nat → Prop) (xs : List (List Ev)) (A2 : Option Addr) (c2 : Nat) (P2 : Nat → Prop) (names : List Tx) (w : World) (he : Env w) (hr : Row (Kn.slice kEvent) P w A xs) (hxl : xs.length ≤ 9223372036854775807)
    (hr2 : Row Kn.str P2 w A2 (names.map mkB)) (hn : names.length ≤ 1073741824) (hsn : ∀ t ∈ names, t.length ≤ 1073741824) :
    Calls Tryd.prog 13 #[.slice A xs.length c, .slice A2 names.length c2] w fun e w' => e = .returned (.bool true) ∧ Below w.heap.size w w' := by
  go_enter Tryd.func13, Tryd.ntmps13
  go_upto_region 6 with (first
    | (go_at_call 14; refine (known_any w he.ml).mono ?_; rintro e w1 ⟨rfl, hb1⟩; have HB1 := Lib.hid hb1; clear hb1)
    | (go_at_call 18; refine (pushed_walk 0 A c P xs w1 (he.below HB1.out) (hr.below HB1.out) (by omega) hxl).mono ?_; rintro e w2 (⟨rfl, hb2⟩ | ⟨pb, gh, ps, d, F, vL, rfl, hok⟩)))
  · go_ret
    exact ⟨rfl, HB1.out.trans (hb2.mono HB1.out.size)⟩
  · obtain ⟨hI, hH, hfew, hsmall, hfar, hright⟩ := hok
    have hw2 := HB1.out.trans (hI.bel.mono HB1.out.size)
    have he2 := he.below hw2
    obtain ⟨first, hfirst⟩ : ∃ first, max (0 : Int) 0 = first := ⟨_, rfl⟩
    rw [hfirst] at hI hH hfar
    obtain ⟨H, hHe⟩ : ∃ H, hubOf first ps d = H := ⟨_, rfl⟩
    have hk := hI.hub
    rw [hHe] at hk
    obtain ⟨low, hlow⟩ : ∃ low, H.low = low := ⟨_, rfl⟩
    obtain ⟨res, hres⟩ : ∃ res, hubSince H low ⟨#[47]⟩ 100 = res := ⟨_, rfl⟩
    obtain ⟨L, n2, n3⟩ := res
    have hsub := hubSince_sub H low ⟨#[47]⟩ 100
    rw [hres] at hsub
    obtain ⟨c0, c1, cc2, fz⟩ := pdAt hI.blk
    have hvs : H.vs = ps.drop d := by rw [← hHe]; rfl
    have hlL : L.length ≤ 51200 := by
      have h1 := hsub.1
      rw [hvs] at h1
      have h2 := flatten_drop_le d ps
      have h3 := flatten_len hsmall
      have h4 : L.length ≤ (ps.drop d).flatten.length := h1
      omega
    have HSE := Lib.hid (show ∀ e ∈ L, e.path.size ≤ 1073741824 ∧ e.name.size ≤ 1073741824 from fun e hm => by
      obtain ⟨l, hl, hel⟩ := hsub.2 e hm
      rw [hvs] at hl
      exact right_small (hright l (List.mem_of_mem_drop hl) e hel))
    obtain ⟨n, hnL⟩ : ∃ n, L.length = n := ⟨_, rfl⟩
    have HNL := Lib.hid hnL
    rw [hnL] at hlL
    have HRES := Lib.hid hres
    have HK := Lib.hid hk
    have HE2 := Lib.hid he2
    have HW2 := Lib.hid hw2
    have HLOW := Lib.hid hlow
    have C0 := Lib.hid (show ∀ w', Below w2.heap.size w2 w' → w'.cell? ⟨pb, 0, none⟩ = some (.pointer (some ⟨gh, 0, none⟩)) from fun w' hb => (hb.cell (p := ⟨pb, 0, none⟩) (World.block_lt_of_cell? _ _ c0)).trans c0)
    have T1 := True.intro
    clear hI hH hfew hsmall hfar hright hw2 he2 hfirst hHe hk hlow hres hsub c1 cc2 fz hvs hnL
    go_upto_region 7 with (go_at_call 19; refine (low_at gh H low HLOW.out _ HK.out).mono ?_; rintro e w3 ⟨rfl, rfl⟩)
    go_upto_region 9 with (first
      | (go_at_call 22; have T2 := T1; clear T1; refine (since_at gh H low 100 ⟨#[47]⟩ L n2 n3 n HNL.out HRES _ HE2.out.ml HK.out).mono ?_; rintro e w3 ⟨A3, c3, rfl, ho3, hb3⟩; have HO3 := Lib.hid ho3; have HB3 := Lib.hid hb3; clear c0; have c0 := C0.out _ hb3; clear ho3 hb3)
      | (go_at_call 22; have T3 := T2; clear T2; refine (since_at gh H low 100 ⟨#[47]⟩ L n2 n3 n HNL.out HRES _ (HE2.out.below HB3.out).ml (HK.out.below HB3.out)).mono ?_; rintro e w4 ⟨A4, c4, rfl, ho4, hb4⟩; have HO4 := Lib.hid ho4; have HB34 := Lib.hid hb4; have HB4 := Lib.hid (HB3.out.trans (hb4.mono HB3.out.size)); clear ho4 hb4))
    obtain ⟨N, hNe⟩ : ∃ N, names.map mkB = N := ⟨_, rfl⟩
    have hNl : N.length = names.length := by rw [← hNe]; simp
    have HNN := Lib.hid hNl
    have HNE := Lib.hid hNe
    have HW4 := Lib.hid (BJw HB4.out HW2.out)
    have HR2 := Lib.hid (show Row Kn.str P2 w4 A2 N by rw [← hNe]; exact hr2.below HW4.out)
    have HSN := Lib.hid hsn
    have h16 : (names.length + 1) * 16 ≤ 140737488355328 := by omega
    have HR0 := Lib.hid (show Row Kn.str P2 w A2 N by rw [← hNe]; exact hr2)
    clear hNe hr2 hsn
    go_upto_region 12 with (first
      | (at_builtin; have T4 := T3; clear T3; refine wpList_app_plain strElem Kn.plain_str w4.heap.size rfl (.tmp 68) (.tmp 69) rfl (v := .slice none 0 0) (R := fun _ => False) rfl (Own.nil Kn.str 9 w4.heap.size _ w4) rfl hNl.symm HR2.out (by rw [hNl, List.length_nil]; omega) (Nat.le_refl _) ?_; intro N1 cn w5 happ; have HN1 := Lib.hid (show Own Kn.str 9 w4.heap.size (fun _ => False) w5 (.slice N1 names.length cn) N by have := happ.own; simpa [hNl] using this); have HB45 := Lib.hid (happ.below (Below.refl w4.heap.size w4) (Nat.le_refl _) (fun k hk => (ownBlock_none hk).elim)); clear happ)
      | (at_builtin; have T5 := T4; clear T4; refine wpList_app_plain strElem Kn.plain_str w4.heap.size rfl (.tmp 71) (.tmp 72) rfl (v := .slice N1 names.length cn) (xs := N) (ys := [markS]) rfl (HN1.out.alloc _) rfl rfl (Row.newOnePlain (cs := [.string (markS)]) Kn.plain_str rfl) (by rw [hNl]; exact h16) (by have := HB45.out.size; simp; omega) ?_; intro N2 cm w6 happ; have HN2 := Lib.hid (show Own Kn.str 9 w4.heap.size (fun _ => False) w6 (.slice N2 (names.length + 1) cm) (N ++ [markS]) by have := happ.own; simpa [hNl] using this); have HB46 := Lib.hid (happ.below (HB45.out.alloc HB45.out.size _) (by have := HB45.out.size; simp; omega) (fun q hq => (HN1.out.block_lt q hq).1)); clear happ))
    clear HN1 HB45 HR2
    have hcm : names.length ≤ cm := by have := (own_rowTrue HN2.out).2; rw [List.length_append, HNN.out] at this; omega
    have hcutN := run_cut_to strElem N2 (names.length + 1) cm names.length hcm
    have HRN := Lib.hid (show Row Kn.str (fun _ => True) w6 N2 (names.map mkB) by
      have := (own_rowTrue HN2.out).1.take N.length
      rw [List.take_left] at this
      rw [HNE.out]; exact this)
    have HB26 := Lib.hid (BJw HB46.out HB4.out)
    have HRB := Lib.hid ((own_rowTrue HO4.out).1.below HB46.out)
    obtain ⟨T, hT⟩ : ∃ T, (replayL 3 ⟨#[47]⟩ names L).map mkB = T := ⟨_, rfl⟩
    obtain ⟨q, hqT⟩ : ∃ q, T.length = q := ⟨_, rfl⟩
    have HT := Lib.hid hT
    have HQ := Lib.hid hqT
    have hq2 : q ≤ 2147483648 := by
      have := replayL_len 3 ⟨#[47]⟩ names L L.length (Nat.le_refl _)
      rw [List.take_length, HNL.out] at this
      rw [← hqT, ← hT, List.length_map]
      omega
    have hlL2 : L.length ≤ 1073741824 := by rw [HNL.out]; omega
    clear hT hqT
    go_upto_region 14 with (first
      | (go_at_call 47; have T6 := T5; clear T5; refine (replay_at 3 ⟨#[47]⟩ N2 A4 names.length cm n c4 _ _ names L T q HT HQ.out rfl HNL.out _ (HE2.out.below HB26.out).ml HRN.out HRB.out hn hlL2 HSN.out HSE.out).mono ?_; rintro e w7 ⟨A7, c7, rfl, ho7, hb7⟩; have HO7 := Lib.hid ho7; have HB67 := Lib.hid hb7; have HB27 := Lib.hid (BJw hb7 HB26.out); clear ho7 hb7)
      | (go_at_call 47; have T7 := T6; clear T6; refine (replay_at 3 ⟨#[47]⟩ N2 A4 names.length cm n c4 _ _ names L T q HT HQ.out rfl HNL.out _ (HE2.out.below HB27.out).ml (HRN.out.below HB67.out) (HRB.out.below HB67.out) hn hlL2 HSN.out HSE.out).mono ?_; rintro e w8 ⟨A8, c8, rfl, ho8, hb8⟩; have HO8 := Lib.hid ho8; have HB78 := Lib.hid hb8; have HB28 := Lib.hid (BJw hb8 HB27.out); clear ho8 hb8))
    have HLb := Lib.hid (show (L.length + 1) * 56 ≤ 140737488355328 by rw [HNL.out]; omega)
    have HRB8 := Lib.hid (HRB.out.below (BJw HB78.out HB67.out))
    go_upto_region 15 with (go_at_call 46; refine (behind_n A4 n c4 L HNL.out _ _ (HE2.out.below HB28.out) HRB8.out HLb.out).mono ?_; rintro e w9 ⟨A9, c9, rfl, hr9, hb9⟩; have HR9 := Lib.hid hr9; have HB89 := Lib.hid hb9; have HB29 := Lib.hid (BJw hb9 HB28.out); clear hr9 hb9)
    have HTQ := Lib.hid (show T.length * 16 ≤ 140737488355328 by rw [HQ.out]; omega)
    go_upto_region 17 with (at_builtin; refine wpList_app_plain strElem Kn.plain_str w9.heap.size rfl (.tmp 88) (.tmp 89) rfl (v := .slice none 0 0) (R := fun _ => False) rfl (Own.nil Kn.str 9 w9.heap.size _ w9) rfl HQ.out.symm ((own_rowTrue HO8.out).1.below HB89.out) (by rw [List.length_nil, Nat.zero_add]; exact HTQ.out) (Nat.le_refl _) ?_; intro A10 c10 w10 happ; rw [List.length_nil, Nat.zero_add, HQ.out] at happ ⊢; rw [List.nil_append] at happ; have HR10 := Lib.hid (own_rowsW happ.own); have HB910 := Lib.hid (happ.below (Below.refl w9.heap.size w9) (Nat.le_refl _) (fun k hk => (ownBlock_none hk).elim)); clear happ)
    have HB210 := Lib.hid (BJw HB910.out HB29.out)
    have HB810 := Lib.hid (BJw HB910.out HB89.out)
    have HB710 := Lib.hid (BJw HB810.out HB78.out)
    have HB610 := Lib.hid (BJw HB710.out HB67.out)
    have HB410 := Lib.hid (BJw HB610.out HB46.out)
    have HB310 := Lib.hid (BJw HB410.out HB34.out)
    have hqq : q ≤ 9223372036854775807 := by omega
    have hnn9 : n ≤ 9223372036854775807 := by omega
    go_upto_region 21 with (first
      | (go_at_call 23; refine (same_at A3 A4 n c3 c4 _ _ L _ ((own_rowTrue HO3.out).1.below HB310.out) ((own_rowTrue HO4.out).1.below HB410.out) HNL.out hnn9).mono ?_; rintro e w11 ⟨rfl, hb11⟩; have HB11 := Lib.hid hb11; clear hb11)
      | (go_at_call 48; refine (sameT A7 A8 q c7 c8 _ _ T _ ((own_rowTrue HO7.out).1.below (BJw HB11.out HB710.out)) ((own_rowTrue HO8.out).1.below (BJw HB11.out HB810.out)) HQ.out hqq).mono ?_; rintro e w12 ⟨rfl, hb12⟩; have HB12 := Lib.hid (BJw hb12 HB11.out); clear hb12))
    have hBC : w3.heap.size ≤ w6.heap.size := by have := HB34.out.size; have := HB46.out.size; omega
    have HKW := Lib.hid (show KW w12 w2.heap.size w3.heap.size w6.heap.size w7.heap.size w12 (.slice A3 n c3) (.slice A7 q c7) L T from
      ⟨HO3.out.below (BJw HB12.out HB310.out), HO7.out.below (BJw HB12.out HB710.out), Turn.refl _ _, fun k hk => (HO3.out.block_lt k hk).2, fun k hk => (HO7.out.block_lt k hk).2⟩)
    have hgm : 0 < w2.heap.size := HE2.out.low.2
    have hge6 : w2.heap.size ≤ w6.heap.size := HB26.out.size
    have HMK := Lib.hid (show ∀ w', Turn (Wr2 w2.heap.size w3.heap.size w6.heap.size w7.heap.size) w12 w' → EvAt w' ⟨0, 0, none⟩ markE from fun w' ht =>
      HE2.out.mark.below ((BJw HB12.out HB210.out).trans (ht.below (B := w2.heap.size) (BJw HB12.out HB210.out).size (fun k hk => by rcases hk with hk | hk <;> omega))))
    go_wp2
    go_loopw [23] (fun iv wr => ∃ (k : Nat) (Ma : List Ev), iv = .int .i64 k ∧ k ≤ n ∧ Hid (KW w12 w2.heap.size w3.heap.size w6.heap.size w7.heap.size wr (.slice A3 n c3) (.slice A7 q c7) Ma T) ∧ Hid (∀ i (h : i < Ma.length), i < k → Ma[i] = markE)) (fun iv _ => n - (intOf iv).toNat)
    case atStart => exact ⟨0, L, rfl, Nat.zero_le _, HKW.out, fun i h h2 => absurd h2 (by omega)⟩
    case round =>
      obtain ⟨k, Ma, rfl, hkn, hks, hmk⟩ := hrel
      obtain ⟨wo, rfl⟩ : ∃ wo, wo = wr := ⟨_, rfl⟩
      have hml := hks.out.oa.row'.1
      have HML := Lib.hid hml
      clear hml
      by_cases hlt : k < n
      · have hlt1 : (k : Int) < (n : Int) := by omega
        have hkm : k < Ma.length := by rw [← HML.out]; exact hlt
        obtain ⟨g, cur, rfl, -, hblk⟩ := own_blkE hks.out.oa (fun e => by rw [e] at hkm; simp at hkm)
        obtain ⟨m0, m1, m2, m3, m4⟩ := HMK.out _ hks.out.turn
        have hfz : ∀ j, wo.frozen? ⟨g, j, none⟩ = false := fun j => frozen_of_row wo g j cur 41 hblk
        clear hblk
        obtain ⟨a', ha', -, r0, r1, r2, r3, r4⟩ := ev_at (own_rowTrue hks.out.oa).1 k hkm
        cases ha'
        rw [add_new] at r0 r1 r2 r3 r4
        have m0' : wo.cell? ⟨0, 0, none⟩ = some (.int .i64 77) := m0
        have m1' : wo.cell? ⟨0, 1, none⟩ = some (.int .i64 0) := m1
        have m2' : wo.cell? ⟨0, 2, none⟩ = some (.bool false) := m2
        have m3' : wo.cell? ⟨0, 3, none⟩ = some (.string ⟨#[]⟩) := m3
        have m4' : wo.cell? ⟨0, 4, none⟩ = some (.string ⟨#[109, 97, 114, 107]⟩) := m4
        clear m0 m1 m2 m3 m4
        go_wp2
        go_roundw
        case rel => exact ⟨k + 1, Ma.set k markE, by go_num, hlt, hks.out.mark hBC k hkm, marks_set hkm hmk.out⟩
        case measure => simp [intOf]; omega
      · have hge : ¬ ((k : Int) < (n : Int)) := by omega
        have HMA := Lib.hid (show ∀ i (h : i < Ma.length), Ma[i] = markE from fun i hi => hmk.out i hi (by have := HML.out; omega))
        have HK1 := Lib.hid hks.out
        clear hmk hks
        go_wp2
        go_loopw [24] (fun iv wr => ∃ (j : Nat) (Ta : List ByteArray), iv = .int .i64 j ∧ j ≤ q ∧ Hid (KW w12 w2.heap.size w3.heap.size w6.heap.size w7.heap.size wr (.slice A3 n c3) (.slice A7 q c7) Ma Ta) ∧ Hid (∀ i (h : i < Ta.length), i < j → Ta[i] = ⟨#[119]⟩)) (fun iv _ => q - (intOf iv).toNat)
        case atStart => exact ⟨0, T, rfl, Nat.zero_le _, HK1.out, fun i h h2 => absurd h2 (by omega)⟩
        case round =>
          obtain ⟨j, Ta, rfl, hjq, hks, htx⟩ := hrel
          obtain ⟨wp, rfl⟩ : ∃ wp, wp = wr := ⟨_, rfl⟩
          have htl := hks.out.orr.row'.1
          have HTL := Lib.hid htl
          clear htl
          by_cases hltj : j < q
          · have hlt2 : (j : Int) < (q : Int) := by omega
            have hjm : j < Ta.length := by rw [← HTL.out]; exact hltj
            obtain ⟨g, cur, rfl, -, hblk⟩ := own_blkE hks.out.orr (fun e => by rw [e] at hjm; simp at hjm)
            have hfz : ∀ j, wp.frozen? ⟨g, j, none⟩ = false := fun j => frozen_of_row wp g j cur 9 hblk
            clear hblk
            obtain ⟨a', ha', r0⟩ := row_str_at (own_rowTrue hks.out.orr).1 j hjm
            cases ha'
            rw [add_new] at r0
            go_wp2
            go_roundw
            case rel => exact ⟨j + 1, Ta.set j ⟨#[119]⟩, by go_num, hltj, hks.out.text hBC j hjm _, texts_set hjm htx.out⟩
            case measure => simp [intOf]; omega
          · have hge2 : ¬ ((j : Int) < (q : Int)) := by omega
            have HTA := Lib.hid (show ∀ i (h : i < Ta.length), Ta[i] = ⟨#[119]⟩ from fun i hi => htx.out i hi (by have := HTL.out; omega))
            have HK2 := Lib.hid hks.out
            clear htx hks HK1
            have hz34 := HB34.out.size
            have hz46 := HB46.out.size
            have hz67 := HB67.out.size
            have hz78 := HB78.out.size
            have hz89 := HB89.out.size
            have hz23 := HB3.out.size
            have hz910 := HB910.out.size
            have hz12 := (BJw HB12.out HB910.out).size
            have RBP := Lib.hid (rowTurn ((own_rowsW HO4.out).below (BJw HB12.out HB410.out)) HK2.out.turn (fun k hk hs => by rcases hs with hs | hs <;> omega))
            have RSP := Lib.hid (rowTurn ((own_rowsW HO8.out).below (BJw HB12.out HB810.out)) HK2.out.turn (fun k hk hs => by rcases hs with hs | hs <;> omega))
            have RKP := Lib.hid (rowTurn (HR9.out.below (BJw HB12.out HB910.out)) HK2.out.turn (fun k hk hs => by rcases hs with hs | hs <;> omega))
            have RHP := Lib.hid (rowTurn (HR10.out.below HB12.out) HK2.out.turn (fun k hk hs => by rcases hs with hs | hs <;> omega))
            have HB2P := Lib.hid ((BJw HB12.out HB210.out).trans (HK2.out.turn.below (B := w2.heap.size) (BJw HB12.out HB210.out).size (fun k hk => by rcases hk with hk | hk <;> omega)))
            have hnn2 : n + 1 ≤ 9223372036854775807 := by omega
            have HLE := Lib.hid (show (L ++ [markE]).length = n + 1 by rw [List.length_append, HNL.out]; rfl)
            go_upto_region 31 with (first
              | (go_at_call 46; refine (behind_n A4 n c4 L HNL.out _ _ (HE2.out.below HB2P.out) RBP.out HLb.out).mono ?_; rintro e w13 ⟨A13, c13, rfl, hr13, hb13⟩; have HR13 := Lib.hid hr13; have HB13 := Lib.hid hb13; clear hr13 hb13)
              | (go_at_call 23; refine (same_at A13 A9 (n + 1) c13 c9 _ _ (L ++ [markE]) _ HR13.out (RKP.out.below HB13.out) HLE.out hnn2).mono ?_; rintro e w14 ⟨rfl, hb14⟩; have HB14 := Lib.hid (BJw hb14 HB13.out); clear hb14)
              | (go_at_call 48; refine (sameT A8 A10 q c8 c10 _ _ T _ (RSP.out.below HB14.out) (RHP.out.below HB14.out) HQ.out hqq).mono ?_; rintro e w15 ⟨rfl, hb15⟩; have HB15 := Lib.hid (BJw hb15 HB14.out); clear hb15))
            have HKA := Lib.hid (HK2.out.below HB15.out)
            have hD12 : w7.heap.size ≤ w12.heap.size := by omega
            have h56 : (Ma.length + 2) * 56 ≤ 140737488355328 := by have := HML.out; omega
            have h16b : (Ta.length + 2) * 16 ≤ 140737488355328 := by have := HTL.out; omega
            obtain ⟨m0, m1, m2, m3, m4⟩ := HMK.out _ HKA.out.turn
            have m0' : w15.cell? ⟨0, 0, none⟩ = some (.int .i64 77) := m0
            have m1' : w15.cell? ⟨0, 1, none⟩ = some (.int .i64 0) := m1
            have m2' : w15.cell? ⟨0, 2, none⟩ = some (.bool false) := m2
            have m3' : w15.cell? ⟨0, 3, none⟩ = some (.string ⟨#[]⟩) := m3
            have m4' : w15.cell? ⟨0, 4, none⟩ = some (.string ⟨#[109, 97, 114, 107]⟩) := m4
            clear m0 m1 m2 m3 m4
            have hg15 : 0 < w15.heap.size := World.block_lt_of_cell? w15 _ m0'
            go_cut [8] (fun av wx => ∃ Ag cg, av = .slice Ag (n + 2) cg ∧ KG w12 w2.heap.size w3.heap.size w6.heap.size w7.heap.size wx (.slice A3 n c3) (.slice A7 q c7) (.slice Ag (n + 2) cg) Ma (Ma ++ [vE, markE]) Ta)
            case first =>
              have hz15 := HKA.out.turn.size
              have hn2 : Ma.length + [vE, markE].length = n + 2 := by rw [← HML.out]; rfl
              go_region_law (first
                | (refine step_app_keep evElem kEvent_plain w2.heap.size (by rfl) (.tmp 135) (.tmp 138) (by rfl) (v := .slice A3 n c3) (xs := Ma) (ys := [vE, markE]) (by rfl) (by exact (HKB.out.oa.alloc _)) (by rfl) (by rfl) (by exact Row.newEvs _ [vE, markE] _ rfl) (by simp) h56 (by have := HKB.out.turn.size; simp; omega) ?_; intro Ag cg wg happ hkeep; rw [hn2] at happ ⊢; have HAG := Lib.hid happ; have HKG := Lib.hid hkeep; clear happ hkeep)
                | (go_simp; go_at_call 52; refine (one_any _ _ _ _ _).mono ?_; rintro e wf ⟨rfl, hbf⟩; have HKB := Lib.hid (HKA.out.below ((Below.refl _ _).drew.trans (hbf.mono (Nat.le_refl _)))); have m0 := (hbf.cell (p := ⟨0, 0, none⟩) hg15).trans m0'; have m1 := (hbf.cell (p := ⟨0, 1, none⟩) hg15).trans m1'; have m2 := (hbf.cell (p := ⟨0, 2, none⟩) hg15).trans m2'; have m3 := (hbf.cell (p := ⟨0, 3, none⟩) hg15).trans m3'; have m4 := (hbf.cell (p := ⟨0, 4, none⟩) hg15).trans m4'; clear hbf))
              all_goals (go_wp2_with fail; go_meet)
              all_goals exact ⟨Ag, cg, rfl, (HKB.out.below ((Below.refl _ _).alloc (Nat.le_refl _) _)).app hBC hD12 HAG.out HKG.out⟩
            case rest =>
              obtain ⟨Ag, cg, rfl, hkg⟩ := hcut
              rename World => wg
              have HKG := Lib.hid hkg
              have hzg := hkg.kw.turn.size
              clear hkg HKA m0' m1' m2' m3' m4' hg15
              have hq2' : Ta.length + ([⟨#[118]⟩, ⟨#[117]⟩] : List ByteArray).length = q + 2 := by rw [← HTL.out]; rfl
              go_wp2_with (at_builtin; refine wpList_app_keep strElem Kn.plain_str w6.heap.size rfl (.tmp 140) (.tmp 141) rfl (v := .slice A7 q c7) (xs := Ta) (ys := [⟨#[118]⟩, ⟨#[117]⟩]) rfl (HKG.out.kw.orr.alloc _) rfl rfl (Row.newTexts _ [⟨#[118]⟩, ⟨#[117]⟩] _ rfl) (by simp) (by exact h16b) (by simp; omega) ?_; intro Ah ch wh happ hkeep; rw [hq2'] at happ ⊢; have HKH := Lib.hid ((HKG.out.below ((Below.refl _ _).alloc (Nat.le_refl _) _)).app hBC happ hkeep); clear happ hkeep)
              have HKB2 := Lib.hid HKH.out
              go_loopw [25] (fun iv wr => ∃ i : Nat, iv = .int .i64 i ∧ i ≤ n ∧ Hid (Below wh.heap.size wh wr)) (fun iv _ => n - (intOf iv).toNat)
              case atStart => exact ⟨0, rfl, Nat.zero_le _, Below.refl _ _⟩
              case round =>
                obtain ⟨i, rfl, hi, hbw⟩ := hrel
                obtain ⟨wi, rfl⟩ : ∃ wi, wi = wr := ⟨_, rfl⟩
                have HHI := Lib.hid (HKB2.out.below hbw.out)
                by_cases hlti : i < n
                · have hlt1 : (i : Int) < (n : Int) := by omega
                  have him : i < Ma.length := by rw [← HML.out]; exact hlti
                  obtain ⟨y, hy⟩ : ∃ y, markE = y := ⟨_, rfl⟩
                  have hm := HMK.out _ HHI.out.turn
                  obtain ⟨a', ha', -, hev⟩ := ev_at HHI.out.rg i (by rw [List.length_append]; omega)
                  rw [markAt him HMA.out] at hev
                  subst ha'
                  rw [hy] at hm hev
                  obtain ⟨m0, m1, m2, m3, m4⟩ := hm
                  obtain ⟨r0, r1, r2, r3, r4⟩ := hev
                  have hrun := run_neqEv y y true (by simp [evEqB_iff])
                  clear hy
                  go_wp2
                  go_quiet (fail)
                  go_wp2
                  go_roundw
                  case rel => exact ⟨i + 1, by go_num, hlti, below_drewN hbw.out _⟩
                  case measure => simp [intOf]; omega
                · have hgei : ¬ ((i : Int) < (n : Int)) := by omega
                  have HKB3 := Lib.hid HHI.out
                  have HBW := Lib.hid hbw.out
                  clear hbw HHI
                  clear HKB2
                  have HKB2 := Lib.hid HKB3.out
                  clear HKB3
                  have HBA := Lib.hid HBW.out
                  clear HBW
                  go_wp2
                  go_loopw [26] (fun iv wr => ∃ i : Nat, iv = .int .i64 i ∧ i ≤ q ∧ Hid (Below wi.heap.size wi wr)) (fun iv _ => q - (intOf iv).toNat)
                  case atStart => exact ⟨0, rfl, Nat.zero_le _, Below.refl _ _⟩
                  case round =>
                    obtain ⟨i, rfl, hi, hbw⟩ := hrel
                    obtain ⟨wj, rfl⟩ : ∃ wi, wi = wr := ⟨_, rfl⟩
                    have HHI := Lib.hid (HKB2.out.below hbw.out)
                    by_cases hlti : i < q
                    · have hlt1 : (i : Int) < (q : Int) := by omega
                      have him : i < Ta.length := by rw [← HTL.out]; exact hlti
                      obtain ⟨a', ha', r0⟩ := row_str_at HHI.out.rh i (by rw [List.length_append]; omega)
                      rw [textAt him HTA.out] at r0
                      subst ha'
                      go_wp2
                      go_roundw
                      case rel => exact ⟨i + 1, by go_num, hlti, hbw.out⟩
                      case measure => simp [intOf]; omega
                    · have hgei : ¬ ((i : Int) < (q : Int)) := by omega
                      have HKB3 := Lib.hid HHI.out
                      have HBW := Lib.hid hbw.out
                      clear hbw HHI
                      clear HKB2
                      have HKB2 := Lib.hid HKB3.out
                      clear HKB3
                      have HB2J := Lib.hid ((BJw HB12.out HB210.out).trans (HKB2.out.turn.below (B := w2.heap.size) (BJw HB12.out HB210.out).size (fun k hk => by rcases hk with hk | hk <;> omega)))
                      have RBJ := Lib.hid (rowTurn ((own_rowsW HO4.out).below (BJw HB12.out HB410.out)) HKB2.out.turn (fun k hk hs => by rcases hs with hs | hs <;> omega))
                      have RSJ := Lib.hid (rowTurn ((own_rowsW HO8.out).below (BJw HB12.out HB810.out)) HKB2.out.turn (fun k hk hs => by rcases hs with hs | hs <;> omega))
                      have RKJ := Lib.hid (rowTurn (HR9.out.below (BJw HB12.out HB910.out)) HKB2.out.turn (fun k hk hs => by rcases hs with hs | hs <;> omega))
                      have RXJ := Lib.hid (rowTurn ((own_rowsW HN2.out).below (BJw HB12.out HB610.out)) HKB2.out.turn (fun k hk hs => by rcases hs with hs | hs <;> omega))
                      have RNJ := Lib.hid (HR0.out.below (BJw HB2J.out HW2.out))
                      have RNN := Lib.hid (show Row Kn.str (fun _ => True) wj N2 N by
                        have := (RXJ.out.mono (fun _ _ => trivial : ∀ k, _ → True)).take N.length
                        rw [List.take_left] at this; exact this)
                      have RNM := Lib.hid (show Row Kn.str (fun _ => True) wj N2 (names.map mkB) by rw [HNE.out]; exact RNN.out)
                      have cj := C0.out _ HB2J.out
                      go_wp2_with (first
                        | (go_at_call 22; refine (since_at gh H low 100 ⟨#[47]⟩ L n2 n3 n HNL.out HRES _ (HE2.out.below HB2J.out).ml (HK.out.below HB2J.out)).mono ?_; rintro e w21 ⟨A21, c21, rfl, ho21, hb21⟩; have HO21 := Lib.hid ho21; have HB21 := Lib.hid hb21; clear ho21 hb21)
                        | (go_at_call 47; refine (replay_at 3 ⟨#[47]⟩ N2 A4 names.length cm n c4 _ _ names L T q HT HQ.out rfl HNL.out _ (HE2.out.below (BJw HB21.out HB2J.out)).ml (RNM.out.below HB21.out) (RBJ.out.below HB21.out) hn hlL2 HSN.out HSE.out).mono ?_; rintro e w22 ⟨A22, c22, rfl, ho22, hb22⟩; have HO22 := Lib.hid ho22; have HB22 := Lib.hid hb22; clear ho22 hb22))
                      have HKJ := Lib.hid HKB2.out
                      clear HKB2
                      have HBJ2 := Lib.hid (BJw HB22.out HB21.out)
                      have HKB2 := Lib.hid (HKJ.out.below HBJ2.out)
                      go_loopw [31] (fun iv wr => ∃ i : Nat, iv = .int .i64 i ∧ i ≤ n ∧ Hid (Below w22.heap.size w22 wr)) (fun iv _ => n - (intOf iv).toNat)
                      case atStart => exact ⟨0, rfl, Nat.zero_le _, Below.refl _ _⟩
                      case round =>
                        obtain ⟨i, rfl, hi, hbw⟩ := hrel
                        obtain ⟨wk, rfl⟩ : ∃ wi, wi = wr := ⟨_, rfl⟩
                        have HHI := Lib.hid (HKB2.out.below hbw.out)
                        by_cases hlti : i < n
                        · have hlt1 : (i : Int) < (n : Int) := by omega
                          have him : i < Ma.length := by rw [← HML.out]; exact hlti
                          obtain ⟨y, hy⟩ : ∃ y, markE = y := ⟨_, rfl⟩
                          have hm := HMK.out _ HHI.out.turn
                          obtain ⟨a', ha', -, hev⟩ := ev_at HHI.out.ra i him
                          rw [HMA.out i him] at hev
                          subst ha'
                          rw [hy] at hm hev
                          obtain ⟨m0, m1, m2, m3, m4⟩ := hm
                          obtain ⟨r0, r1, r2, r3, r4⟩ := hev
                          have hrun := run_neqEv y y true (by simp [evEqB_iff])
                          clear hy
                          go_wp2
                          go_quiet (fail)
                          go_wp2
                          go_roundw
                          case rel => exact ⟨i + 1, by go_num, hlti, below_drewN hbw.out _⟩
                          case measure => simp [intOf]; omega
                        · have hgei : ¬ ((i : Int) < (n : Int)) := by omega
                          have HKB3 := Lib.hid HHI.out
                          have HBW := Lib.hid hbw.out
                          clear hbw HHI
                          clear HKB2
                          have HKB2 := Lib.hid HKB3.out
                          clear HKB3
                          have HB2K := Lib.hid HBW.out
                          clear HBW
                          go_wp2
                          go_loopw [32] (fun iv wr => ∃ i : Nat, iv = .int .i64 i ∧ i ≤ q ∧ Hid (Below wk.heap.size wk wr)) (fun iv _ => q - (intOf iv).toNat)
                          case atStart => exact ⟨0, rfl, Nat.zero_le _, Below.refl _ _⟩
                          case round =>
                            obtain ⟨i, rfl, hi, hbw⟩ := hrel
                            obtain ⟨wm, rfl⟩ : ∃ wi, wi = wr := ⟨_, rfl⟩
                            have HHI := Lib.hid (HKB2.out.below hbw.out)
                            by_cases hlti : i < q
                            · have hlt1 : (i : Int) < (q : Int) := by omega
                              have him : i < Ta.length := by rw [← HTL.out]; exact hlti
                              obtain ⟨a', ha', r0⟩ := row_str_at HHI.out.rr i him
                              rw [HTA.out i him] at r0
                              subst ha'
                              go_wp2
                              go_roundw
                              case rel => exact ⟨i + 1, by go_num, hlti, hbw.out⟩
                              case measure => simp [intOf]; omega
                            · have hgei : ¬ ((i : Int) < (q : Int)) := by omega
                              have HKB3 := Lib.hid HHI.out
                              have HBW := Lib.hid hbw.out
                              clear hbw HHI
                              have HBKM := Lib.hid (BJw HBW.out HB2K.out)
                              clear HBW HKB2
                              have HBJM := Lib.hid (BJw HBKM.out HBJ2.out)
                              have HB2M := Lib.hid (BJw HBJM.out HB2J.out)
                              have HWM := Lib.hid (BJw HB2M.out HW2.out)
                              obtain ⟨ax, hax, x0⟩ := row_str_at (RXJ.out.below HBJM.out) names.length (by rw [List.length_append, HNN.out]; simp)
                              subst hax
                              rw [List.getElem_append_right (by rw [HNN.out]; exact Nat.le_refl _)] at x0
                              have hnl := HNN.out
                              have hw2n : wrap64 ((n : Int) + 2) = (n : Int) + 2 := by unfold wrap64; omega
                              have hw2q : wrap64 ((q : Int) + 2) = (q : Int) + 2 := by unfold wrap64; omega
                              have hn63 : names.length ≤ 9223372036854775807 := by omega
                              have x0' : wm.cell? (ax.add names.length) = some (.string markS) := by rw [x0]; simp [HNN.out]
                              have HX0 := Lib.hid x0'
                              clear x0 x0' hnl
                              have Y0 := True.intro
                              go_wp2_with (first
                                | (go_at_call 23; have Y1 := Y0; clear Y0; refine (same_at A21 A4 n c21 c4 _ _ L _ ((own_rowTrue HO21.out).1.below (BJw HBKM.out HB22.out)) (RBJ.out.below HBJM.out) HNL.out hnn9).mono ?_; rintro e w31 ⟨rfl, hb31⟩; have HB31 := Lib.hid hb31; clear hb31)
                                | (go_at_call 46; refine (behind_n A4 n c4 L HNL.out _ _ (HE2.out.below (BJw HB31.out HB2M.out)) (RBJ.out.below (BJw HB31.out HBJM.out)) HLb.out).mono ?_; rintro e w32 ⟨A32, c32, rfl, hr32, hb32⟩; have HR32 := Lib.hid hr32; have HB32 := Lib.hid (BJw hb32 HB31.out); clear hr32 hb32)
                                | (go_at_call 23; have Y2 := Y1; clear Y1; refine (same_at A32 A9 (n + 1) c32 c9 _ _ (L ++ [markE]) _ HR32.out (RKJ.out.below (BJw HB32.out HBJM.out)) HLE.out hnn2).mono ?_; rintro e w33 ⟨rfl, hb33⟩; have HB33 := Lib.hid (BJw hb33 HB32.out); clear hb33)
                                | (go_at_call 48; have Y3 := Y2; clear Y2; refine (sameT A22 A8 q c22 c8 _ _ T _ ((own_rowTrue HO22.out).1.below (BJw HB33.out HBKM.out)) (RSJ.out.below (BJw HB33.out HBJM.out)) HQ.out hqq).mono ?_; rintro e w34 ⟨rfl, hb34⟩; have HB34b := Lib.hid (BJw hb34 HB33.out); clear hb34)
                                | (go_at_call 48; have Y4 := Y3; clear Y3; refine (sameT _ A2 names.length cm c2 _ _ N _ (RNN.out.below (BJw HB34b.out HBJM.out)) (RNJ.out.below (BJw HB34b.out HBJM.out)) HNN.out hn63).mono ?_; rintro e w35 ⟨rfl, hb35⟩; have HB35 := Lib.hid (BJw hb35 HB34b.out); have x5 := (HB35.out.cell (World.block_lt_of_cell? _ _ HX0.out)).trans HX0.out; clear hb35))
                              go_ret
                              exact ⟨rfl, BJw HB35.out HWM.out⟩
end Go.Proofs.YtdchffghgajbfaaDoor
