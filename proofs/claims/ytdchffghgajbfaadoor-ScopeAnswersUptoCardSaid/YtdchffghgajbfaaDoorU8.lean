/- scope.Of. -/
import Derived.Test.YtdchffghgajbfaaDoorU7
namespace Go.Proofs.YtdchffghgajbfaaDoor
open Go.RowKit

def ScV.cells (s : ScV) : List Value := [.int .i64 s.kind, .int .i64 s.arg]
def kSc : Kn ScV := Kn.enc ScV.cells 2 (by omega) (fun _ => rfl) (fun x u hu => by simp [ScV.cells] at hu; rcases hu with rfl | rfl <;> rfl)
theorem kSc_plain : kSc.Plain := Kn.plain_enc
theorem scElem : Elem Tryd.prog 69 54 kSc 16 :=
  Elem.mk_ (z := .agg #[.int .i64 0, .int .i64 0]) Tryd.underlying69 (by kernel_rfl) rfl (by omega)
/-- the scope of a kind that an object of this priority is asked for -/
def scopeK (prio : Int) (k : Nat) : ScV := ⟨k, if k = 5 then prio else 0⟩
def ofS (o : ObjV) (k : Nat) : List ScV := ((List.range k).map (scopeK o.prio)).filter (inS o.prio o.dl o.parts)
theorem ofS_step {o : ObjV} {k : Nat} (hk : k < 6) (b : Bool) (hb : inS o.prio o.dl o.parts (scopeK o.prio k) = b) : ofS o (k + 1) = ofS o k ++ (if b then [scopeK o.prio k] else []) := by
  unfold ofS
  rw [List.range_succ, List.map_append, List.filter_append]
  congr 1
  cases b <;> simp [hb]
structure ScAt (w : World) (p : Nat) (k a : Int) : Prop where
  s0 : w.cell? ⟨p, 0, none⟩ = some (.int .i64 k)
  s1 : w.cell? ⟨p, 1, none⟩ = some (.int .i64 a)
def OfPost (o : ObjV) (w : World) (e : Ending) (w' : World) : Prop :=
  ∃ A c, e = .returned (.slice A (ofS o 6).length c) ∧ Own kSc 54 w.heap.size (fun _ => True) w' (.slice A (ofS o 6).length c) (ofS o 6) ∧ Below w.heap.size w w'
set_option maxRecDepth 100000 in
set_option maxHeartbeats 1000000 in
theorem of_any (o : ObjV) (A : Option Addr) (c : Nat) (P : Nat → Prop) (w : World) (ho : ObjOk w o A P) (ht : TextsAt w) : Calls Tryd.prog 31 #[o.val A c] w (OfPost o w) := by
  obtain ⟨B0, n0, m0, hlab⟩ := ho.lab
  have hb0 : Below w.heap.size w (w.alloc (.cells (o.cells A c) 58)) := (Below.refl _ _).alloc (Nat.le_refl _) _
  have hob := objAt_new w o A c
  have hok := ho.below hb0
  have htx := ht.below hb0
  unfold ObjV.val
  obtain ⟨w0, hw0⟩ : ∃ w0, w.alloc (.cells (o.cells A c) 58) = w0 := ⟨_, rfl⟩
  rw [hw0] at hb0 hob hok htx
  unfold ObjV.cells at hw0
  rw [hlab] at hw0 ⊢
  have HB0 := Lib.hid hb0
  have OB := Lib.hid hob
  have OK := Lib.hid hok
  have TX := Lib.hid htx
  have HLAB := Lib.hid hlab
  clear hb0 hob hok htx hlab ho ht
  go_enter Tryd.func31, Tryd.ntmps31
  go_wp2
  clear hw0
  go_loopw [3, 6] (fun lv iv wr => ∃ (k n : Nat) (B : Option Addr) (M : List ScV), iv = .int .i64 k ∧ lv = .slice B M.length n ∧ k ≤ 6 ∧ M.length ≤ k ∧ Hid (Own kSc 54 w0.heap.size (fun _ => True) wr (.slice B M.length n) M) ∧ Hid (Below w0.heap.size w0 wr) ∧ Hid (M = ofS o k)) (fun _ iv _ => 6 - (intOf iv).toNat)
  case atStart => exact ⟨0, 0, none, [], rfl, rfl, Nat.zero_le _, Nat.le_refl _, Own.nil _ _ _ _ _, Lib.hid (Below.refl _ _), by simp [Hid, ofS]⟩
  case round =>
    obtain ⟨k, n, B, M, rfl, rfl, hk, hM, hown, hbr, HM⟩ := hrel
    obtain ⟨wo, rfl⟩ : ∃ wo, wo = wr := ⟨_, rfl⟩
    have hsz := hbr.out.size
    have h16 : (M.length + 1) * 16 ≤ 140737488355328 := by omega
    by_cases hlt : k < 6
    · have hkl : (k : Int) < 6 := by omega
      by_cases h5 : k = 5
      · subst h5
        have hsc : scopeK o.prio 5 = ⟨5, o.prio⟩ := rfl
        obtain ⟨p0, p1, p2, p3, p4, p5, p6⟩ := OB.out.below (hbr.out.trans (((Below.refl wo.heap.size wo).alloc (Nat.le_refl _) (.cells #[.int .i64 5, .int .i64 0] 54)).mono hsz))
        go_upto_region 7 with fail
        go_cut [] (fun wx => ScAt wx wo.heap.size 5 o.prio ∧ Below wo.heap.size wo wx)
        case first =>
          go_wp2_with fail
          go_meet
          have hg := heap_alloc_new wo (.cells #[.int .i64 5, .int .i64 o.prio] 54)
          exact ⟨⟨(cell_of_row _ _ _ _ _ _ hg).trans rfl, (cell_of_row _ _ _ _ _ _ hg).trans rfl⟩, (Below.refl _ _).alloc (Nat.le_refl _) _⟩
        case rest =>
          clear p0 p1 p2 p3 p4 p5 p6
          obtain ⟨⟨s0, s1⟩, hb1⟩ := hcut
          have HB1 := Lib.hid hb1
          have hw1 := hbr.out.trans (hb1.mono hsz)
          have HIN := Lib.hid (in_any ⟨5, o.prio⟩ o A c P _ ((OK.out.below hw1)) ((TX.out.below hw1)))
          unfold ObjV.val ScV.val at HIN
          rw [HLAB.out] at HIN
          obtain ⟨p0, p1, p2, p3, p4, p5, p6⟩ := OB.out.below hw1
          rw [HLAB.out] at p2
          clear hb1 hw1
          cases hin : inS o.prio o.dl o.parts ⟨5, o.prio⟩
          · have HI := Lib.hid hin
            have HM2 := Lib.hid (ofS_step (o := o) (k := 5) (by omega) false (by rw [hsc]; exact hin))
            clear hin
            go_wp2_with (first
              | (go_at_call 29; refine HIN.out.mono ?_; rintro e w2 ⟨rfl, hb2⟩; rw [HI.out]; have HB2 := Lib.hid (HB1.out.trans (hb2.mono HB1.out.size)); have m0 := (hb2.cell (World.block_lt_of_cell? _ _ s0)).trans s0; have m1 := (hb2.cell (World.block_lt_of_cell? _ _ s1)).trans s1; clear hb2))
            go_roundw
            case rel => exact ⟨6, n, B, M, by go_num, rfl, hlt, by omega, hown.out.below HB2.out, hbr.out.trans (HB2.out.mono hsz), by unfold Hid; rw [HM2.out, ← HM.out]; simp⟩
            case measure => simp [intOf]
          · have HI := Lib.hid hin
            have HM2 := Lib.hid (ofS_step (o := o) (k := 5) (by omega) true (by rw [hsc]; exact hin))
            clear hin
            go_wp2_with (first
              | (go_at_call 29; refine HIN.out.mono ?_; rintro e w2 ⟨rfl, hb2⟩; rw [HI.out]; have HB2 := Lib.hid (HB1.out.trans (hb2.mono HB1.out.size)); have m0 := (hb2.cell (World.block_lt_of_cell? _ _ s0)).trans s0; have m1 := (hb2.cell (World.block_lt_of_cell? _ _ s1)).trans s1; clear hb2)
              | (at_builtin; refine wpList_app_plain scElem kSc_plain w0.heap.size rfl (.tmp 19) (.tmp 21) rfl (v := .slice B M.length n) (xs := M) (ys := [(⟨5, o.prio⟩ : ScV)]) rfl ((hown.out.below HB2.out).alloc _) rfl rfl (Row.newOnePlain (cs := ScV.cells ⟨5, o.prio⟩) kSc_plain rfl) (by exact h16) (by have := HB2.out.size; simp; omega) ?_; intro A7 c7 w7 happ; have HA7 := Lib.hid happ; clear happ))
            go_roundw
            case rel =>
              have hl1 : (M ++ [(⟨5, o.prio⟩ : ScV)]).length = M.length + 1 := by rw [List.length_append]; rfl
              refine ⟨6, c7, A7, M ++ [⟨5, o.prio⟩], by go_num, by rw [hl1], hlt, by rw [hl1]; omega, by have := HA7.out.own; rw [hl1]; exact this, HA7.out.below ((hbr.out.trans (HB2.out.mono hsz)).alloc (Nat.le_trans hsz HB2.out.size) _) (by have := HB2.out.size; simp; omega) (fun q hq => (hown.out.block_lt q hq).1), ?_⟩
              unfold Hid; rw [HM2.out, ← HM.out, hsc]; rfl
            case measure => simp [intOf]
      · have e5 : ((k : Int) == 5) = false := by simp; omega
        have hsc : scopeK o.prio k = ⟨(k : Int), 0⟩ := by unfold scopeK; rw [if_neg h5]
        go_upto_region 5 with fail
        go_cut [5] (fun s wx => s = .pointer (some ⟨wo.heap.size, 0, none⟩) ∧ ScAt wx wo.heap.size k 0 ∧ Below wo.heap.size wo wx)
        case first =>
          go_wp2_with fail
          go_meet
          have hg := heap_alloc_new wo (.cells #[.int .i64 k, .int .i64 0] 54)
          exact ⟨rfl, ⟨(cell_of_row _ _ _ _ _ _ hg).trans rfl, (cell_of_row _ _ _ _ _ _ hg).trans rfl⟩, (Below.refl _ _).alloc (Nat.le_refl _) _⟩
        case rest =>
          obtain ⟨rfl, ⟨s0, s1⟩, hb1⟩ := hcut
          have HB1 := Lib.hid hb1
          have hw1 := hbr.out.trans (hb1.mono hsz)
          have HIN := Lib.hid (in_any ⟨(k : Int), 0⟩ o A c P _ ((OK.out.below hw1)) ((TX.out.below hw1)))
          unfold ObjV.val ScV.val at HIN
          rw [HLAB.out] at HIN
          obtain ⟨p0, p1, p2, p3, p4, p5, p6⟩ := OB.out.below hw1
          rw [HLAB.out] at p2
          clear hb1 hw1
          cases hin : inS o.prio o.dl o.parts ⟨(k : Int), 0⟩
          · have HI := Lib.hid hin
            have HM2 := Lib.hid (ofS_step (o := o) hlt false (by rw [hsc]; exact hin))
            clear hin
            go_wp2_with (first
              | (go_at_call 29; refine HIN.out.mono ?_; rintro e w2 ⟨rfl, hb2⟩; rw [HI.out]; have HB2 := Lib.hid (HB1.out.trans (hb2.mono HB1.out.size)); have m0 := (hb2.cell (World.block_lt_of_cell? _ _ s0)).trans s0; have m1 := (hb2.cell (World.block_lt_of_cell? _ _ s1)).trans s1; clear hb2))
            go_roundw
            case rel => exact ⟨k + 1, n, B, M, by go_num, rfl, hlt, by omega, hown.out.below HB2.out, hbr.out.trans (HB2.out.mono hsz), by unfold Hid; rw [HM2.out, ← HM.out]; simp⟩
            case measure => simp [intOf]; omega
          · have HI := Lib.hid hin
            have HM2 := Lib.hid (ofS_step (o := o) hlt true (by rw [hsc]; exact hin))
            clear hin
            go_wp2_with (first
              | (go_at_call 29; refine HIN.out.mono ?_; rintro e w2 ⟨rfl, hb2⟩; rw [HI.out]; have HB2 := Lib.hid (HB1.out.trans (hb2.mono HB1.out.size)); have m0 := (hb2.cell (World.block_lt_of_cell? _ _ s0)).trans s0; have m1 := (hb2.cell (World.block_lt_of_cell? _ _ s1)).trans s1; clear hb2)
              | (at_builtin; refine wpList_app_plain scElem kSc_plain w0.heap.size rfl (.tmp 19) (.tmp 21) rfl (v := .slice B M.length n) (xs := M) (ys := [(⟨(k : Int), 0⟩ : ScV)]) rfl ((hown.out.below HB2.out).alloc _) rfl rfl (Row.newOnePlain (cs := ScV.cells ⟨(k : Int), 0⟩) kSc_plain rfl) (by exact h16) (by have := HB2.out.size; simp; omega) ?_; intro A7 c7 w7 happ; have HA7 := Lib.hid happ; clear happ))
            go_roundw
            case rel =>
              have hl1 : (M ++ [(⟨(k : Int), 0⟩ : ScV)]).length = M.length + 1 := by rw [List.length_append]; rfl
              refine ⟨k + 1, c7, A7, M ++ [⟨(k : Int), 0⟩], by go_num, by rw [hl1], hlt, by rw [hl1]; omega, by have := HA7.out.own; rw [hl1]; exact this, HA7.out.below ((hbr.out.trans (HB2.out.mono hsz)).alloc (Nat.le_trans hsz HB2.out.size) _) (by have := HB2.out.size; simp; omega) (fun q hq => (hown.out.block_lt q hq).1), ?_⟩
              unfold Hid; rw [HM2.out, ← HM.out, hsc]; rfl
            case measure => simp [intOf]; omega
    · have hkl : ¬ (k : Int) < 6 := by omega
      have hk6 : k = 6 := by omega
      have HF := Lib.hid (show OfPost o w (.returned (.slice B M.length n)) wo by
        have h1 := HM.out
        rw [hk6] at h1
        rw [h1] at hown ⊢
        exact ⟨B, n, rfl, hown.out.lower HB0.out.size, HB0.out.trans (hbr.out.mono HB0.out.size)⟩)
      clear hk6
      go_wp2
      go_ret
      exact HF.out
end Go.Proofs.YtdchffghgajbfaaDoor
