/- The ledger's Rows: the walk. -/
import Derived.Test.YtalkdddeiebfmaaGreatDoorJ20
import Derived.Shelf.SlSortCmp.NoneTotal
namespace Go.Proofs.YtalkdddeiebfmaaGreatDoor
open Go.RowKit Go.Maps Go.WideMaps Go.Sort

theorem useElem : Elem Tryz.prog 36 49 kSh 56 :=
  Elem.mk_ (z := .agg #[.string ⟨#[]⟩, .int .i64 0, .int .i64 0, .string ⟨#[]⟩, .int .i64 0]) Tryz.underlying36 (by kernel_rfl) rfl (by omega)
theorem ownsMap_size_pl {w : World} {b n : Nat} {D : DataW Unit} {R : Value → Option (DataW Unit × List MemPlace)} (h : w.ownsMap Tryz.prog 79 R b n D) : Maps.size D ≤ n := by
  obtain ⟨es, clock, _, _, h3, rfl⟩ := h
  show ((es.toList.map _).foldr DataW.insert []).length ≤ n
  rw [length_sorted, List.length_map, Array.length_toList]; exact h3
def LRowsPost (S : Pl → Int) (w : World) (e : Ending) (w' : World) : Prop :=
  ∃ A c R, e = .returned (.slice A (List.length R) c) ∧ Own kSh 49 w.heap.size (fun _ => False) w' (.slice A R.length c) R ∧ RowsOf S R ∧ Below w.heap.size w w'
section
variable {w : World} {g b1 b2 n m : Nat} {S : Pl → Int} {C : ByteArray → Int}
set_option maxRecDepth 100000 in
set_option maxHeartbeats 1000000 in
theorem lrows_any (w : World) (hm : Ml w) (k : IsLed w g b1 b2 n S C) (ok : LedOk m S C) (hsz : (m + 1) * 56 ≤ 140737488355328) :
    Calls Tryz.prog 14 #[.pointer (some ⟨g, 0, none⟩)] w (LRowsPost S w) := by
  obtain ⟨D, hown, hlook, hhas⟩ := (k.tight ok).sums.ex
  have g0 := k.g0
  have HB1 := Lib.hid (show b1 < w.heap.size from k.sums.lt)
  have HOWN := Lib.hid hown
  have HLOOK := Lib.hid hlook
  have HHAS := Lib.hid hhas
  have HOK := Lib.hid ok
  have HM := Lib.hid hm
  have hds := ownsMap_size_pl hown
  clear hown hlook hhas ok hm k
  go_enter Tryz.func14, Tryz.ntmps14
  go_wp2_with (first
    | (at_range; refine wpList_range_own _ rfl _ 74 rfl 79 2 placeLaw Tryz.underlying74 _ b1 m _ rfl HOWN.out ?_; intro w6 hrg0 hg0 hs0)
    | go_in)
  have HRG0 := Lib.hid hrg0
  have HB6 := Lib.hid (show Below w.heap.size w w6 from (Below.refl _ _).grown hg0 (Nat.le_refl _) (fun j hj => by cases hj))
  clear hrg0 hg0
  try go_frame
  go_loopw [3] (fun lv wr => ∃ (left : Lit → Bool) (cnt n : Nat) (B : Option Addr) (M : List Sh), lv = .slice B M.length n ∧ Hid (wr.ranges Tryz.prog 79 (plainElem Tryz.prog 2) b1 w.heap.size m D left cnt) ∧ M.length + cnt ≤ m ∧ Hid (ColS D S left M) ∧ Hid (Own kSh 49 w.heap.size (fun _ => False) wr lv M) ∧ Hid (Below w.heap.size w wr)) (fun _ wr => wr.rangeLeft b1 w.heap.size)
  case atStart => exact ⟨_, _, 0, none, [], rfl, HRG0.out, by simp; omega, ColS.start D S, Own.nil _ _ _ _ _, HB6.out⟩
  case round =>
    obtain ⟨left, cnt, n7, B7, M, rfl, hrg, hcnt, hcol, hom, hb7⟩ := hrel
    obtain ⟨wq, rfl⟩ : ∃ wq, wq = wr := ⟨_, rfl⟩
    have hszq := hb7.out.size
    go_wp2_with (first
      | (at_next; refine wpList_next_pl _ rfl _ rfl b1 w.heap.size m _ _ _ rfl hrg.out ?_ ?_)
      | go_in)
    · intro _ hl0
      have hdone := hcol.out.done HHAS.out hl0 fun x hx => (HOK.out.pl x hx).1
      have hpath := fun x hx => (HOK.out.pl x hx).2.1
      by_cases hM : M = []
      · subst hM
        have HR := Lib.hid (show RowsOf S [] from rowsOf_sorted (List.Perm.refl _) List.Pairwise.nil hdone.2 hdone.1 hpath)
        have HS := Lib.hid (AnyF.slices_SortFunc_none Tryz.sortU B7 n7 (.func (.func 32) #[] #[]) wq)
        have HS2 := Lib.hid (show Calls Tryz.prog 31 #[.slice B7 0 n7, .func (.func 32) #[] #[]] wq _ from HS.out)
        clear hdone hpath hl0
        go_wp2_with (go_at_call 31; refine HS2.out.mono ?_; rintro e w8 ⟨rfl, rfl⟩)
        go_ret
        exact ⟨B7, n7, [], rfl, hom.out, HR.out, hb7.out⟩
      · have hML := HM.out.below hb7.out
        have hlt := HM.out.low
        have HS := Lib.hid (useSort_any (nm := M.length) rfl wq hML hlt hom.out hM (by omega))
        have HD := Lib.hid hdone
        have HP := Lib.hid hpath
        clear hdone hpath hl0 hML hlt hM
        go_wp2_with (go_at_call 31; refine HS.out.mono ?_; rintro e w8 ⟨rfl, R, hown8, hp8, hs8, hg8⟩; have HO8 := Lib.hid hown8; have HG8 := Lib.hid hg8; have HP8 := Lib.hid hp8; have HS8 := Lib.hid hs8; clear hown8 hg8 hp8 hs8)
        go_ret
        have hlen : R.length = M.length := HP8.out.length_eq
        refine ⟨B7, n7, R, by rw [hlen]; rfl, by rw [hlen]; exact HO8.out, rowsOf_sorted HP8.out (HS8.out.imp fun h => by omega) HD.out.2 HD.out.1 HP.out, ?_⟩
        exact hb7.out.grown HG8.out hszq (fun k hk => (hom.out.block_lt k hk).1)
    · intro p kd ar t c w7 cnt' hx hlk hat hrg1 hlt1 hg1 hs1 hen
      obtain ⟨cells7, hor7, -⟩ := hom.out
      have hne1 := row_ne_iter hor7 hrg.out
      have HO7 := Lib.hid (show Own kSh 49 w.heap.size (fun _ => False) w7 (.slice B7 M.length n7) M from
        (hom.out.move fun k hk hl => hk.elim (fun hk => hg1.block k hl (fun e => hne1 (e ▸ hk.symm))) (fun f => f.elim)))
      have HB7 := Lib.hid (show Below w.heap.size w w7 from hb7.out.grown hg1 hszq (fun k hk => by cases hk; exact Nat.le_refl _))
      have HRG1 := Lib.hid hrg1
      have HCOL := Lib.hid (hcol.out.step HLOOK.out hx hlk hat)
      have HLT := Lib.hid (show w7.rangeLeft b1 w.heap.size < wq.rangeLeft b1 w.heap.size by rw [hrg1.left_eq, hrg.out.left_eq]; exact hlt1)
      have hz7 := HB7.out.size
      have h24 : (M.length + 1) * 56 ≤ 140737488355328 := by omega
      have HC := Lib.hid (show Row kSh (fun _ => True) ((w7.alloc (.cells #[.string p, .int .i64 kd, .int .i64 ar, .string t] 79)).alloc (.cells #[.string p, .int .i64 kd, .int .i64 ar, .string t, .int .i64 c] 49)) (some ⟨w7.heap.size + 1, 0, none⟩) [((p, (kd, ar), t), c)] by
        have := Row.newOnePlain (w := w7.alloc (.cells #[.string p, .int .i64 kd, .int .i64 ar, .string t] 79)) (e := 49) (cs := Sh.cells ((p, (kd, ar), t), c)) kSh_plain (x := ((p, (kd, ar), t), c)) rfl
        simpa [Sh.cells] using this)
      clear hor7 hne1 hrg1 hg1 hlk hat hs1 hx
      go_wp2_with (
        (at_builtin; refine wpList_app_plain useElem kSh_plain w.heap.size rfl (.tmp 16) (.tmp 25) rfl (v := .slice B7 M.length n7) (xs := M) (ys := [((p, (kd, ar), t), c)]) rfl ((HO7.out.alloc _).alloc _) rfl rfl HC.out (by exact h24) (by simp; omega) ?_; intro A9 c9 w9 happ; have HA9 := Lib.hid happ; clear happ))
      have HRG9 := Lib.hid (show w9.ranges Tryz.prog 79 (plainElem Tryz.prog 2) b1 w.heap.size m D _ cnt' from
        ((HRG1.out.alloc _).alloc _).kept HA9.out.grown (fun e => by have := (HO7.out.block_lt _ e.symm).1; have := HB1.out; omega) (fun e => by
          obtain ⟨cl, ho9, -⟩ := HO7.out
          exact row_ne_iter ho9 HRG1.out e))
      go_roundw
      case rel =>
        have hl1 : (M ++ [((p, (kd, ar), t), c)]).length = M.length + 1 := by rw [List.length_append]; rfl
        exact ⟨_, cnt', c9, A9, M ++ [((p, (kd, ar), t), c)], by rw [hl1], HRG9.out, by rw [hl1]; omega, HCOL.out, HA9.out.own, HA9.out.below ((HB7.out.alloc hz7 _).alloc (by simp; omega) _) (by simp; omega) (fun q hq => (HO7.out.block_lt q hq).1)⟩
      case measure =>
        have h1 := HRG9.out.left_eq
        have h2 := HRG1.out.left_eq
        have h3 := HLT.out
        show w9.rangeLeft _ _ < wq.rangeLeft _ _
        omega
end
end Go.Proofs.YtalkdddeiebfmaaGreatDoor
