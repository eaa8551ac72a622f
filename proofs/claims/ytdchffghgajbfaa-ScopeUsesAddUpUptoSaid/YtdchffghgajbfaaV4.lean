/- slices.SortFunc at amounts, by name: the row holds the one rising list. -/
import Derived.Test.YtdchffghgajbfaaV1
import Derived.Test.YtdchffghgajbfaaSort
import Derived.Test.YtdchffghgajbfaaShelf
import Derived.Shelf.SlSortCmp.WholeK
namespace Go.Proofs.Ytdchffghgajbfaa
open Go.RowKit Go.Sort Go.Shelf Go.Lib

theorem uses2_any (x y : Amt) (W : World) : Calls Try.prog 15 #[.agg #[.string x.name, .int .i64 x.val], .agg #[.string y.name, .int .i64 y.val]] W fun e w' => e = .returned (.int .i64 (cmpA x y)) ∧ ∃ q os', w' = grow (W.drewN q) os' := by
  have hcon := fun W' => Try.strings_Compare x.name y.name W'
  have HR := Lib.hid (show cmpA x y = Lib.compareBytes x.name.data.toList y.name.data.toList from rfl)
  obtain ⟨r, hr⟩ : ∃ r, Lib.compareBytes x.name.data.toList y.name.data.toList = r := ⟨_, rfl⟩
  rw [hr] at hcon HR
  clear hr
  go_enter Try.func15, Try.ntmps15
  go_wp2_with (go_at_call 16; refine (hcon _).mono ?_; rintro e w' ⟨rfl, rfl⟩)
  go_ret
  exact ⟨by rw [HR.out]; rfl, 0, _, by rw [alloc_eq_grow, alloc_eq_grow, grow_grow]; rfl⟩
theorem ltOf_cmpA : ltOf cmpA = ltA := by
  funext x y
  exact ltA_cmp x y
/-- the row of amounts that the call owns, sorted by name -/
theorem amtSort_any {base n : Nat} {A : Option Addr} {M : List Amt} {S : List (Key × Int)} (w : World) (hown : Own kAmt 36 base (fun _ => True) w (.slice A M.length n) M) (hM : M ≠ []) (hS : AscK S) (hp : (M.map kvOf).Perm S) (hlen : M.length < 4611686018427387904) :
    Calls Try.prog 14 #[.slice A M.length n, .func (.func 15) #[] #[]] w fun e w' => e = .returned (.tuple #[]) ∧ Own kAmt 36 base (fun _ => True) w' (.slice A M.length n) (S.map amtOf) ∧ w.grownBy w' (Value.slice A M.length n).ownBlock := by
  obtain ⟨cells, ho, hf⟩ := hown
  rcases ho.2 with ⟨-, h0⟩ | ⟨g, cap, cur, hv, hg, hb, hnc, hcap, hcs, htk⟩
  · exact absurd (List.length_eq_zero_iff.1 h0) hM
  · cases hv
    have hff : Flat kAmt (fun _ => True) w M (flatK Amt.cells 2 M.toArray).toList := by
      have := flat_flatK (f := Amt.cells) (n := 2) (hn := by omega) (hl := fun _ => rfl) (h1 := fun x u hu => by simp [Amt.cells] at hu; rcases hu with rfl | rfl <;> rfl) (fun _ => True) w M.toArray
      exact this
    have hflat : cells = (flatK Amt.cells 2 M.toArray).toList := flat_unique (f := Amt.cells) (n := 2) hf hff
    have hH : HoldsK Amt.cells 2 w g 0 M.toArray := holds_of_blockK hb (by rw [← hflat]; have h := htk; rw [show kAmt.sz = 2 from rfl] at h; simpa using h)
    have eg : ∀ args w, (callFunc 15 args).run Try.prog w = .ok (.enter 15 args) w := enters_of Try.func15 (by kernel_rfl) rfl
    have hblk : g < w.heap.size := (Array.getElem?_eq_some_iff.1 hb).1
    have hcmp : CmpLays Try.prog 15 #[] Amt.cells 2 cmpA g 0 M.toArray.size w := fun _ _ _ _ x y => uses2_any x y _
    have hcon := AnyQ.slices_SortFunc Try.sortF 2 Try.isAgg36 Try.sizeOf36 Amt.cells (fun _ => rfl) (fun x v hv => by simp [Amt.cells] at hv; rcases hv with rfl | rfl <;> rfl) cmpA (by rw [ltOf_cmpA]; exact swo_ltA) 15 #[] g 0 n M.toArray w eg hcmp hH hblk (by simpa using hlen)
    change Calls Try.prog 14 _ _ _ at hcon
    rw [ltOf_cmpA, show M.toArray.size = M.length by simp] at hcon
    refine hcon.mono ?_
    rintro e w' ⟨rfl, d', m, os, h1, h2, rfl⟩
    have hd := sorted_is hS (by simpa using hp) (by simpa using h1) (by simpa using h2)
    refine ⟨rfl, ?_, grownBy_sortedK _⟩
    rw [← hd]
    have := own_sortedK (f := Amt.cells) (k := 2) (hk := by omega) (hl := fun _ => rfl) (h1 := fun x u hu => by simp [Amt.cells] at hu; rcases hu with rfl | rfl <;> rfl) (n := m) (os := os) (d := M.toArray) (d' := d') (fun _ => True) (by simpa using h1.1) hg hb (by simpa using hnc) hcap hcs
    rw [show M.toArray.size = M.length by simp] at this
    exact this
end Go.Proofs.Ytdchffghgajbfaa
