/- slices.SortFunc over amounts, in plain words: the one rising list. Rows at two cells an element. No program in sight. -/
import Derived.Test.YtdchffghgajbfaaU5
import Derived.Shelf.GgSortFunc.RowK
import Derived.Sort.Statements
import Derived.Lib.Bytealg
import Derived.Sort.LotA
namespace Go.Proofs.Ytdchffghgajbfaa
open Go.RowKit Go.Sort

def amtOf (p : Key × Int) : Amt := ⟨⟨p.1.toArray⟩, p.2⟩
def kvOf (a : Amt) : Key × Int := (a.name.data.toList, a.val)
theorem kv_amt (p : Key × Int) : kvOf (amtOf p) = p := by simp [kvOf, amtOf]
theorem amt_kv (a : Amt) : amtOf (kvOf a) = a := by simp [kvOf, amtOf]
instance instInhabitedAmt : Inhabited Amt := ⟨⟨⟨#[]⟩, 0⟩⟩
def cmpA (x y : Amt) : Int := Lib.compareBytes x.name.data.toList y.name.data.toList
theorem cmp_lt : ∀ a b : Key, decide (Lib.compareBytes a b < 0) = decide (a < b)
  | [], [] => by simp [Lib.compareBytes]
  | [], b :: l => by simp [Lib.compareBytes]
  | a :: k, [] => by simp [Lib.compareBytes]
  | a :: k, b :: l => by
    unfold Lib.compareBytes
    by_cases h1 : a < b
    · simp [h1, List.cons_lt_cons_iff]
    · by_cases h2 : b < a
      · have h3 : a ≠ b := fun e => by subst e; exact h1 h2
        simp [h1, h2, h3, List.cons_lt_cons_iff]
      · have h3 : a = b := UInt8.le_antisymm (UInt8.not_lt.1 h2) (UInt8.not_lt.1 h1)
        rw [if_neg h1, if_neg h2, cmp_lt k l]
        simp [h3, List.cons_lt_cons_iff]
def ltA (x y : Amt) : Bool := decide (x.name.data.toList < y.name.data.toList)
theorem ltA_cmp (x y : Amt) : decide (cmpA x y < 0) = ltA x y := cmp_lt _ _
theorem swo_ltA : SWO ltA where
  irrefl x := by simp [ltA, List.lt_irrefl]
  trans x y z h1 h2 := by simp only [ltA, decide_eq_true_eq] at *; exact List.lt_trans h1 h2
  ntrans x y z h1 h2 := by
    simp only [ltA, decide_eq_false_iff_not, List.not_lt] at *
    exact List.le_trans h2 h1
/-- a permutation of amounts of different names, sorted by name, is the rising list -/
theorem sorted_is {d d' : Array Amt} {S : List (Key × Int)} (hS : AscK S) (hp : (d.toList.map kvOf).Perm S) (h1 : PermIn 0 d.size d d') (h2 : SortedIn ltA 0 d.size d') : d'.toList = S.map amtOf := by
  obtain ⟨hsz, _, hperm⟩ := h1
  have e1 : d'.extract 0 d.size = d' := by rw [← hsz]; exact Array.extract_size
  rw [e1, Array.extract_size] at hperm
  have hp2 : d'.toList.Perm (S.map amtOf) := by
    have := hp.map amtOf
    rw [List.map_map, show (amtOf ∘ kvOf) = id from funext amt_kv, List.map_id] at this
    exact hperm.trans this
  have hdis : ∀ x ∈ S, ∀ y ∈ S, x.1 = y.1 → x = y := by
    intro x hx y hy e
    obtain ⟨i, hi, rfl⟩ := List.getElem_of_mem hx
    obtain ⟨j, hj, rfl⟩ := List.getElem_of_mem hy
    have hpw := List.pairwise_iff_getElem.1 hS
    rcases Nat.lt_trichotomy i j with h | h | h
    · have := hpw i j hi hj h; rw [e] at this; exact absurd this (List.lt_irrefl _)
    · subst h; rfl
    · have := hpw j i hj hi h; rw [e] at this; exact absurd this (List.lt_irrefl _)
  refine List.Perm.eq_of_pairwise (le := fun x y => (!ltA y x) = true) ?_ ?_ ?_ hp2
  · intro a b ha hb h3 h4
    simp only [Bool.not_eq_true', ltA, decide_eq_false_iff_not, List.not_lt] at h3 h4
    have he : a.name.data.toList = b.name.data.toList := List.le_antisymm h3 h4
    obtain ⟨x, hx, rfl⟩ := List.mem_map.1 (hp2.mem_iff.1 ha)
    obtain ⟨y, hy, rfl⟩ := List.mem_map.1 hb
    simp only [amtOf] at he
    rw [hdis x hx y hy (by simpa using he)]
  · rw [List.pairwise_iff_getElem]
    intro i j hi hj hij
    have hi' : i < d'.size := by simpa using hi
    have hj' : j < d'.size := by simpa using hj
    have := h2 i j (Nat.zero_le _) hij (by omega)
    rw [getElem!_pos d' j hj', getElem!_pos d' i hi'] at this
    simpa using this
  · rw [List.pairwise_map]
    refine hS.imp ?_
    intro x y hxy
    simp only [Bool.not_eq_true', ltA, amtOf, decide_eq_false_iff_not, List.not_lt]
    exact decide_eq_false (List.not_lt.2 (List.le_of_lt hxy))

theorem flat_unique {α : Type} {f : α → List Value} {n : Nat} {hn : 0 < n} {hl : ∀ x, (f x).length = n} {h1 : ∀ x, ∀ u ∈ f x, u.oneCell' = true} {P Q : Nat → Prop} {w w' : World} {xs : List α} {c1 c2 : List Value}
    (a : Flat (Kn.enc f n hn hl h1) P w xs c1) (b : Flat (Kn.enc f n hn hl h1) Q w' xs c2) : c1 = c2 := by
  have l1 : c1.length = xs.length * n := a.1
  have l2 : c2.length = xs.length * n := b.1
  apply List.ext_getElem?
  intro t
  by_cases ht : t < xs.length * n
  · have hi : t / n < xs.length := Nat.div_lt_of_lt_mul (by rwa [Nat.mul_comm] at ht)
    have e1 : (c1.drop (t / n * n)).take n = f xs[t / n] := a.2 _ hi
    have e2 : (c2.drop (t / n * n)).take n = f xs[t / n] := b.2 _ hi
    have hm := Nat.mod_lt t hn
    have h3 : ((c1.drop (t / n * n)).take n)[t % n]? = ((c2.drop (t / n * n)).take n)[t % n]? := by rw [e1, e2]
    rw [List.getElem?_take_of_lt hm, List.getElem?_take_of_lt hm, List.getElem?_drop, List.getElem?_drop, ← mul_div_of t n hn] at h3
    exact h3
  · rw [List.getElem?_eq_none (by omega), List.getElem?_eq_none (by omega)]
theorem flat_flatK {α : Type} [Inhabited α] {f : α → List Value} {n : Nat} {hn : 0 < n} {hl : ∀ x, (f x).length = n} {h1 : ∀ x, ∀ u ∈ f x, u.oneCell' = true} (P : Nat → Prop) (w : World) (d : Array α) :
    Flat (Kn.enc f n hn hl h1) P w d.toList (flatK f n d).toList := by
  refine ⟨by simp; rfl, fun i hi => ?_⟩
  have hi' : i < d.size := by simpa using hi
  show ((flatK f n d).toList.drop (i * n)).take n = f d.toList[i]
  have hmul : i * n + n ≤ d.size * n := by rw [← Nat.succ_mul]; exact Nat.mul_le_mul_right _ hi'
  apply List.ext_getElem?
  intro j
  by_cases hj : j < n
  · rw [List.getElem?_take_of_lt hj, List.getElem?_drop]
    have hlt : i * n + j < d.size * n := by omega
    have hg := get_flatK f n d (i * n + j) hlt
    have e1 : (i * n + j) / n = i := (blk_iff n i _ hn).1 ⟨by omega, by omega⟩
    have e2 : (i * n + j) % n = j := by rw [Nat.mod_eq_sub_div_mul, e1]; omega
    rw [e1, e2, getElem!_pos _ _ (by simpa using hlt), getElem!_pos d i hi', getElem!_pos _ _ (by rw [hl]; exact hj)] at hg
    rw [Array.getElem?_toList, Array.getElem?_eq_getElem (by simpa using hlt), hg]
    simp [hl, hj]
  · rw [List.getElem?_take_eq_none (by omega), List.getElem?_eq_none (by rw [hl]; omega)]

theorem holds_of_blockK {α : Type} [Inhabited α] {f : α → List Value} {k : Nat} {w : World} {g : Nat} {cur : Array Value} {e : TypeId} {d : Array α} (hb : w.heap[g]? = some (.cells cur e (0, 0))) (ht : cur.toList.take (d.size * k) = (flatK f k d).toList) : HoldsK f k w g 0 d := by
  intro j hj
  have hj' : j < d.size * k := by simpa using hj
  refine ⟨?_, by simp [World.frozen?, hb]⟩
  have h1 : (cur.toList.take (d.size * k))[j]? = (flatK f k d).toList[j]? := by rw [ht]
  rw [List.getElem?_take_of_lt hj', Array.getElem?_toList, Array.getElem?_toList, Array.getElem?_eq_getElem (xs := flatK f k d) (by simpa using hj')] at h1
  simp only [World.cell?, hb, Nat.zero_add]
  simp only [Option.isSome_none, Bool.false_eq_true, if_false]
  rw [h1, getElem!_pos _ _ (by simpa using hj')]
  rfl
theorem heap_sortedK {w : World} {g n : Nat} {os : Array Obj} {cur : Array Value} {e : TypeId} {fr : Nat × Nat} (F : Array Value) (hb : w.heap[g]? = some (.cells cur e fr)) :
    (grow (putRow id (Sort.ahead w n) g 0 F) os).heap[g]? = some (.cells (putCells id 0 F cur) e fr) := by
  have hg : g < w.heap.size := (Array.getElem?_eq_some_iff.1 hb).1
  rw [heap_grow_old _ _ (by simpa using hg)]
  simp [putRow, mapBlock, Sort.ahead, Array.getElem?_modify, hb, onCells]
theorem grownBy_sortedK {w : World} {g n : Nat} {os : Array Obj} (F : Array Value) : w.grownBy (grow (putRow id (Sort.ahead w n) g 0 F) os) (some g) := by
  refine ⟨rfl, rfl, rfl, by simp, fun k hk hne => ?_⟩
  rw [heap_grow_old _ _ (by simpa using hk)]
  have : g ≠ k := fun e => hne (by rw [e])
  simp [putRow, mapBlock, Sort.ahead, Array.getElem?_modify, this]
theorem take_putCellsK (cur F : Array Value) (h : F.size ≤ cur.size) : (putCells id 0 F cur).toList.take F.size = F.toList := by
  apply List.ext_getElem?
  intro j
  by_cases hj : j < F.size
  · rw [List.getElem?_take_of_lt hj, Array.getElem?_toList, Array.getElem?_toList]
    simp [putCells, hj, show j < cur.size by omega]
  · rw [List.getElem?_take_eq_none (by omega), List.getElem?_eq_none (by simp; omega)]
/-- BEHIND THE SORT the same slice owns the sorted list. -/
theorem own_sortedK {α : Type} [Inhabited α] {f : α → List Value} {k : Nat} {hk : 0 < k} {hl : ∀ x, (f x).length = k} {h1 : ∀ x, ∀ u ∈ f x, u.oneCell' = true} {w : World} {base g cap n : Nat} {e : TypeId} {os : Array Obj} {cur : Array Value} {d d' : Array α} (P : Nat → Prop) (hs : d'.size = d.size) (hbase : base ≤ g) (hb : w.heap[g]? = some (.cells cur e (0, 0)))
    (h2 : d.size ≤ cap) (h3 : cap ≤ maxLen) (h4 : cur.size = cap * k) :
    Own (Kn.enc f k hk hl h1) e base P (grow (putRowK f k (Sort.ahead w n) g 0 d') os) (.slice (some ⟨g, 0, none⟩) d.size cap) d'.toList := by
  have hmul : d.size * k ≤ cap * k := Nat.mul_le_mul_right _ h2
  refine ⟨(flatK f k d').toList, ⟨by simp; rfl, .inr ⟨g, cap, _, by rw [Array.length_toList, hs], hbase, heap_sortedK _ hb, by rw [Array.length_toList, hs]; exact h2, h3, by simp only [putCells, Array.size_mapIdx]; exact h4, ?_⟩⟩, flat_flatK _ _ _⟩
  have hF : (flatK f k d').size = d'.toList.length * k := by simp
  show (putCells id 0 (flatK f k d') cur).toList.take (d'.toList.length * k) = _
  rw [← hF]
  exact take_putCellsK cur _ (by rw [hF, Array.length_toList, hs, h4]; exact hmul)
end Go.Proofs.Ytdchffghgajbfaa
