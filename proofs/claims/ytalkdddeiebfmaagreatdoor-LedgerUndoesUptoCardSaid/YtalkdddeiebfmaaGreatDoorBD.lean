/- Laid together: V1 V2 V4 V3 V5 V6 V7 V8 V9. -/
import Derived.Test.YtalkdddeiebfmaaGreatDoorBC
import Derived.Shelf.GgSortFunc.RowK
import Derived.Sort.Statements
import Derived.Lib.Bytealg
import Derived.Sort.LotA
import Derived.Test.YtalkdddeiebfmaaGreatDoorBB
import Derived.Test.YtalkdddeiebfmaaGreatDoorSort
import Derived.Test.YtalkdddeiebfmaaGreatDoorShelf
import Derived.Shelf.SlSortCmp.WholeK
import Derived.Maps.RangeWalk
import Derived.Maps.StringElems
import Derived.Sort.KeysCollected
import Derived.Sort.OwnSorted
/- slices.SortFunc over amounts, in plain words: the one rising list. Rows at two cells an element. No program in sight. -/
namespace Go.Proofs.YtalkdddeiebfmaaGreatDoor
open Go.RowKit Go.Sort

def amtOf (p : Key × Int) : Amt := ⟨⟨p.1.toArray⟩, p.2⟩
def kvOf (a : Amt) : Key × Int := (a.name.data.toList, a.val)
theorem kv_amt (p : Key × Int) : kvOf (amtOf p) = p := by simp [kvOf, amtOf]
theorem amt_kv (a : Amt) : amtOf (kvOf a) = a := by simp [kvOf, amtOf]
instance instInhabitedAmt : Inhabited Amt := ⟨⟨⟨#[]⟩, 0⟩⟩
def cmpA (x y : Amt) : Int := Lib.compareBytes x.name.data.toList y.name.data.toList
theorem cmp_lt : ∀ a b : Key, decide (Lib.compareBytes a b < 0) = decide (a < b)
  | [], [] => by simp [Lib.compareBytes]
  | [], b :: l => by simp [Lib.compareBytes]
  | a :: k, [] => by simp [Lib.compareBytes]
  | a :: k, b :: l => by
    unfold Lib.compareBytes
    by_cases h1 : a < b
    · simp [h1, List.cons_lt_cons_iff]
    · by_cases h2 : b < a
      · have h3 : a ≠ b := fun e => by subst e; exact h1 h2
        simp [h1, h2, h3, List.cons_lt_cons_iff]
      · have h3 : a = b := UInt8.le_antisymm (UInt8.not_lt.1 h2) (UInt8.not_lt.1 h1)
        rw [if_neg h1, if_neg h2, cmp_lt k l]
        simp [h3, List.cons_lt_cons_iff]
def ltA (x y : Amt) : Bool := decide (x.name.data.toList < y.name.data.toList)
theorem ltA_cmp (x y : Amt) : decide (cmpA x y < 0) = ltA x y := cmp_lt _ _
theorem swo_ltA : SWO ltA where
  irrefl x := by simp [ltA, List.lt_irrefl]
  trans x y z h1 h2 := by simp only [ltA, decide_eq_true_eq] at *; exact List.lt_trans h1 h2
  ntrans x y z h1 h2 := by
    simp only [ltA, decide_eq_false_iff_not, List.not_lt] at *
    exact List.le_trans h2 h1
/-- a permutation of amounts of different names, sorted by name, is the rising list -/
theorem sorted_is {d d' : Array Amt} {S : List (Key × Int)} (hS : AscK S) (hp : (d.toList.map kvOf).Perm S) (h1 : PermIn 0 d.size d d') (h2 : SortedIn ltA 0 d.size d') : d'.toList = S.map amtOf := by
  obtain ⟨hsz, _, hperm⟩ := h1
  have e1 : d'.extract 0 d.size = d' := by rw [← hsz]; exact Array.extract_size
  rw [e1, Array.extract_size] at hperm
  have hp2 : d'.toList.Perm (S.map amtOf) := by
    have := hp.map amtOf
    rw [List.map_map, show (amtOf ∘ kvOf) = id from funext amt_kv, List.map_id] at this
    exact hperm.trans this
  have hdis : ∀ x ∈ S, ∀ y ∈ S, x.1 = y.1 → x = y := by
    intro x hx y hy e
    obtain ⟨i, hi, rfl⟩ := List.getElem_of_mem hx
    obtain ⟨j, hj, rfl⟩ := List.getElem_of_mem hy
    have hpw := List.pairwise_iff_getElem.1 hS
    rcases Nat.lt_trichotomy i j with h | h | h
    · have := hpw i j hi hj h; rw [e] at this; exact absurd this (List.lt_irrefl _)
    · subst h; rfl
    · have := hpw j i hj hi h; rw [e] at this; exact absurd this (List.lt_irrefl _)
  refine List.Perm.eq_of_pairwise (le := fun x y => (!ltA y x) = true) ?_ ?_ ?_ hp2
  · intro a b ha hb h3 h4
    simp only [Bool.not_eq_true', ltA, decide_eq_false_iff_not, List.not_lt] at h3 h4
    have he : a.name.data.toList = b.name.data.toList := List.le_antisymm h3 h4
    obtain ⟨x, hx, rfl⟩ := List.mem_map.1 (hp2.mem_iff.1 ha)
    obtain ⟨y, hy, rfl⟩ := List.mem_map.1 hb
    simp only [amtOf] at he
    rw [hdis x hx y hy (by simpa using he)]
  · rw [List.pairwise_iff_getElem]
    intro i j hi hj hij
    have hi' : i < d'.size := by simpa using hi
    have hj' : j < d'.size := by simpa using hj
    have := h2 i j (Nat.zero_le _) hij (by omega)
    rw [getElem!_pos d' j hj', getElem!_pos d' i hi'] at this
    simpa using this
  · rw [List.pairwise_map]
    refine hS.imp ?_
    intro x y hxy
    simp only [Bool.not_eq_true', ltA, amtOf, decide_eq_false_iff_not, List.not_lt]
    exact decide_eq_false (List.not_lt.2 (List.le_of_lt hxy))

theorem flat_unique {α : Type} {f : α → List Value} {n : Nat} {hn : 0 < n} {hl : ∀ x, (f x).length = n} {h1 : ∀ x, ∀ u ∈ f x, u.oneCell' = true} {P Q : Nat → Prop} {w w' : World} {xs : List α} {c1 c2 : List Value}
    (a : Flat (Kn.enc f n hn hl h1) P w xs c1) (b : Flat (Kn.enc f n hn hl h1) Q w' xs c2) : c1 = c2 := by
  have l1 : c1.length = xs.length * n := a.1
  have l2 : c2.length = xs.length * n := b.1
  apply List.ext_getElem?
  intro t
  by_cases ht : t < xs.length * n
  · have hi : t / n < xs.length := Nat.div_lt_of_lt_mul (by rwa [Nat.mul_comm] at ht)
    have e1 : (c1.drop (t / n * n)).take n = f xs[t / n] := a.2 _ hi
    have e2 : (c2.drop (t / n * n)).take n = f xs[t / n] := b.2 _ hi
    have hm := Nat.mod_lt t hn
    have h3 : ((c1.drop (t / n * n)).take n)[t % n]? = ((c2.drop (t / n * n)).take n)[t % n]? := by rw [e1, e2]
    rw [List.getElem?_take_of_lt hm, List.getElem?_take_of_lt hm, List.getElem?_drop, List.getElem?_drop, ← mul_div_of t n hn] at h3
    exact h3
  · rw [List.getElem?_eq_none (by omega), List.getElem?_eq_none (by omega)]
theorem flat_flatK {α : Type} [Inhabited α] {f : α → List Value} {n : Nat} {hn : 0 < n} {hl : ∀ x, (f x).length = n} {h1 : ∀ x, ∀ u ∈ f x, u.oneCell' = true} (P : Nat → Prop) (w : World) (d : Array α) :
    Flat (Kn.enc f n hn hl h1) P w d.toList (flatK f n d).toList := by
  refine ⟨by simp; rfl, fun i hi => ?_⟩
  have hi' : i < d.size := by simpa using hi
  show ((flatK f n d).toList.drop (i * n)).take n = f d.toList[i]
  have hmul : i * n + n ≤ d.size * n := by rw [← Nat.succ_mul]; exact Nat.mul_le_mul_right _ hi'
  apply List.ext_getElem?
  intro j
  by_cases hj : j < n
  · rw [List.getElem?_take_of_lt hj, List.getElem?_drop]
    have hlt : i * n + j < d.size * n := by omega
    have hg := get_flatK f n d (i * n + j) hlt
    have e1 : (i * n + j) / n = i := (blk_iff n i _ hn).1 ⟨by omega, by omega⟩
    have e2 : (i * n + j) % n = j := by rw [Nat.mod_eq_sub_div_mul, e1]; omega
    rw [e1, e2, getElem!_pos _ _ (by simpa using hlt), getElem!_pos d i hi', getElem!_pos _ _ (by rw [hl]; exact hj)] at hg
    rw [Array.getElem?_toList, Array.getElem?_eq_getElem (by simpa using hlt), hg]
    simp [hl, hj]
  · rw [List.getElem?_take_eq_none (by omega), List.getElem?_eq_none (by rw [hl]; omega)]

theorem holds_of_blockK {α : Type} [Inhabited α] {f : α → List Value} {k : Nat} {w : World} {g : Nat} {cur : Array Value} {e : TypeId} {d : Array α} (hb : w.heap[g]? = some (.cells cur e (0, 0))) (ht : cur.toList.take (d.size * k) = (flatK f k d).toList) : HoldsK f k w g 0 d := by
  intro j hj
  have hj' : j < d.size * k := by simpa using hj
  refine ⟨?_, by simp [World.frozen?, hb]⟩
  have h1 : (cur.toList.take (d.size * k))[j]? = (flatK f k d).toList[j]? := by rw [ht]
  rw [List.getElem?_take_of_lt hj', Array.getElem?_toList, Array.getElem?_toList, Array.getElem?_eq_getElem (xs := flatK f k d) (by simpa using hj')] at h1
  simp only [World.cell?, hb, Nat.zero_add]
  simp only [Option.isSome_none, Bool.false_eq_true, if_false]
  rw [h1, getElem!_pos _ _ (by simpa using hj')]
  rfl
theorem heap_sortedK {w : World} {g n : Nat} {os : Array Obj} {cur : Array Value} {e : TypeId} {fr : Nat × Nat} (F : Array Value) (hb : w.heap[g]? = some (.cells cur e fr)) :
    (grow (putRow id (Sort.ahead w n) g 0 F) os).heap[g]? = some (.cells (putCells id 0 F cur) e fr) := by
  have hg : g < w.heap.size := (Array.getElem?_eq_some_iff.1 hb).1
  rw [heap_grow_old _ _ (by simpa using hg)]
  simp [putRow, mapBlock, Sort.ahead, Array.getElem?_modify, hb, onCells]
theorem grownBy_sortedK {w : World} {g n : Nat} {os : Array Obj} (F : Array Value) : w.grownBy (grow (putRow id (Sort.ahead w n) g 0 F) os) (some g) := by
  refine ⟨rfl, rfl, rfl, by simp, fun k hk hne => ?_⟩
  rw [heap_grow_old _ _ (by simpa using hk)]
  have : g ≠ k := fun e => hne (by rw [e])
  simp [putRow, mapBlock, Sort.ahead, Array.getElem?_modify, this]
theorem take_putCellsK (cur F : Array Value) (h : F.size ≤ cur.size) : (putCells id 0 F cur).toList.take F.size = F.toList := by
  apply List.ext_getElem?
  intro j
  by_cases hj : j < F.size
  · rw [List.getElem?_take_of_lt hj, Array.getElem?_toList, Array.getElem?_toList]
    simp [putCells, hj, show j < cur.size by omega]
  · rw [List.getElem?_take_eq_none (by omega), List.getElem?_eq_none (by simp; omega)]
/-- BEHIND THE SORT the same slice owns the sorted list. -/
theorem own_sortedK {α : Type} [Inhabited α] {f : α → List Value} {k : Nat} {hk : 0 < k} {hl : ∀ x, (f x).length = k} {h1 : ∀ x, ∀ u ∈ f x, u.oneCell' = true} {w : World} {base g cap n : Nat} {e : TypeId} {os : Array Obj} {cur : Array Value} {d d' : Array α} (P : Nat → Prop) (hs : d'.size = d.size) (hbase : base ≤ g) (hb : w.heap[g]? = some (.cells cur e (0, 0)))
    (h2 : d.size ≤ cap) (h3 : cap ≤ maxLen) (h4 : cur.size = cap * k) :
    Own (Kn.enc f k hk hl h1) e base P (grow (putRowK f k (Sort.ahead w n) g 0 d') os) (.slice (some ⟨g, 0, none⟩) d.size cap) d'.toList := by
  have hmul : d.size * k ≤ cap * k := Nat.mul_le_mul_right _ h2
  refine ⟨(flatK f k d').toList, ⟨by simp; rfl, .inr ⟨g, cap, _, by rw [Array.length_toList, hs], hbase, heap_sortedK _ hb, by rw [Array.length_toList, hs]; exact h2, h3, by simp only [putCells, Array.size_mapIdx]; exact h4, ?_⟩⟩, flat_flatK _ _ _⟩
  have hF : (flatK f k d').size = d'.toList.length * k := by simp
  show (putCells id 0 (flatK f k d') cur).toList.take (d'.toList.length * k) = _
  rw [← hF]
  exact take_putCellsK cur _ (by rw [hF, Array.length_toList, hs, h4]; exact hmul)
end Go.Proofs.YtalkdddeiebfmaaGreatDoor
/- scope.Uses in plain words: the sums while they grow; what a walk over the map has met. -/
namespace Go.Proofs.YtalkdddeiebfmaaGreatDoor
open Go.RowKit Go.Maps Go.WideMaps

theorem sumsA_append (S : List (Key × Int)) (l r : List (Key × Int)) : sumsA S (l ++ r) = (sumsA S l).bind fun T => sumsA T r := by
  induction l generalizing S with
  | nil => rfl
  | cons a l ih =>
    simp only [List.cons_append, sumsA]
    split
    · rfl
    · exact ih _
def sums0 : List (Key × Int) := [(countK, 1000)]
/-- the sums behind j amounts; the map holds just these -/
structure SumAt {H : Type} (L : List (Key × Int)) (j : Nat) (D : DataW H) (S : List (Key × Int)) : Prop where
  rel : ValRel D S
  asc : AscK S
  sum : sumsA sums0 (L.take j) = some S
  pos : ∀ x, 0 ≤ getK x S ∧ getK x S ≤ 9223372036854775807
  cnt : countK ∈ S.map Prod.fst
section
variable {H : Type} {D : DataW H} {L S : List (Key × Int)} {j : Nat}
theorem SumAt.start (L : List (Key × Int)) : SumAt (H := H) L 0 (DataW.put (.map []) (.string countK) (.lit (.int .i64 1000))) sums0 := by
  refine ⟨ValRel.empty.put countK 1000, List.pairwise_singleton _ _, by simp [sumsA], fun x => ?_, by simp [sums0]⟩
  have := getK_addK countK 1000 [] x
  show 0 ≤ getK x (addK countK 1000 []) ∧ getK x (addK countK 1000 []) ≤ _
  rw [this]
  split
  · omega
  · simp [getK]
theorem SumAt.look (h : SumAt L j D S) (x : Key) {c : Int} (hc : D.atKey (.string x) (.lit (.int .i64 0)) = .lit (.int .i64 c)) : c = getK x S := by
  have := h.rel.look (fun x z hz => atKey_of_not_has hz z) x
  rw [hc] at this
  cases this
  rfl
theorem SumAt.over (h : SumAt L j D S) (hj : j < L.length) (ho : getK L[j].1 S > 9223372036854775807 - L[j].2) : sumsA sums0 L = none := by
  have h1 : L = L.take j ++ L[j] :: L.drop (j + 1) := by rw [← List.drop_eq_getElem_cons hj, List.take_append_drop]
  rw [h1, sumsA_append, h.sum]
  show sumsA S (L[j] :: L.drop (j + 1)) = none
  simp only [sumsA]
  rw [if_pos ho]
theorem SumAt.step (h : SumAt L j D S) (hj : j < L.length) {k : Key} {v : Int} (hk : L[j] = (k, v)) (hv : 0 ≤ v) (ho : ¬ getK k S > 9223372036854775807 - v) :
    SumAt L (j + 1) (D.put (.string k) (.lit (.int .i64 (getK k S + v)))) (addK k (getK k S + v) S) := by
  refine ⟨h.rel.put _ _, addK_asc _ _ _ h.asc, ?_, fun x => ?_, (addK_keys _ _ _ _).2 (.inr h.cnt)⟩
  · rw [List.take_succ_eq_append_getElem hj, sumsA_append, h.sum, hk]
    show sumsA S [(k, v)] = _
    simp only [sumsA]
    rw [if_neg ho]
  · rw [getK_addK]
    have := h.pos k
    split
    · omega
    · exact h.pos x
end
theorem ascK_nodup {S : List (Key × Int)} (h : AscK S) : (S.map Prod.fst).Nodup := by
  refine List.pairwise_map.2 (h.imp ?_)
  intro p q hpq e
  rw [e] at hpq
  exact absurd hpq (List.lt_irrefl _)
theorem getK_mem : ∀ {S : List (Key × Int)}, AscK S → ∀ p ∈ S, getK p.1 S = p.2
  | [], _, p, hp => by simp at hp
  | q :: S, h, p, hp => by
    unfold getK
    rcases List.mem_cons.1 hp with rfl | hp'
    · rw [List.find?_cons_of_pos (by simp)]; rfl
    · have hlt := (List.pairwise_cons.1 h).1 p hp'
      have hne : q.1 ≠ p.1 := fun e => by rw [e] at hlt; exact absurd hlt (List.lt_irrefl _)
      rw [List.find?_cons_of_neg (by simpa using hne)]
      exact getK_mem (List.pairwise_cons.1 h).2 p hp'
/-- what the walk over the map has met -/
structure KvC {H : Type} (D : DataW H) (S : List (Key × Int)) (left : Lit → Bool) (M : List Amt) : Prop where
  col : Collected D left ((M.map kvOf).map Prod.fst)
  val : ∀ p ∈ M.map kvOf, p.2 = getK p.1 S
section
variable {H : Type} {D : DataW H} {S : List (Key × Int)} {left : Lit → Bool} {M : List Amt}
theorem KvC.start (D : DataW H) (S : List (Key × Int)) : KvC D S (has D) [] := ⟨Collected.start D, fun p hp => by simp at hp⟩
theorem KvC.step (h : KvC D S left M) (hr : ValRel D S) {x : Key} {c : Int} (hlk : left (.string x) = true) (hat : ∀ zd, D.atKey (.string x) zd = .lit (.int .i64 c)) : KvC D S (fun z => left z && !z.sameKey (.string x)) (M ++ [amtOf (x, c)]) := by
  have hc : c = getK x S := by
    have h1 : has D (.string x) = true := has_true_of_atKey hat
    rw [hr.2.1 x] at h1
    have h2 := hr.2.2 x (of_decide_eq_true h1) (.lit (.int .i64 0))
    rw [hat] at h2
    cases h2; rfl
  refine ⟨?_, fun p hp => ?_⟩
  · have := h.col.step hlk hat
    rw [List.map_append, List.map_append]
    simpa [kvOf, amtOf] using this
  · rw [List.map_append] at hp
    rcases List.mem_append.1 hp with hp | hp
    · exact h.val p hp
    · simp only [List.map_cons, List.map_nil, List.mem_singleton, kv_amt] at hp
      subst hp
      exact hc
theorem KvC.perm (h : KvC D S left M) (hr : ValRel D S) (hS : AscK S) (hl : ∀ kl, left kl = false) : (M.map kvOf).Perm S := by
  have hk : ((M.map kvOf).map Prod.fst).Perm (S.map Prod.fst) := by
    refine (List.perm_ext_iff_of_nodup h.col.1 (ascK_nodup hS)).2 fun x => ?_
    rw [h.col.2 x, hr.2.1 x]
    simp [hl]
  have e1 : ∀ T : List (Key × Int), (∀ p ∈ T, p.2 = getK p.1 S) → T = (T.map Prod.fst).map fun k => (k, getK k S) := by
    intro T hT
    rw [List.map_map]
    conv => lhs; rw [← List.map_id T]
    exact List.map_congr_left fun p hp => by simp [← hT p hp]
  rw [e1 _ h.val]
  conv => rhs; rw [e1 S (fun p hp => (getK_mem hS p hp).symm)]
  exact hk.map _
end

/-- an entry of a map literal -/
theorem wpList_insert_own {H : Type} {P : Program} (w : World) {ops : Array Oper} {rest : List Oper} {o : Oper} {a : Act} {Q : Exit → Act → World → Prop}
    (hg : o.guard = none) (m x v : Operand) (t : TypeId) (hop : o.op = Op.insert t m x v)
    (k e : TypeId) (K : Keyed P k) (ht : P.underlying t = some (.map k e)) (R : Value → Option (DataW H × List MemPlace)) (b n : Nat) (D : DataW H)
    (hm : a.eval m = .map (some b)) (hown : w.ownsMap P k R b n D) (hn : n < maxLen) (key val : Value) (kl : Lit) (hx : a.eval x = key) (hv : a.eval v = val) (hkey : keyOf P k key = some kl)
    (d : DataW H) (ps : List MemPlace) (hval : R val = some (d, ps))
    (hK : ∀ w', w'.ownsMap P k R b (n + 1) (D.put kl d) → w.grownBy w' (some b) → wpList P ops Q rest (a.put o.dst undef) w') :
    wpList P ops Q (o :: rest) a w := by
  refine wpList_plain hg fun K' hK' => ?_
  obtain ⟨w', hrun, r1, r2⟩ := hown.update K ht hn hkey hval
  unfold Oper.wp
  simp [execOp, hop, hm, hx, hv, hrun, Result.andThen]
  exact hK' _ _ (hK w' r1 r2)
end Go.Proofs.YtalkdddeiebfmaaGreatDoor
/- slices.SortFunc at amounts, by name: the row holds the one rising list. -/
namespace Go.Proofs.YtalkdddeiebfmaaGreatDoor
open Go.RowKit Go.Sort Go.Shelf Go.Lib

theorem uses2_any (x y : Amt) (W : World) : Calls Tryz.prog 64 #[.agg #[.string x.name, .int .i64 x.val], .agg #[.string y.name, .int .i64 y.val]] W fun e w' => e = .returned (.int .i64 (cmpA x y)) ∧ ∃ q os', w' = grow (W.drewN q) os' := by
  have hcon := fun W' => Tryz.strings_Compare x.name y.name W'
  have HR := Lib.hid (show cmpA x y = Lib.compareBytes x.name.data.toList y.name.data.toList from rfl)
  obtain ⟨r, hr⟩ : ∃ r, Lib.compareBytes x.name.data.toList y.name.data.toList = r := ⟨_, rfl⟩
  rw [hr] at hcon HR
  clear hr
  go_enter Tryz.func64, Tryz.ntmps64
  go_wp2_with (go_at_call 65; refine (hcon _).mono ?_; rintro e w' ⟨rfl, rfl⟩)
  go_ret
  exact ⟨by rw [HR.out]; rfl, 0, _, by rw [alloc_eq_grow, alloc_eq_grow, grow_grow]; rfl⟩
theorem ltOf_cmpA : ltOf cmpA = ltA := by
  funext x y
  exact ltA_cmp x y
/-- the row of amounts that the call owns, sorted by name -/
theorem amtSort_any {base n : Nat} {A : Option Addr} {M : List Amt} {S : List (Key × Int)} (w : World) (hown : Own kAmt 45 base (fun _ => True) w (.slice A M.length n) M) (hM : M ≠ []) (hS : AscK S) (hp : (M.map kvOf).Perm S) (hlen : M.length < 4611686018427387904) :
    Calls Tryz.prog 63 #[.slice A M.length n, .func (.func 64) #[] #[]] w fun e w' => e = .returned (.tuple #[]) ∧ Own kAmt 45 base (fun _ => True) w' (.slice A M.length n) (S.map amtOf) ∧ w.grownBy w' (Value.slice A M.length n).ownBlock := by
  obtain ⟨cells, ho, hf⟩ := hown
  rcases ho.2 with ⟨-, h0⟩ | ⟨g, cap, cur, hv, hg, hb, hnc, hcap, hcs, htk⟩
  · exact absurd (List.length_eq_zero_iff.1 h0) hM
  · cases hv
    have hff : Flat kAmt (fun _ => True) w M (flatK Amt.cells 2 M.toArray).toList := by
      have := flat_flatK (f := Amt.cells) (n := 2) (hn := by omega) (hl := fun _ => rfl) (h1 := fun x u hu => by simp [Amt.cells] at hu; rcases hu with rfl | rfl <;> rfl) (fun _ => True) w M.toArray
      exact this
    have hflat : cells = (flatK Amt.cells 2 M.toArray).toList := flat_unique (f := Amt.cells) (n := 2) hf hff
    have hH : HoldsK Amt.cells 2 w g 0 M.toArray := holds_of_blockK hb (by rw [← hflat]; have h := htk; rw [show kAmt.sz = 2 from rfl] at h; simpa using h)
    have eg : ∀ args w, (callFunc 64 args).run Tryz.prog w = .ok (.enter 64 args) w := enters_of Tryz.func64 (by kernel_rfl) rfl
    have hblk : g < w.heap.size := (Array.getElem?_eq_some_iff.1 hb).1
    have hcmp : CmpLays Tryz.prog 64 #[] Amt.cells 2 cmpA g 0 M.toArray.size w := fun _ _ _ _ x y => uses2_any x y _
    have hcon := AnyQ.slices_SortFunc Tryz.sortF 2 Tryz.isAgg45 Tryz.sizeOf45 Amt.cells (fun _ => rfl) (fun x v hv => by simp [Amt.cells] at hv; rcases hv with rfl | rfl <;> rfl) cmpA (by rw [ltOf_cmpA]; exact swo_ltA) 64 #[] g 0 n M.toArray w eg hcmp hH hblk (by simpa using hlen)
    change Calls Tryz.prog 63 _ _ _ at hcon
    rw [ltOf_cmpA, show M.toArray.size = M.length by simp] at hcon
    refine hcon.mono ?_
    rintro e w' ⟨rfl, d', m, os, h1, h2, rfl⟩
    have hd := sorted_is hS (by simpa using hp) (by simpa using h1) (by simpa using h2)
    refine ⟨rfl, ?_, grownBy_sortedK _⟩
    rw [← hd]
    have := own_sortedK (f := Amt.cells) (k := 2) (hk := by omega) (hl := fun _ => rfl) (h1 := fun x u hu => by simp [Amt.cells] at hu; rcases hu with rfl | rfl <;> rfl) (n := m) (os := os) (d := M.toArray) (d' := d') (fun _ => True) (by simpa using h1.1) hg hb (by simpa using hnc) hcap hcs
    rw [show M.toArray.size = M.length by simp] at this
    exact this
end Go.Proofs.YtalkdddeiebfmaaGreatDoor
/- scope.Uses: the walk. -/
namespace Go.Proofs.YtalkdddeiebfmaaGreatDoor
open Go.RowKit Go.Maps Go.WideMaps

def reqB : ByteArray := ⟨#[114, 101, 113, 117, 101, 115, 116, 115, 46]⟩
def limB : ByteArray := ⟨#[108, 105, 109, 105, 116, 115, 46]⟩
def preB (s : ByteArray) (a : Amt) : Amt := ⟨s ++ a.name, a.val⟩
theorem kv_pre (s : ByteArray) (a : Amt) : kvOf (preB s a) = preA s.data.toList a := by simp [kvOf, preB, preA]
/-- all amounts, as the program lays them -/
def allB (ps : List PartV) : List Amt := ps.flatMap fun p => p.req.map (preB reqB) ++ p.lim.map (preB limB)
theorem allB_kv (ps : List PartV) : (allB ps).map kvOf = allA ps := by
  unfold allB allA
  rw [List.map_flatMap]
  congr 1
  funext p
  rw [List.map_append, List.map_map, List.map_map]
  congr 1 <;> exact List.map_congr_left fun a _ => kv_pre _ a
/-- no name is too long to stand behind another word; an amount is one of 64 bits -/
structure AmtOk (a : Amt) : Prop where
  name : a.name.size ≤ 1152921504606846976
  lo : -9223372036854775808 ≤ a.val
  hi : a.val ≤ 9223372036854775807
def NamesOk (ps : List PartV) : Prop := ∀ p ∈ ps, (∀ a ∈ p.req, AmtOk a) ∧ ∀ a ∈ p.lim, AmtOk a
structure PreOk (a : Amt) : Prop where
  name : a.name.size ≤ maxLen
  lo : -9223372036854775808 ≤ a.val
  hi : a.val ≤ 9223372036854775807
theorem preOk {s : ByteArray} {a : Amt} (hs : s.size ≤ 9) (h : AmtOk a) : PreOk (preB s a) := ⟨by have := h.name; simp only [preB, ByteArray.size_append]; unfold maxLen; omega, h.lo, h.hi⟩
theorem allB_ok {ps : List PartV} (h : NamesOk ps) : ∀ a ∈ allB ps, PreOk a := by
  intro a ha
  obtain ⟨p, hp, hap⟩ := List.mem_flatMap.1 ha
  rcases List.mem_append.1 hap with hap | hap
  · obtain ⟨b, hb, rfl⟩ := List.mem_map.1 hap
    exact preOk (by decide) ((h p hp).1 b hb)
  · obtain ⟨b, hb, rfl⟩ := List.mem_map.1 hap
    exact preOk (by decide) ((h p hp).2 b hb)
theorem any_neg (L : List Amt) : (L.map kvOf).any (fun a => decide (a.2 < 0)) = L.any negA := by rw [List.any_map]; rfl
theorem usesV_neg {ps : List PartV} (h : (allB ps).any negA = true) : usesV ps = ([], 1) := by unfold usesV; rw [← allB_kv, any_neg, if_pos h]
theorem usesV_over {ps : List PartV} (h : (allB ps).any negA = false) (h2 : sumsA sums0 ((allB ps).map kvOf) = none) : usesV ps = ([], 7) := by
  unfold usesV; rw [← allB_kv, any_neg, if_neg (by rw [h]; simp)]
  unfold sums0 at h2; rw [h2]
theorem usesV_ok {ps : List PartV} {S : List (Key × Int)} (h : (allB ps).any negA = false) (h2 : sumsA sums0 ((allB ps).map kvOf) = some S) : usesV ps = (S, 0) := by
  unfold usesV; rw [← allB_kv, any_neg, if_neg (by rw [h]; simp)]
  unfold sums0 at h2; rw [h2]
def UsesPost (ps : List PartV) (w : World) (e : Ending) (w' : World) : Prop :=
  ∃ A c, e = .returned (.tuple #[.slice A (usesV ps).1.length c, .int .i64 (usesV ps).2]) ∧ Own kAmt 45 w.heap.size (fun _ => True) w' (.slice A (usesV ps).1.length c) ((usesV ps).1.map amtOf) ∧ Below w.heap.size w w'
theorem UsesPost.none {ps : List PartV} {w w' : World} {x : Int} (h : usesV ps = ([], x)) (hb : Below w.heap.size w w') : UsesPost ps w (.returned (.tuple #[.slice none 0 0, .int .i64 x])) w' := by
  unfold UsesPost
  rw [h]
  exact ⟨_, _, rfl, Own.nil _ _ _ _ _, hb⟩
theorem zeroI64 (w : World) : (zeroValue 2).run Tryz.prog w = .ok (.int .i64 0) w := by kernel_rfl
theorem wf64 {x : Int} (h1 : -9223372036854775808 ≤ x) (h2 : x ≤ 9223372036854775807) : (Lit.int .i64 x).wf = true := by simp [Lit.wf, IntKind.min, IntKind.max, IntKind.bits, IntKind.signed]; omega
theorem allB_take {ps : List PartV} {k : Nat} (h : k < ps.length) : allB (ps.take (k + 1)) = allB (ps.take k) ++ (ps[k].req.map (preB reqB) ++ ps[k].lim.map (preB limB)) := by
  rw [List.take_succ_eq_append_getElem h]
  unfold allB
  rw [List.flatMap_append]
  simp
theorem allB_len_take {ps : List PartV} (k : Nat) : (allB (ps.take k)).length ≤ (allB ps).length := by
  have h : allB ps = allB (ps.take k) ++ allB (ps.drop k) := by
    unfold allB
    rw [← List.flatMap_append, List.take_append_drop]
  rw [h, List.length_append]; omega
/-- up to which amount all are laid -/
structure AllAt (o : ObjV) (b0 : Nat) (w0 wr : World) (lv : Value) (L : List Amt) : Prop where
  own : Own kAmt 45 b0 (fun _ => True) wr lv L
  below : Below b0 w0 wr
theorem AllAt.mono_below {o : ObjV} {b0 : Nat} {w0 wr w' : World} {lv : Value} {L : List Amt} (h : AllAt o b0 w0 wr lv L) (hb : Below wr.heap.size wr w') (h0 : b0 ≤ wr.heap.size) : AllAt o b0 w0 w' lv L := ⟨h.own.below hb, h.below.trans (hb.mono h0)⟩
/-- the box of a part, beside the list that grows -/
structure BoxAt (q : Nat) (wr : World) (lv u : Value) : Prop where
  lt : q < wr.heap.size
  c2 : wr.cell? ⟨q, 2, none⟩ = some u
  ne : lv.ownBlock ≠ some q
theorem BoxAt.below {q : Nat} {wr w' : World} {lv u : Value} (h : BoxAt q wr lv u) (hb : Below wr.heap.size wr w') : BoxAt q w' lv u := ⟨Nat.lt_of_lt_of_le h.lt hb.size, (hb.cell (p := ⟨q, 2, none⟩) h.lt).trans h.c2, h.ne⟩
theorem cell_grown {w w' : World} {v : Value} (hg : w.grownBy w' v.ownBlock) (p : Addr) (hl : p.block < w.heap.size) (hn : v.ownBlock ≠ some p.block) : w'.cell? p = w.cell? p := by
  unfold World.cell?
  rw [hg.block p.block hl (fun e => hn e.symm)]
theorem BoxAt.app {q base e : Nat} {R : Nat → Prop} {wr w' : World} {lv lv' u : Value} {zs : List Amt} (h : BoxAt q wr lv u) (ha : Appended kAmt e base R wr w' lv lv' zs) : BoxAt q w' lv' u := by
  refine ⟨Nat.lt_of_lt_of_le h.lt ha.grown.size, (cell_grown ha.grown ⟨q, 2, none⟩ h.lt h.ne).trans h.c2, ?_⟩
  rcases ha.at_ with h1 | h1
  · rw [h1]; exact h.ne
  · rw [h1]; intro h2
    have := Option.some.inj h2
    have := h.lt
    omega
theorem PartAt.below {P : Nat → Prop} {w w' : World} {a : Addr} {x : PartV} {R M : Option Addr} {cr cm : Nat} (h : PartAt P w a x R M cr cm) (hb : Below w.heap.size w w') : PartAt P w' a x R M cr cm :=
  ⟨(hb.cell (World.block_lt_of_cell? _ _ h.c0)).trans h.c0, (hb.cell (p := ⟨a.block, a.off + 1, none⟩) (World.block_lt_of_cell? _ _ h.c1)).trans h.c1, (hb.cell (p := ⟨a.block, a.off + 2, none⟩) (World.block_lt_of_cell? _ _ h.c2)).trans h.c2, h.r1.below hb, h.r2.below hb, h.l1, h.l2⟩
theorem AllAt.app {o : ObjV} {b0 : Nat} {w0 wr wx w' : World} {lv lv' : Value} {L zs : List Amt} (h : AllAt o b0 w0 wr lv L) (hx : Below wr.heap.size wr wx) (h0 : b0 ≤ wr.heap.size) (ha : Appended kAmt 45 b0 (fun _ => True) wx w' lv lv' zs) : AllAt o b0 w0 w' lv' zs :=
  ⟨ha.own, ha.below (h.below.trans (hx.mono h0)) (Nat.le_trans h0 hx.size) (fun q hq => (h.own.block_lt q hq).1)⟩
/-- the step of a range over a map: keys are strings, elements are of an int's kind -/
theorem wpList_next_ranges_si {H : Type} {P : Program} (w : World) {ops : Array Oper} {rest : List Oper} {o : Oper} {a : Act} {Q : Exit → Act → World → Prop}
    (hg : o.guard = none) (it : Operand) (hop : o.op = Op.next it false) (k e : TypeId) (qe : IntKind) (K : Keyed P k) (hk : P.underlying k = some .string) (he : P.underlying e = some (.int qe))
    (b r n : Nat) (D : DataW H) (left : Lit → Bool) (cnt : Nat) (hit : a.eval it = .pointer (some ⟨r, 0, none⟩)) (h : w.ranges P k (plainElem P e) b r n D left cnt)
    (hDone : cnt = 0 → (∀ kl, left kl = false) → wpList P ops Q rest (a.put o.dst (.tuple #[.bool false])) w)
    (hMore : ∀ (x : List UInt8) (c : Int) (w' : World) (cnt' : Nat), left (.string x) = true → (∀ zd, D.atKey (.string x) zd = .lit (.int qe c)) → w'.ranges P k (plainElem P e) b r n D (fun z => left z && !z.sameKey (.string x)) cnt' → cnt' < cnt →
      w.grownBy w' (some r) → w'.heap.size = w.heap.size → (Instr.entry (.pointer (some ⟨r, 0, none⟩))).run P w' = .ok (.tuple #[.string (mkB x), .int qe c]) w' → wpList P ops Q rest (a.put o.dst (.tuple #[.bool true, .string (mkB x), .int qe c])) w') :
    wpList P ops Q (o :: rest) a w :=
  wpList_next_ranges w hg it hop k K (plainElem P e) (fun x => .string (mkB x)) (Value.int qe) (fun key kl hkey => by obtain ⟨x, rfl, _⟩ := Maps.keyOf_str hk hkey; exact ⟨x, rfl⟩) (fun v y hv => by obtain ⟨c, rfl, _⟩ := plainElem_int_inv he hv; exact ⟨c, rfl⟩)
    b r n D left cnt hit h hDone (fun x c kl y w' cnt' hkey hlk hv hat hrg hlt hgr hsz hen => by
      obtain ⟨x', ex, rfl, hwx⟩ := Maps.keyOf_str hk hkey
      obtain rfl : x = x' := by
        have h1 := congrArg (fun v => match v with | .string s => s.data.toList | _ => []) ex
        simpa [mkB, encStr] using h1
      obtain ⟨c', ec, rfl, hwc⟩ := plainElem_int_inv he hv
      cases ec
      exact hMore x c w' cnt' hlk hat hrg hlt hgr hsz hen)

set_option maxRecDepth 100000 in
set_option maxHeartbeats 1000000 in
theorem uses_any (o : ObjV) (A : Option Addr) (c : Nat) (P : Nat → Prop) (w : World) (ho : ObjOk w o A P) (hN : NamesOk o.parts) (hT : (allB o.parts).length ≤ 1099511627776) : Calls Tryz.prog 29 #[o.val A c] w (UsesPost o.parts w) := by
  obtain ⟨B0, n0, m0, hlab⟩ := ho.lab
  have hb0 : Below w.heap.size w (w.alloc (.cells (o.cells A c) 26)) := (Below.refl _ _).alloc (Nat.le_refl _) _
  have hob := objAt_new w o A c
  have hok := ho.below hb0
  unfold ObjV.val
  obtain ⟨w0, hw0⟩ : ∃ w0, w.alloc (.cells (o.cells A c) 26) = w0 := ⟨_, rfl⟩
  rw [hw0] at hb0 hob hok
  unfold ObjV.cells at hw0
  rw [hlab] at hw0 ⊢
  obtain ⟨p0, p1, p2, p3, p4, p5, p6⟩ := hob
  rw [hlab] at p2
  have HB0 := Lib.hid hb0
  have OK := Lib.hid hok
  have HT := Lib.hid hT
  have HN := Lib.hid hN
  have hlen := ho.len
  clear hb0 hok hlab hT hN
  go_enter Tryz.func29, Tryz.ntmps29
  go_wp2
  clear p0 p1 p2 p3 p4 p5 p6
  clear hw0
  go_loopw [4, 22] (fun lv iv wr => ∃ (k n : Nat) (B : Option Addr), iv = .int .i64 k ∧ lv = .slice B (allB (o.parts.take k)).length n ∧ k ≤ o.parts.length ∧ Hid (AllAt o w0.heap.size w0 wr lv (allB (o.parts.take k)))) (fun _ iv _ => o.parts.length - (intOf iv).toNat)
  case atStart => exact ⟨0, 0, none, rfl, rfl, Nat.zero_le _, ⟨Own.nil _ _ _ _ _, Below.refl _ _⟩⟩
  case round =>
    obtain ⟨k, n, B, rfl, rfl, hk, hall⟩ := hrel
    obtain ⟨wo, rfl⟩ : ∃ wo, wo = wr := ⟨_, rfl⟩
    by_cases hlt : k < o.parts.length
    · obtain ⟨a, R, M, cr, cm, rfl, hpa⟩ := part_at OK.out.row k hlt
      obtain ⟨x, hx⟩ : ∃ x, o.parts[k] = x := ⟨_, rfl⟩
      obtain ⟨L0, hL0⟩ : ∃ L0, allB (o.parts.take k) = L0 := ⟨_, rfl⟩
      have HSTEP := Lib.hid (show allB (o.parts.take (k + 1)) = L0 ++ (x.req.map (preB reqB) ++ x.lim.map (preB limB)) by rw [allB_take hlt, hx, hL0])
      have hsize : L0.length + (x.req.length + x.lim.length) ≤ 1099511627776 := by
        have h1 := allB_len_take (ps := o.parts) (k + 1)
        rw [HSTEP.out] at h1
        simp only [List.length_append, List.length_map] at h1
        exact Nat.le_trans h1 HT.out
      have HNX := Lib.hid (show (∀ a ∈ x.req, AmtOk a) ∧ ∀ a ∈ x.lim, AmtOk a by rw [← hx]; exact HN.out _ (List.getElem_mem _))
      rw [hx] at hpa
      rw [hL0] at hall ⊢
      clear hx hL0
      have R1 := Lib.hid hpa.r1
      have R2 := Lib.hid hpa.r2
      obtain ⟨e0, e1, e2, -, -, -, -⟩ := hpa.below hall.out.below
      clear hpa
      obtain ⟨nr, hnr⟩ : ∃ nr, x.req.length = nr := ⟨_, rfl⟩
      obtain ⟨nm, hnm⟩ : ∃ nm, x.lim.length = nm := ⟨_, rfl⟩
      rw [hnr] at e1 hsize
      rw [hnm] at e2 hsize
      have HNR := Lib.hid hnr
      have HNM := Lib.hid hnm
      have hsz := hall.out.below.size
      have HB1 := Lib.hid ((Below.refl wo.heap.size wo).alloc (Nat.le_refl _) (.cells #[.string x.name, .slice R nr cr, .slice M nm cm] 43))
      have hbb := heap_alloc_new wo (.cells #[.string x.name, .slice R nr cr, .slice M nm cm] 43)
      have HBX := Lib.hid (show BoxAt wo.heap.size (wo.alloc (.cells #[.string x.name, .slice R nr cr, .slice M nm cm] 43)) (.slice B L0.length n) (.slice M nm cm) from
        ⟨by simp, (cell_of_row _ _ _ _ _ _ hbb).trans rfl, fun e => by have := (hall.out.own.block_lt _ e).2; omega⟩)
      clear hnr hnm hbb
      go_wp2
      go_loopw [4, 29] (fun lv iv wr => ∃ (j n : Nat) (B : Option Addr) (L : List Amt), iv = .int .i64 j ∧ lv = .slice B L.length n ∧ j ≤ nr ∧ Hid (AllAt o w0.heap.size w0 wr lv L) ∧ Hid (BoxAt wo.heap.size wr lv (.slice M nm cm)) ∧ Hid (L.length = L0.length + j) ∧ Hid (L = L0 ++ (x.req.take j).map (preB reqB))) (fun _ iv _ => nr - (intOf iv).toNat)
      case atStart => exact ⟨0, n, B, L0, rfl, rfl, Nat.zero_le _, hall.out.mono_below HB1.out hsz, HBX.out, rfl, by simp [Hid]⟩
      case round =>
        obtain ⟨j, n2, B2, L, rfl, rfl, hj, hall2, hbx, hL, HL⟩ := hrel
        obtain ⟨wp, rfl⟩ : ∃ wp, wp = wr := ⟨_, rfl⟩
        by_cases hlt2 : j < nr
        · have hltx : j < x.req.length := by rw [HNR.out]; exact hlt2
          obtain ⟨a2, rfl, _, m0, m1⟩ := amt_at (R1.out.below hall2.out.below) j hltx
          obtain ⟨y, hy⟩ : ∃ y, x.req[j] = y := ⟨_, rfl⟩
          have hny : y.name.size ≤ 1152921504606846976 := by rw [← hy]; exact (HNX.out.1 _ (List.getElem_mem _)).name
          have HL2 := Lib.hid (show (x.req.take (j + 1)).map (preB reqB) = (x.req.take j).map (preB reqB) ++ [preB reqB y] by rw [List.take_succ_eq_append_getElem hltx, List.map_append, hy]; rfl)
          rw [hy] at m0 m1
          have hcat : 9 + y.name.size ≤ 9223372036854775807 := by omega
          have hsz2 := hall2.out.below.size
          have h24 : (L.length + 1) * 24 ≤ 140737488355328 := by have := hL.out; omega
          have HB2 := Lib.hid ((Below.refl wp.heap.size wp).alloc (Nat.le_refl _) (.cells #[.string y.name, .int .i64 y.val] 45))
          have HB3 := Lib.hid (HB2.out.alloc HB2.out.size (.cells #[.string (reqB ++ y.name), .int .i64 y.val] 45))
          have HC := Lib.hid (show Row kAmt (fun _ => True) ((wp.alloc (.cells #[.string y.name, .int .i64 y.val] 45)).alloc (.cells #[.string (reqB ++ y.name), .int .i64 y.val] 45)) (some ⟨wp.heap.size + 1, 0, none⟩) [preB reqB y] by
            have := Row.newOnePlain (w := wp.alloc (.cells #[.string y.name, .int .i64 y.val] 45)) (e := 45) (cs := Amt.cells (preB reqB y)) kAmt_plain (x := preB reqB y) rfl
            simpa [Amt.cells, preB] using this)
          unfold reqB at HB3 HC
          clear hy
          go_wp2_with (at_builtin; refine wpList_app_plain amtElem kAmt_plain w0.heap.size rfl (.tmp 33) (.tmp 40) rfl (v := .slice B2 L.length n2) (xs := L) (ys := [preB reqB y]) rfl (hall2.out.own.below HB3.out) rfl rfl HC.out (by exact h24) (by have := HB3.out.size; omega) ?_; intro A7 c7 w7 happ; have HA7 := Lib.hid happ; clear happ)
          go_roundw
          case rel =>
            have hl1 : (L ++ [preB reqB y]).length = L.length + 1 := by rw [List.length_append]; rfl
            exact ⟨j + 1, c7, A7, L ++ [preB reqB y], by go_num, by rw [hl1], hlt2, hall2.out.app HB3.out hsz2 HA7.out, (hbx.out.below HB3.out).app HA7.out, by unfold Hid; rw [hl1, hL.out]; omega, by unfold Hid; rw [HL2.out, HL.out, List.append_assoc]⟩
          case measure => simp [intOf]; omega
        · have hge2 : ¬ ((j : Int) < (nr : Int)) := by omega
          have hjr : j = nr := by omega
          have HLL := Lib.hid (show L = L0 ++ x.req.map (preB reqB) by rw [HL.out, List.take_of_length_le (by rw [HNR.out]; omega)])
          have hb2 := hbx.out.c2
          clear hjr
          go_wp2
          clear hb2
          go_loopw [4, 46] (fun lv iv wr => ∃ (j n : Nat) (B : Option Addr) (L : List Amt), iv = .int .i64 j ∧ lv = .slice B L.length n ∧ j ≤ nm ∧ Hid (AllAt o w0.heap.size w0 wr lv L) ∧ Hid (L.length = L0.length + nr + j) ∧ Hid (L = L0 ++ (x.req.map (preB reqB) ++ (x.lim.take j).map (preB limB)))) (fun _ iv _ => nm - (intOf iv).toNat)
          case atStart => exact ⟨0, n2, B2, L, rfl, rfl, Nat.zero_le _, hall2, by unfold Hid; have := hL.out; omega, by unfold Hid; rw [HLL.out]; simp⟩
          case round =>
            clear HLL hL HL hbx hall2 hge2
            obtain ⟨i, n3, B3, L3, rfl, rfl, hi, hall3, hL3, HL3⟩ := hrel
            obtain ⟨wq, rfl⟩ : ∃ wq, wq = wr := ⟨_, rfl⟩
            by_cases hlt3 : i < nm
            · have hltx : i < x.lim.length := by rw [HNM.out]; exact hlt3
              obtain ⟨a2, rfl, _, m0, m1⟩ := amt_at (R2.out.below hall3.out.below) i hltx
              obtain ⟨y, hy⟩ : ∃ y, x.lim[i] = y := ⟨_, rfl⟩
              have hny : y.name.size ≤ 1152921504606846976 := by rw [← hy]; exact (HNX.out.2 _ (List.getElem_mem _)).name
              have HL2 := Lib.hid (show (x.lim.take (i + 1)).map (preB limB) = (x.lim.take i).map (preB limB) ++ [preB limB y] by rw [List.take_succ_eq_append_getElem hltx, List.map_append, hy]; rfl)
              rw [hy] at m0 m1
              have hcat : 7 + y.name.size ≤ 9223372036854775807 := by omega
              have hsz2 := hall3.out.below.size
              have h24 : (L3.length + 1) * 24 ≤ 140737488355328 := by have := hL3.out; omega
              have HB2 := Lib.hid ((Below.refl wq.heap.size wq).alloc (Nat.le_refl _) (.cells #[.string y.name, .int .i64 y.val] 45))
              have HB3 := Lib.hid (HB2.out.alloc HB2.out.size (.cells #[.string (limB ++ y.name), .int .i64 y.val] 45))
              have HC := Lib.hid (show Row kAmt (fun _ => True) ((wq.alloc (.cells #[.string y.name, .int .i64 y.val] 45)).alloc (.cells #[.string (limB ++ y.name), .int .i64 y.val] 45)) (some ⟨wq.heap.size + 1, 0, none⟩) [preB limB y] by
                have := Row.newOnePlain (w := wq.alloc (.cells #[.string y.name, .int .i64 y.val] 45)) (e := 45) (cs := Amt.cells (preB limB y)) kAmt_plain (x := preB limB y) rfl
                simpa [Amt.cells, preB] using this)
              unfold limB at HB3 HC
              clear hy
              go_wp2_with (at_builtin; refine wpList_app_plain amtElem kAmt_plain w0.heap.size rfl (.tmp 50) (.tmp 57) rfl (v := .slice B3 L3.length n3) (xs := L3) (ys := [preB limB y]) rfl (hall3.out.own.below HB3.out) rfl rfl HC.out (by exact h24) (by have := HB3.out.size; omega) ?_; intro A7 c7 w7 happ; have HA7 := Lib.hid happ; clear happ)
              go_roundw
              case rel =>
                have hl1 : (L3 ++ [preB limB y]).length = L3.length + 1 := by rw [List.length_append]; rfl
                exact ⟨i + 1, c7, A7, L3 ++ [preB limB y], by go_num, by rw [hl1], hlt3, hall3.out.app HB3.out hsz2 HA7.out, by unfold Hid; rw [hl1, hL3.out]; omega, by unfold Hid; rw [HL2.out, HL3.out, List.append_assoc, List.append_assoc]⟩
              case measure => simp [intOf]; omega
            · have hge3 : ¬ ((i : Int) < (nm : Int)) := by omega
              have HLL := Lib.hid (show L3 = allB (o.parts.take (k + 1)) by rw [HSTEP.out, HL3.out, List.take_of_length_le (by rw [HNM.out]; omega)])
              go_wp2
              go_roundw
              case rel => exact ⟨k + 1, n3, B3, by go_num, by rw [← HLL.out], hlt, by rw [← HLL.out]; exact hall3⟩
              case measure => simp [intOf]; omega
    · have hge : ¬ ((k : Int) < (o.parts.length : Int)) := by omega
      have hall9 := hall.out
      rw [List.take_of_length_le (by omega)] at hall9 ⊢
      clear hall
      have HAO := Lib.hid (allB_ok HN.out)
      have HNEG := Lib.hid (fun h => usesV_neg (ps := o.parts) h)
      have HOVER := Lib.hid (fun h h2 => usesV_over (ps := o.parts) h h2)
      have HOKV := Lib.hid (fun h S h2 => usesV_ok (ps := o.parts) (S := S) h h2)
      obtain ⟨L, hL⟩ : ∃ L, allB o.parts = L := ⟨_, rfl⟩
      rw [hL] at hall9 HAO HNEG HOVER HOKV HT ⊢
      have HALL := Lib.hid hall9
      have HL := Lib.hid hL
      obtain ⟨-, hrow, -, -⟩ := hall9.own.row'
      have hLT := HT.out
      have HC := Lib.hid (amtContains_any B n (fun _ => True) L wo hrow (by omega))
      clear hall9 hL hrow hlen
      obtain ⟨N, hNe⟩ : ∃ N, L.length = N := ⟨_, rfl⟩
      have HNE := Lib.hid hNe
      rw [hNe] at hLT HC ⊢
      cases hn : L.any negA
      · have HV := Lib.hid hn
        clear hn hNe
        have hmm := @run_makeMap Tryz.prog
        go_upto_region 18 with (go_at_call 60; refine HC.out.mono ?_; rintro e w4 ⟨rfl, hb4⟩; rw [HV.out]; have HB4 := Lib.hid hb4; clear hb4)
        obtain ⟨w5, hrun5, hown5, hgrow5⟩ := World.ownsMap.update (World.ownsMap_made (H := Unit) w4 Tryz.prog 9 (plainElem Tryz.prog 2)) strLaw Tryz.underlying121 (by unfold maxLen; omega) (key_of countK ⟨#[99, 111, 117, 110, 116]⟩ rfl (by decide)) (plainElem_int Tryz.underlying2 (wf64 (x := 1000) (by omega) (by omega)))
        have HO5 := Lib.hid hown5
        have HG5 := Lib.hid hgrow5
        clear hown5 hgrow5
        go_wp2
        clear hrun5
        clear hmm
        have HB := Lib.hid (HALL.out.below.trans (HB4.out.mono HALL.out.below.size))
        have HROW := Lib.hid (show Row kAmt (fun _ => True) w4 B L from (HALL.out.own.below HB4.out).row'.2.1)
        have HB5 := Lib.hid (grown_below ((Below.refl w4.heap.size w4).alloc (Nat.le_refl _) (.map #[] 0)) HG5.out)
        go_loopw [67] (fun iv wr => ∃ (j : Nat) (D : DataW Unit) (S : List (Key × Int)), iv = .int .i64 j ∧ j ≤ N ∧ Hid (wr.ownsMap Tryz.prog 9 (plainElem Tryz.prog 2) w4.heap.size (j + 1) D) ∧ Hid (SumAt (L.map kvOf) j D S) ∧ Hid (Below w4.heap.size w4 wr)) (fun iv _ => N - (intOf iv).toNat)
        case atStart => exact ⟨0, _, sums0, rfl, Nat.zero_le _, HO5.out, SumAt.start _, HB5.out⟩
        case round =>
          obtain ⟨j, D, S, rfl, hj, hown, hsum, hbr⟩ := hrel
          obtain ⟨wp, rfl⟩ : ∃ wp, wp = wr := ⟨_, rfl⟩
          have hsz4 := hbr.out.size
          by_cases hlt : j < N
          · have hltx : j < L.length := by rw [HNE.out]; exact hlt
            obtain ⟨a2, rfl, _, m0, m1⟩ := amt_at (HROW.out.below hbr.out) j hltx
            obtain ⟨y, hy⟩ : ∃ y, L[j] = y := ⟨_, rfl⟩
            have hyo : PreOk y := by rw [← hy]; exact HAO.out _ (List.getElem_mem _)
            have hyn : 0 ≤ y.val := by
              have h1 := List.any_eq_false.1 HV.out y (by rw [← hy]; exact List.getElem_mem _)
              simpa [negA] using h1
            have hltk : j < (L.map kvOf).length := by simpa using hltx
            have hkj : (L.map kvOf)[j] = (y.name.data.toList, y.val) := by rw [List.getElem_map, hy]; rfl
            rw [hy] at m0 m1
            have hkey := key_of y.name.data.toList y.name (by simp [mkB]) (by rw [Array.length_toList]; exact hyo.name)
            obtain ⟨key, hkeye⟩ : ∃ key, y.name.data.toList = key := ⟨_, rfl⟩
            rw [hkeye] at hkj hkey
            obtain ⟨g, hg⟩ : ∃ g, getK key S = g := ⟨_, rfl⟩
            have hpos := hsum.out.pos key
            rw [hg] at hpos
            have HKJ := Lib.hid hkj
            have HGE := Lib.hid hg
            have HW1 := Lib.hid ((Below.refl wp.heap.size wp).alloc (Nat.le_refl _) (.cells #[.string y.name, .int .i64 y.val] 45))
            have HOB := Lib.hid (ownsMap_move hown.out (HW1.out.block _ (ownsMap_lt hown.out)))
            obtain ⟨hg1, hg2⟩ := hpos
            have hy2 := hyo.hi
            clear hy hkj hkeye hg
            by_cases hov : g > 9223372036854775807 - y.val
            · have HQ := Lib.hid (show ∀ W, Calls Tryz.prog 62 #[.int .i64 g, .int .i64 y.val] W fun e w' => e = .returned (.tuple #[.int .i64 0, .int .i64 7]) ∧ W = w' from fun W => by
                have h := qAdd_any g y.val W hg2 ⟨hyo.lo, hyo.hi⟩
                rw [show addQ g y.val = (0, 7) by unfold addQ; rw [if_neg (by omega), if_pos hov]] at h
                exact h)
              have HF := Lib.hid (show usesV o.parts = ([], 7) from HOVER.out HV.out (hsum.out.over hltk (by rw [HKJ.out]; show getK key S > _; rw [HGE.out]; exact hov)))
              clear hov hyo hyn hg1 hg2 hy2
              go_wp2_with (first
                | (at_lookup; refine wpList_lookup_own_int _ rfl _ _ 121 rfl 9 2 .i64 strLaw Tryz.underlying121 Tryz.underlying2 (zeroI64 _) w4.heap.size (j + 1) _ rfl HOB.out _ _ rfl hkey ?_; intro cnt hat hwc; obtain rfl : cnt = g := (hsum.out.look _ hat).trans HGE.out; clear hat hwc)
                | (go_at_call 62; refine (HQ.out _).mono ?_; rintro e w2 ⟨rfl, rfl⟩))
              go_ret2
              exact .none HF.out (HB0.out.trans ((HB.out.trans ((hbr.out.trans (HW1.out.mono hsz4)).mono HB.out.size)).mono HB0.out.size))
            · have HQ := Lib.hid (show ∀ W, Calls Tryz.prog 62 #[.int .i64 g, .int .i64 y.val] W fun e w' => e = .returned (.tuple #[.int .i64 (g + y.val), .int .i64 0]) ∧ W = w' from fun W => by
                have h := qAdd_any g y.val W hg2 ⟨hyo.lo, hyo.hi⟩
                rw [show addQ g y.val = (g + y.val, 0) by unfold addQ; rw [if_neg (by omega), if_neg hov]] at h
                exact h)
              have HS2 := Lib.hid (hsum.out.step hltk HKJ.out hyn (by rw [HGE.out]; exact hov))
              have hwf : (Lit.int .i64 (g + y.val)).wf = true := wf64 (by omega) (by omega)
              rw [HGE.out] at HS2
              clear hov hyo hyn hg1 hg2 hy2
              go_wp2_with (first
                | (at_lookup; refine wpList_lookup_own_int _ rfl _ _ 121 rfl 9 2 .i64 strLaw Tryz.underlying121 Tryz.underlying2 (zeroI64 _) w4.heap.size (j + 1) _ rfl HOB.out _ _ rfl hkey ?_; intro cnt hat hwc; obtain rfl : cnt = g := (hsum.out.look _ hat).trans HGE.out; clear hat hwc)
                | (go_at_call 62; refine (HQ.out _).mono ?_; rintro e w2 ⟨rfl, rfl⟩)
                | (at_mapUpdate; refine wpList_mapUpdate_own _ rfl _ _ _ 121 rfl 9 2 strLaw Tryz.underlying121 _ w4.heap.size (j + 1) _ rfl HOB.out (by unfold maxLen; omega) _ _ _ rfl rfl hkey _ [] (plainElem_int Tryz.underlying2 hwf) ?_; intro w9 hown9 hgrow9; have HO9 := Lib.hid hown9; have HG9 := Lib.hid hgrow9; clear hown9 hgrow9))
              go_roundw
              case rel => exact ⟨j + 1, _, _, by go_num, hlt, HO9.out, HS2.out, grown_below (hbr.out.trans (HW1.out.mono hsz4)) HG9.out⟩
              case measure => simp [intOf]; omega
          · have hge : ¬ ((j : Int) < (N : Int)) := by omega
            have HSUM := Lib.hid (show sumsA sums0 (L.map kvOf) = some S by have := hsum.out.sum; rwa [List.take_of_length_le (by rw [List.length_map, HNE.out]; omega)] at this)
            have HUV := Lib.hid (show usesV o.parts = (S, 0) from HOKV.out HV.out S HSUM.out)
            have hltm := ownsMap_lt hown.out
            have hds := ownsMap_size hown.out
            go_wp2_with (first
              | (at_range; refine wpList_range_own _ rfl _ 121 rfl 9 2 strLaw Tryz.underlying121 _ w4.heap.size (j + 1) _ rfl hown.out ?_; intro w6 hrg0 hg0 hs0)
              | go_in)
            have HRG0 := Lib.hid hrg0
            have HB6 := Lib.hid (show Below wp.heap.size wp w6 from (Below.refl _ _).grown hg0 (Nat.le_refl _) (fun j hj => by cases hj))
            clear hrg0 hg0
            try go_frame
            go_loopw [16] (fun lv wr => ∃ (left : Lit → Bool) (cnt n : Nat) (B : Option Addr) (M : List Amt), lv = .slice B M.length n ∧ Hid (wr.ranges Tryz.prog 9 (plainElem Tryz.prog 2) w4.heap.size wp.heap.size (j + 1) D left cnt) ∧ M.length + cnt ≤ N + 1 ∧ Hid (KvC D S left M) ∧ Hid (Own kAmt 45 wp.heap.size (fun _ => True) wr lv M) ∧ Hid (Below wp.heap.size wp wr)) (fun _ wr => wr.rangeLeft w4.heap.size wp.heap.size)
            case atStart => exact ⟨_, _, 0, none, [], rfl, HRG0.out, by simp; omega, KvC.start D S, Own.nil _ _ _ _ _, HB6.out⟩
            case round =>
              obtain ⟨left, cnt, n7, B7, M, rfl, hrg, hcnt, hkv, hom, hb7⟩ := hrel
              obtain ⟨wq, rfl⟩ : ∃ wq, wq = wr := ⟨_, rfl⟩
              have hszq := hb7.out.size
              go_wp2_with (first
                | (at_next; refine wpList_next_ranges_si _ rfl _ rfl 9 2 .i64 strLaw Tryz.underlying9 Tryz.underlying2 w4.heap.size wp.heap.size (j + 1) _ _ _ rfl hrg.out ?_ ?_)
                | go_in)
              · intro _ hl0
                have hperm := hkv.out.perm hsum.out.rel hsum.out.asc hl0
                have hlM : M.length = S.length := by simpa using hperm.length_eq
                have hMne : M ≠ [] := by
                  rintro rfl
                  have h1 : S = [] := List.eq_nil_of_length_eq_zero (by simpa using hlM.symm)
                  have h2 := hsum.out.cnt
                  rw [h1] at h2
                  simp at h2
                have HS := Lib.hid (amtSort_any (S := S) wq hom.out hMne hsum.out.asc hperm (by omega))
                have HLM := Lib.hid hlM
                clear hperm hMne hlM hl0
                go_wp2_with (go_at_call 63; refine HS.out.mono ?_; rintro e w8 ⟨rfl, hown8, hg8⟩; have HO8 := Lib.hid hown8; have HG8 := Lib.hid hg8; clear hown8 hg8)
                go_ret2
                unfold UsesPost
                rw [HUV.out]
                refine ⟨B7, n7, by rw [HLM.out]; rfl, ?_, ?_⟩
                · rw [← HLM.out]
                  exact HO8.out.lower (by have := HB0.out.size; have := HB.out.size; omega)
                · exact HB0.out.trans ((HB.out.trans ((hbr.out.trans ((hb7.out.grown HG8.out hszq (fun k hk => (hom.out.block_lt k hk).1)).mono hsz4)).mono HB.out.size)).mono HB0.out.size)
              · intro x c w7 cnt' hlk hat hrg1 hlt1 hg1 hs1 hen
                obtain ⟨cells7, hor7, -⟩ := hom.out
                have hne1 := row_ne_iter hor7 hrg.out
                have HO7 := Lib.hid (show Own kAmt 45 wp.heap.size (fun _ => True) w7 (.slice B7 M.length n7) M from
                  (((hom.out.plain (Q := fun _ => False) kAmt_plain).move fun k hk hl => hk.elim (fun hk => hg1.block k hl (fun e => hne1 (e ▸ hk.symm))) (fun f => f.elim)).plain kAmt_plain))
                have HB7 := Lib.hid (show Below wp.heap.size wp w7 from hb7.out.grown hg1 hszq (fun k hk => by cases hk; exact Nat.le_refl _))
                have HRG1 := Lib.hid hrg1
                have HKV := Lib.hid (hkv.out.step hsum.out.rel hlk hat)
                have HLT := Lib.hid (show w7.rangeLeft w4.heap.size wp.heap.size < wq.rangeLeft w4.heap.size wp.heap.size by rw [hrg1.left_eq, hrg.out.left_eq]; exact hlt1)
                have HWA := Lib.hid ((Below.refl w7.heap.size w7).alloc (Nat.le_refl _) (.cells #[.string (mkB x), .int .i64 c] 45))
                have hz7 := HB7.out.size
                have h24 : (M.length + 1) * 24 ≤ 140737488355328 := by omega
                clear hor7 hne1 hrg1 hg1 hlk hat hs1
                go_wp2_with (
                  (at_builtin; refine wpList_app_plain amtElem kAmt_plain wp.heap.size rfl (.tmp 95) (.tmp 99) rfl (v := .slice B7 M.length n7) (xs := M) (ys := [amtOf (x, c)]) rfl (HO7.out.alloc _) rfl rfl (Row.newOnePlain (cs := Amt.cells (amtOf (x, c))) kAmt_plain rfl) (by exact h24) (by simp; omega) ?_; intro A9 c9 w9 happ; have HA9 := Lib.hid happ; clear happ))
                have HRG9 := Lib.hid (show w9.ranges Tryz.prog 9 (plainElem Tryz.prog 2) w4.heap.size wp.heap.size (j + 1) D _ cnt' from
                  (HRG1.out.alloc _).kept HA9.out.grown (fun e => by have := (HO7.out.block_lt _ e.symm).1; omega) (fun e => by
                    obtain ⟨cl, ho9, -⟩ := HO7.out
                    exact row_ne_iter ho9 HRG1.out e))
                go_roundw
                case rel =>
                  have hl1 : (M ++ [amtOf (x, c)]).length = M.length + 1 := by rw [List.length_append]; rfl
                  exact ⟨_, cnt', c9, A9, M ++ [amtOf (x, c)], by rw [hl1], HRG9.out, by rw [hl1]; omega, HKV.out, HA9.out.own, HA9.out.below (HB7.out.trans (HWA.out.mono hz7)) (by simp; omega) (fun q hq => (HO7.out.block_lt q hq).1)⟩
                case measure =>
                  have h1 := HRG9.out.left_eq
                  have h2 := HRG1.out.left_eq
                  have h3 := HLT.out
                  show w9.rangeLeft _ _ < wq.rangeLeft _ _
                  omega
      · have HV := Lib.hid hn
        clear hn hNe
        go_wp2_with (go_at_call 60; refine HC.out.mono ?_; rintro e w4 ⟨rfl, hb4⟩; rw [HV.out]; have HB4 := Lib.hid hb4; clear hb4)
        go_ret2
        exact .none (HNEG.out HV.out) (HB0.out.trans ((HALL.out.below.trans (HB4.out.mono HALL.out.below.size)).mono HB0.out.size))
end Go.Proofs.YtalkdddeiebfmaaGreatDoor
/- The scopes in plain words: all that are valid, their texts, the scope with a text, those that an object lies in. -/
namespace Go.Proofs.YtalkdddeiebfmaaGreatDoor

/-- of one kind: those with an argument from -1 on -/
def rowS (k : Int) (n : Nat) : List ScV := ((List.range n).map fun (j : Nat) => ScV.mk k ((j : Int) - 1)).filter validS
/-- of the kinds from -1 on -/
def scopesTo (k : Nat) : List ScV := (List.range k).flatMap fun (i : Nat) => rowS ((i : Int) - 1) 13
def allS : List ScV := [⟨0, 0⟩, ⟨1, 0⟩, ⟨2, 0⟩, ⟨3, 0⟩, ⟨4, 0⟩, ⟨5, 0⟩, ⟨5, 1⟩, ⟨5, 2⟩, ⟨5, 3⟩, ⟨5, 4⟩, ⟨5, 5⟩, ⟨5, 6⟩, ⟨5, 7⟩, ⟨5, 8⟩, ⟨5, 9⟩]
theorem rowS_len (k : Int) (n : Nat) : (rowS k n).length ≤ n := by
  unfold rowS
  exact Nat.le_trans (List.length_filter_le _ _) (by simp)
theorem rowS_step (k : Int) (n : Nat) : rowS k (n + 1) = rowS k n ++ (if validS ⟨k, (n : Int) - 1⟩ then [⟨k, (n : Int) - 1⟩] else []) := by
  unfold rowS
  rw [List.range_succ, List.map_append, List.filter_append]
  congr 1
  simp only [List.map_cons, List.map_nil, List.filter_cons, List.filter_nil]
theorem scopesTo_step (k : Nat) : scopesTo (k + 1) = scopesTo k ++ rowS ((k : Int) - 1) 13 := by
  unfold scopesTo
  rw [List.range_succ, List.flatMap_append]
  simp
theorem scopesTo_len (k : Nat) : (scopesTo k).length ≤ 13 * k := by
  induction k with
  | zero => simp [scopesTo]
  | succ k ih =>
    rw [scopesTo_step, List.length_append]
    have := rowS_len ((k : Int) - 1) 13
    omega
theorem scopesTo_all : scopesTo 9 = allS := by decide
theorem allS_valid : ∀ s ∈ allS, validS s = true := by decide

/-- a scope's text -/
def digB (a : Int) : ByteArray := ⟨#[UInt8.ofNat (48 + a.toNat)]⟩
def textS (s : ScV) : ByteArray := if s.kind = 5 then textK 5 ++ digB s.arg else textK s.kind
def printS (s : ScV) : ByteArray × Int := if validS s then (textS s, 0) else (⟨#[]⟩, 150)
/-- the first of a list with that text -/
def parseIn (l : List ScV) (t : ByteArray) : ScV × Int :=
  match l.find? fun s => decide (textS s = t) with
  | some s => (s, 0)
  | none => (⟨0, 0⟩, 150)
def parseS (t : ByteArray) : ScV × Int := parseIn allS t
theorem parse_text : ∀ s ∈ allS, parseS (textS s) = (s, 0) := by decide
/-- those of all in which an object lies -/
theorem in_all (prio dl : Int) (ps : List PartV) : allS.filter (inS prio dl ps) = [⟨0, 0⟩, ⟨if namedP ps then 2 else 1, 0⟩, ⟨if dl > 0 then 3 else 4, 0⟩] ++ (if 0 ≤ prio ∧ prio ≤ 9 then [⟨5, prio⟩] else []) := by
  have h5 : ∀ a : Int, inS prio dl ps ⟨5, a⟩ = (validS ⟨5, a⟩ && decide (prio = a)) := fun a => by simp [inS, liesS]
  have hf : (([0, 1, 2, 3, 4, 5, 6, 7, 8, 9] : List Int).map (ScV.mk 5)).filter (inS prio dl ps) = if 0 ≤ prio ∧ prio ≤ 9 then [⟨5, prio⟩] else [] := by
    by_cases hp : 0 ≤ prio ∧ prio ≤ 9
    · rw [if_pos hp]
      have : prio = 0 ∨ prio = 1 ∨ prio = 2 ∨ prio = 3 ∨ prio = 4 ∨ prio = 5 ∨ prio = 6 ∨ prio = 7 ∨ prio = 8 ∨ prio = 9 := by omega
      rcases this with rfl | rfl | rfl | rfl | rfl | rfl | rfl | rfl | rfl | rfl <;> simp [List.filter_cons, h5, validS]
    · rw [if_neg hp]
      refine List.filter_eq_nil_iff.2 fun s hs => ?_
      obtain ⟨a, ha, rfl⟩ := List.mem_map.1 hs
      rw [h5]
      simp only [List.mem_cons, List.not_mem_nil, or_false] at ha
      simp only [Bool.and_eq_true, decide_eq_true_eq, not_and]
      intro _
      omega
  have he : allS = [⟨0, 0⟩, ⟨1, 0⟩, ⟨2, 0⟩, ⟨3, 0⟩, ⟨4, 0⟩] ++ ([0, 1, 2, 3, 4, 5, 6, 7, 8, 9] : List Int).map (ScV.mk 5) := rfl
  rw [he, List.filter_append, hf]
  congr 1
  by_cases hd : dl > 0
  · have hd2 : ¬ dl ≤ 0 := by omega
    cases hn : namedP ps <;> simp [List.filter_cons, inS, liesS, validS, hn, hd, hd2]
  · have hd2 : dl ≤ 0 := by omega
    cases hn : namedP ps <;> simp [List.filter_cons, inS, liesS, validS, hn, hd, hd2]
theorem of_all (o : ObjV) : ofS o 6 = allS.filter (inS o.prio o.dl o.parts) := by
  rw [in_all]
  have he : (List.range 6).map (scopeK o.prio) = [⟨0, 0⟩, ⟨1, 0⟩, ⟨2, 0⟩, ⟨3, 0⟩, ⟨4, 0⟩, ⟨5, o.prio⟩] := rfl
  unfold ofS
  rw [he]
  have h5 : inS o.prio o.dl o.parts ⟨5, o.prio⟩ = decide (0 ≤ o.prio ∧ o.prio ≤ 9) := by
    simp [inS, liesS, validS]
    by_cases h : 0 ≤ o.prio <;> simp [h] <;> omega
  by_cases hd : o.dl > 0
  · have hd2 : ¬ o.dl ≤ 0 := by omega
    cases hn : namedP o.parts <;> by_cases hp : 0 ≤ o.prio ∧ o.prio ≤ 9 <;> simp [List.filter_cons, h5, inS, liesS, validS, hn, hd, hd2, hp] <;> omega
  · have hd2 : o.dl ≤ 0 := by omega
    cases hn : namedP o.parts <;> by_cases hp : 0 ≤ o.prio ∧ o.prio ≤ 9 <;> simp [List.filter_cons, h5, inS, liesS, validS, hn, hd, hd2, hp] <;> omega
end Go.Proofs.YtalkdddeiebfmaaGreatDoor
/- own: the same object in other lists: what is handed in, what is told. -/
namespace Go.Proofs.YtalkdddeiebfmaaGreatDoor
open Go.RowKit

structure LabV where
  key : ByteArray
  val : ByteArray
def LabV.cells (l : LabV) : List Value := [.string l.key, .string l.val]
def kLab : Kn LabV := Kn.enc LabV.cells 2 (by omega) (fun _ => rfl) (fun x u hu => by simp [LabV.cells] at hu; rcases hu with rfl | rfl <;> rfl)
theorem kLab_plain : kLab.Plain := Kn.plain_enc
theorem labElem : Elem Tryz.prog 23 217 kLab 32 :=
  Elem.mk_ (z := .agg #[.string ⟨#[]⟩, .string ⟨#[]⟩]) Tryz.underlying23 (by kernel_rfl) rfl (by omega)
/-- an object whose lists are none of them too long to be laid anew -/
structure ObjFit (w : World) (o : ObjV) (A : Option Addr) (ls : List LabV) : Prop where
  row : Row kPart (fun _ => True) w A o.parts
  lab : ∃ B m, o.labels = .slice B ls.length m ∧ Row kLab (fun _ => True) w B ls
  n64 : o.parts.length * 64 ≤ 140737488351232
  n24 : ∀ p ∈ o.parts, p.req.length * 24 ≤ 140737488351232 ∧ p.lim.length * 24 ≤ 140737488351232
  n32 : ls.length * 32 ≤ 140737488351232
theorem ObjFit.below {w w' : World} {o : ObjV} {A : Option Addr} {ls : List LabV} (h : ObjFit w o A ls) (hb : Below w.heap.size w w') : ObjFit w' o A ls :=
  ⟨h.row.below hb, let ⟨B, m, h1, h2⟩ := h.lab; ⟨B, m, h1, h2.below hb⟩, h.n64, h.n24, h.n32⟩
theorem ObjFit.ok {w : World} {o : ObjV} {A : Option Addr} {ls : List LabV} (h : ObjFit w o A ls) : ObjOk w o A (fun _ => True) :=
  ⟨let ⟨B, m, h1, _⟩ := h.lab; ⟨B, _, m, h1⟩, h.row, by have := h.n64; omega, fun p hp => by have := h.n24 p hp; omega⟩
/-- the parts of a list of the call's own: their lists lie in blocks that are not the list's own -/
structure PartsAt (base : Nat) (w : World) (lv : Value) (L : List PartV) (R : Nat → Prop) : Prop where
  own : Own kPart 43 base R w lv L
  low : ∀ k, R k → base ≤ k ∧ k < w.heap.size ∧ lv.ownBlock ≠ some k
theorem PartsAt.below {base : Nat} {w w' : World} {lv : Value} {L : List PartV} {R : Nat → Prop} (h : PartsAt base w lv L R) (hb : Below w.heap.size w w') : PartsAt base w' lv L R :=
  ⟨h.own.below hb, fun k hk => ⟨(h.low k hk).1, Nat.lt_of_lt_of_le (h.low k hk).2.1 hb.size, (h.low k hk).2.2⟩⟩
theorem PartsAt.app {base : Nat} {w w' : World} {lv lv' : Value} {L L' : List PartV} {R S : Nat → Prop} (h : PartsAt base w lv L R) (hS : ∀ k, S k → base ≤ k ∧ k < w.heap.size ∧ lv.ownBlock ≠ some k) (ha : Appended kPart 43 base (fun k => R k ∨ S k) w w' lv lv' L') : PartsAt base w' lv' L' (fun k => R k ∨ S k) := by
  have hall : ∀ k, (R k ∨ S k) → base ≤ k ∧ k < w.heap.size ∧ lv.ownBlock ≠ some k := fun k hk => hk.elim (h.low k) (hS k)
  refine ⟨ha.own, fun k hk => ?_⟩
  obtain ⟨h1, h2, h3⟩ := hall k hk
  refine ⟨h1, Nat.lt_of_lt_of_le h2 ha.grown.size, ?_⟩
  rcases ha.at_ with e | e
  · rw [e]; exact h3
  · rw [e]; intro e2
    have := Option.some.inj e2
    omega
theorem PartsAt.row {base : Nat} {w : World} {A : Option Addr} {n c : Nat} {L : List PartV} {R : Nat → Prop} (h : PartsAt base w (.slice A n c) L R) : n = L.length ∧ Row kPart (fun k => base ≤ k) w A L ∧ L.length ≤ c ∧ c ≤ maxLen := by
  obtain ⟨A', c', hv, h1, h2, h3⟩ := h.own.row
  cases hv
  exact ⟨rfl, h3.mono fun k hk => hk.elim (fun hk => (h.low k hk).1) (fun e => (h.own.block_lt k e).1), h1, h2⟩
end Go.Proofs.YtalkdddeiebfmaaGreatDoor
/- The lists of scopes: alike; all that are valid. -/
namespace Go.Proofs.YtalkdddeiebfmaaGreatDoor
open Go.RowKit

theorem sc_at {P : Nat → Prop} {w : World} {A : Option Addr} {xs : List ScV} (h : Row kSc P w A xs) (i : Nat) (hi : i < xs.length) : ∃ a, A = some a ∧ w.cell? (a.add (i * 2)) = some (.int .i64 xs[i].kind) ∧ w.cell? ⟨(a.add (i * 2)).block, (a.add (i * 2)).off + 1, none⟩ = some (.int .i64 xs[i].arg) := by
  obtain ⟨a, cs, hA, hP, hr, hc⟩ := h.at_ i hi
  obtain rfl : cs = xs[i].cells := hr
  exact ⟨a, hA, hc 0 _ rfl, by rw [← add_off _ _ 1 (by omega)]; exact hc 1 _ rfl⟩
theorem scAt_new (w : World) (k a : Int) : ScAt (w.alloc (.cells #[.int .i64 k, .int .i64 a] 47)) w.heap.size k a := by
  have hg := heap_alloc_new w (.cells #[.int .i64 k, .int .i64 a] 47)
  exact ⟨(cell_of_row _ _ _ _ _ _ hg).trans rfl, (cell_of_row _ _ _ _ _ _ hg).trans rfl⟩
theorem ScAt.below {w w' : World} {p : Nat} {k a : Int} (h : ScAt w p k a) (hb : Below w.heap.size w w') : ScAt w' p k a := by
  have hl := World.block_lt_of_cell? w _ h.s0
  exact ⟨(hb.cell (p := ⟨p, 0, none⟩) hl).trans h.s0, (hb.cell (p := ⟨p, 1, none⟩) hl).trans h.s1⟩
structure ScsAt (b0 : Nat) (w0 wr : World) (lv : Value) (M L : List ScV) : Prop where
  own : Own kSc 47 b0 (fun _ => True) wr lv M
  below : Below b0 w0 wr
  eq : M = L
theorem ScsAt.mono_below {b0 : Nat} {w0 wr w' : World} {lv : Value} {M L : List ScV} (h : ScsAt b0 w0 wr lv M L) (hb : Below wr.heap.size wr w') (h0 : b0 ≤ wr.heap.size) : ScsAt b0 w0 w' lv M L := ⟨h.own.below hb, h.below.trans (hb.mono h0), h.eq⟩
theorem ScsAt.app {b0 : Nat} {w0 wr wx w' : World} {lv lv' : Value} {M L zs : List ScV} {x : ScV} (h : ScsAt b0 w0 wr lv M L) (hx : Below wr.heap.size wr wx) (h0 : b0 ≤ wr.heap.size) (hz : zs = M ++ [x]) (ha : Appended kSc 47 b0 (fun _ => True) wx w' lv lv' zs) : ScsAt b0 w0 w' lv' zs (L ++ [x]) :=
  ⟨ha.own, ha.below (h.below.trans (hx.mono h0)) (Nat.le_trans h0 hx.size) (fun q hq => (h.own.block_lt q hq).1), by rw [hz, h.eq]⟩
def ScopesPost (w : World) (e : Ending) (w' : World) : Prop := ∃ A c, e = .returned (.slice A 15 c) ∧ Own kSc 47 w.heap.size (fun _ => True) w' (.slice A 15 c) allS ∧ Below w.heap.size w w'
end Go.Proofs.YtalkdddeiebfmaaGreatDoor
/- scope: Print. -/
namespace Go.Proofs.YtalkdddeiebfmaaGreatDoor
open Go.RowKit

def PrintPost (t : ByteArray) (n : Int) (w : World) (e : Ending) (w' : World) : Prop := e = .returned (.tuple #[.string t, .int .i64 n]) ∧ Below w.heap.size w w'
theorem dig_enc {a : Int} (h : 0 ≤ a ∧ a < 10) : Utf8.encode (48 + a) = digB a := by
  have : a = 0 ∨ a = 1 ∨ a = 2 ∨ a = 3 ∨ a = 4 ∨ a = 5 ∨ a = 6 ∨ a = 7 ∨ a = 8 ∨ a = 9 := by omega
  rcases this with rfl | rfl | rfl | rfl | rfl | rfl | rfl | rfl | rfl | rfl <;> decide
end Go.Proofs.YtalkdddeiebfmaaGreatDoor
/- scope: Parse. -/
namespace Go.Proofs.YtalkdddeiebfmaaGreatDoor
open Go.RowKit

theorem parse_none {t : ByteArray} (h : ∀ s ∈ allS, textS s ≠ t) : parseS t = (⟨0, 0⟩, 150) := by
  unfold parseS parseIn
  rw [List.find?_eq_none.2 fun s hs => by simpa using h s hs]
theorem text_kind {k : Nat} (hk : k < 5) : ∀ s ∈ allS, s.kind = k → textS s = textK k := by
  intro s hs he
  have : s.kind ≠ 5 := by omega
  unfold textS
  rw [if_neg this, he]
/-- of those of a kind below k none has this text -/
def NotTo (k : Nat) (t : ByteArray) : Prop := ∀ s ∈ allS, s.kind < k → textS s ≠ t
theorem kind_nonneg : ∀ s ∈ allS, 0 ≤ s.kind ∧ s.kind < 6 := by decide
theorem five_arg : ∀ s ∈ allS, s.kind = 5 → 0 ≤ s.arg ∧ s.arg < 10 := by decide
theorem NotTo.zero (t : ByteArray) : NotTo 0 t := fun s hs h => by have := kind_nonneg s hs; omega
theorem NotTo.step {k : Nat} {t : ByteArray} (h : NotTo k t) (hk : k < 5) (ht : t ≠ textK k) : NotTo (k + 1) t := fun s hs hl => by
  by_cases he : s.kind = k
  · rw [text_kind hk s hs he]; exact fun e => ht e.symm
  · exact h s hs (by omega)
theorem NotTo.last {t : ByteArray} (h : NotTo 5 t) (ht : ∀ a : Int, 0 ≤ a → a < 10 → t ≠ textK 5 ++ digB a) : NotTo 6 t := fun s hs hl => by
  by_cases he : s.kind = 5
  · have := five_arg s hs he
    unfold textS
    rw [if_pos he]
    exact fun e => ht s.arg this.1 this.2 e.symm
  · exact h s hs (by omega)
theorem NotTo.none {t : ByteArray} (h : NotTo 6 t) : parseS t = (⟨0, 0⟩, 150) := parse_none fun s hs => h s hs (by have := kind_nonneg s hs; omega)
theorem parse_kind {k : Nat} (hk : k < 5) : parseS (textK k) = (⟨k, 0⟩, 0) := by
  have : k = 0 ∨ k = 1 ∨ k = 2 ∨ k = 3 ∨ k = 4 := by omega
  rcases this with rfl | rfl | rfl | rfl | rfl
  · exact parse_text ⟨0, 0⟩ (by decide)
  · exact parse_text ⟨1, 0⟩ (by decide)
  · exact parse_text ⟨2, 0⟩ (by decide)
  · exact parse_text ⟨3, 0⟩ (by decide)
  · exact parse_text ⟨4, 0⟩ (by decide)
theorem parse_dig {a : Int} (h : 0 ≤ a ∧ a < 10) : parseS (textK 5 ++ digB a) = (⟨5, a⟩, 0) := by
  refine parse_text ⟨5, a⟩ ?_
  have : a = 0 ∨ a = 1 ∨ a = 2 ∨ a = 3 ∨ a = 4 ∨ a = 5 ∨ a = 6 ∨ a = 7 ∨ a = 8 ∨ a = 9 := by omega
  rcases this with rfl | rfl | rfl | rfl | rfl | rfl | rfl | rfl | rfl | rfl <;> decide
/-- what CutPrefix answers -/
theorem cut_no {t p : ByteArray} (h : Lib.hasPrefix t.data.toList p.data.toList = false) (r : ByteArray) : t ≠ p ++ r := by
  rintro rfl
  have : Lib.hasPrefix (p ++ r).data.toList p.data.toList = true := by simp [Lib.hasPrefix]
  rw [this] at h; cases h
theorem cut_yes {t p : ByteArray} (h : Lib.hasPrefix t.data.toList p.data.toList = true) : t = p ++ ⟨(Lib.trimPrefix t.data.toList p.data.toList).toArray⟩ := by
  have h2 : p.data.toList <+: t.data.toList := List.isPrefixOf_iff_prefix.1 h
  obtain ⟨r, hr⟩ := h2
  refine bytes_inj ?_
  unfold Lib.trimPrefix
  rw [if_pos h, ← hr]
  simp

def ParsePost (p : ScV × Int) (w : World) (e : Ending) (w' : World) : Prop := e = .returned (.tuple #[.agg #[.int .i64 p.1.kind, .int .i64 p.1.arg], .int .i64 p.2]) ∧ Below w.heap.size w w'
theorem one_byte {R : ByteArray} (h : R.size = 1) : ∃ b : UInt8, R = ⟨#[b]⟩ := by
  obtain ⟨⟨l⟩⟩ := R
  match l, h with
  | [b], _ => exact ⟨b, rfl⟩
theorem dig_byte {b : UInt8} (h : 48 ≤ b.toNat) : (⟨#[b]⟩ : ByteArray) = digB ((b.toNat : Int) - 48) := by
  unfold digB
  have : 48 + ((b.toNat : Int) - 48).toNat = b.toNat := by omega
  rw [this]; simp
theorem dig_inj {a : Int} {b : UInt8} (ha : 0 ≤ a ∧ a < 10) (h : (⟨#[b]⟩ : ByteArray) = digB a) : 48 ≤ b.toNat ∧ b.toNat ≤ 57 := by
  unfold digB at h
  have h2 : b = UInt8.ofNat (48 + a.toNat) := by injection h with h; simpa using h
  rw [h2]
  simp
  omega
theorem cat_inj {p r s : ByteArray} (h : p ++ r = p ++ s) : r = s := by
  have := congrArg (fun b => b.data.toList) h
  simp only [ByteArray.data_append, Array.toList_append, List.append_cancel_left_eq] at this
  exact bytes_inj this
theorem textIdx : ∀ (k : Nat), k < 6 → ∀ W : World, (Instr.index 141 (.agg #[.string ⟨#[97, 108, 108]⟩, .string ⟨#[98, 101, 115, 116]⟩, .string ⟨#[110, 111, 116, 98, 101, 115, 116]⟩, .string ⟨#[101, 110, 100, 115]⟩, .string ⟨#[110, 111, 116, 101, 110, 100, 115]⟩, .string ⟨#[112, 114, 105, 111, 114, 105, 116, 121, 61]⟩]) (.int .i64 k)).run Tryz.prog W = .ok (.string (textK k)) W
  | 0, _ => fun W => by kernel_rfl
  | 1, _ => fun W => by kernel_rfl
  | 2, _ => fun W => by kernel_rfl
  | 3, _ => fun W => by kernel_rfl
  | 4, _ => fun W => by kernel_rfl
  | 5, _ => fun W => by kernel_rfl
  | k + 6, h => absurd h (by omega)
/-- two results, the first a struct in its own cell -/
theorem results_cell_tmp {P : Program} {fn : Func} {p u : Tmp} {ty : TypeId} (h : fn.results = #[.cell p ty, .tmp u]) (tmps : Array Value) (w : World) (g : Nat) (t : TypeId) (cs : Array Value) (fr : Nat × Nat) (d : TypeDesc)
    (hp : tmps.getD p undef = .pointer (some ⟨g, 0, none⟩)) (hg : w.heap[g]? = some (.cells cs t fr))
    (hu : P.underlying ty = some d) (hd : (match d with | .struct _ | .array _ _ => true | _ => false) = true) (hi : (P.info? ty).map (·.size) = some cs.size) :
    (results fn tmps).run P w = .ok (.tuple #[.agg cs, tmps.getD u undef]) w := by
  have hp' : tmps[p]?.getD undef = .pointer (some ⟨g, 0, none⟩) := by simpa using hp
  simp [results, h, hp', asAddr, run_loadVar_row w g t ty cs fr d hg hu hd hi]
end Go.Proofs.YtalkdddeiebfmaaGreatDoor
