/- What an object uses, in plain words: a rising list of names with sums. No program in sight. -/
import Derived.Test.YtdchffghgajbfaaU1
import Derived.Sort.KeysCollected
import Derived.Maps.Views
namespace Go.Proofs.Ytdchffghgajbfaa
open Go.Maps

abbrev Key := List UInt8
def addK (k : Key) (v : Int) : List (Key × Int) → List (Key × Int)
  | [] => [(k, v)]
  | (x, u) :: l => if x = k then (k, v) :: l else if k < x then (k, v) :: (x, u) :: l else (x, u) :: addK k v l
def getK (k : Key) (S : List (Key × Int)) : Int := ((S.find? fun p => decide (p.1 = k)).map Prod.snd).getD 0
/-- rising by name -/
def AscK (S : List (Key × Int)) : Prop := S.Pairwise fun p q => p.1 < q.1
theorem key_lt {x s : Key} (h1 : x ≠ s) (h2 : ¬ s < x) : x < s := by
  have h3 : x ≤ s := List.not_lt.1 h2
  by_cases h4 : x < s
  · exact h4
  · exact absurd (List.le_antisymm h3 (List.not_lt.1 h4)) h1
theorem addK_keys (k : Key) (v : Int) : ∀ (S : List (Key × Int)) (x : Key), x ∈ (addK k v S).map Prod.fst ↔ x = k ∨ x ∈ S.map Prod.fst
  | [], x => by simp [addK]
  | (y, u) :: l, x => by
    unfold addK
    split
    · rename_i h
      subst h
      simp
    · split
      · simp
      · rw [List.map_cons, List.mem_cons, addK_keys k v l x, List.map_cons, List.mem_cons]
        constructor
        · rintro (h | h | h)
          · exact .inr (.inl h)
          · exact .inl h
          · exact .inr (.inr h)
        · rintro (h | h | h)
          · exact .inr (.inl h)
          · exact .inl h
          · exact .inr (.inr h)
theorem addK_asc (k : Key) (v : Int) : ∀ S : List (Key × Int), AscK S → AscK (addK k v S)
  | [], _ => by simp [addK, AscK]
  | (y, u) :: l, h => by
    unfold AscK at h
    rw [List.pairwise_cons] at h
    unfold addK
    split
    · rename_i he
      subst he
      exact List.pairwise_cons.2 h
    · rename_i hne
      split
      · rename_i hlt
        refine List.pairwise_cons.2 ⟨?_, List.pairwise_cons.2 h⟩
        intro z hz
        rcases List.mem_cons.1 hz with rfl | hz
        · exact hlt
        · exact List.lt_trans hlt (h.1 z hz)
      · rename_i hlt
        refine List.pairwise_cons.2 ⟨?_, addK_asc k v l h.2⟩
        intro z hz
        have hz' : z.1 ∈ (addK k v l).map Prod.fst := List.mem_map_of_mem hz
        rcases (addK_keys k v l z.1).1 hz' with h1 | h1
        · rw [h1]; exact key_lt hne hlt
        · obtain ⟨q, hq, he⟩ := List.mem_map.1 h1
          rw [← he]; exact h.1 q hq
theorem getK_addK (k : Key) (v : Int) : ∀ (S : List (Key × Int)) (x : Key), getK x (addK k v S) = if x = k then v else getK x S
  | [], x => by
    unfold addK getK
    by_cases h : x = k
    · subst h; simp
    · rw [if_neg h, List.find?_cons_of_neg (by simpa using fun e => h e.symm)]
  | (y, u) :: l, x => by
    have ih := getK_addK k v l x
    unfold addK
    split
    · rename_i hy
      subst hy
      unfold getK
      by_cases h : x = y
      · subst h; simp
      · rw [if_neg h, List.find?_cons_of_neg (by simpa using fun e => h e.symm), List.find?_cons_of_neg (by simpa using fun e => h e.symm)]
    · rename_i hy
      split
      · unfold getK
        by_cases h : x = k
        · subst h; simp
        · rw [if_neg h, List.find?_cons_of_neg (by simpa using fun e => h e.symm)]
      · unfold getK at ih ⊢
        by_cases h2 : y = x
        · subst h2
          rw [if_neg hy]; simp
        · rw [List.find?_cons_of_neg (by simpa using h2), ih, List.find?_cons_of_neg (by simpa using h2)]
theorem addK_len (k : Key) (v : Int) : ∀ S : List (Key × Int), (addK k v S).length ≤ S.length + 1
  | [] => by simp [addK]
  | (y, u) :: l => by
    have := addK_len k v l
    unfold addK
    split
    · simp
    · split
      · simp
      · simp; omega
def countK : Key := [99, 111, 117, 110, 116]
def reqK : Key := [114, 101, 113, 117, 101, 115, 116, 115, 46]
def limK : Key := [108, 105, 109, 105, 116, 115, 46]
def preA (s : Key) (a : Amt) : Key × Int := (s ++ a.name.data.toList, a.val)
/-- all amounts of all parts, under their names -/
def allA (ps : List PartV) : List (Key × Int) := ps.flatMap fun p => p.req.map (preA reqK) ++ p.lim.map (preA limK)
/-- each added to its own sum; none: a sum too great -/
def sumsA : List (Key × Int) → List (Key × Int) → Option (List (Key × Int))
  | S, [] => some S
  | S, a :: l => if getK a.1 S > 9223372036854775807 - a.2 then none else sumsA (addK a.1 (getK a.1 S + a.2) S) l
def usesV (ps : List PartV) : List (Key × Int) × Int :=
  if (allA ps).any (fun a => decide (a.2 < 0)) = true then ([], 1) else match sumsA [(countK, 1000)] (allA ps) with
    | some S => (S, 0)
    | none => ([], 7)

/-- the map has just these sums -/
def ValRel {H : Type} (D : DataW H) (S : List (Key × Int)) : Prop := IsMap D ∧ (∀ x, has D (.string x) = decide (x ∈ S.map Prod.fst)) ∧ ∀ x, x ∈ S.map Prod.fst → ∀ z, D.atKey (.string x) z = .lit (.int .i64 (getK x S))
section
variable {H : Type} {D : DataW H} {S : List (Key × Int)}
theorem ValRel.empty : ValRel (H := H) (.map []) [] := ⟨isMap_empty, fun x => by simp [has], fun x hx => by simp at hx⟩
theorem ValRel.put (h : ValRel D S) (k : Key) (v : Int) : ValRel (D.put (.string k) (.lit (.int .i64 v))) (addK k v S) := by
  refine ⟨h.1.put _ _, fun x => ?_, fun x hx z => ?_⟩
  · by_cases hx : x = k
    · subst hx
      rw [has_put_same h.1 (by simp [WideAt.IsKeyLit]), decide_eq_true]
      exact (addK_keys _ _ _ _).2 (.inl rfl)
    · rw [has_put_other (by simpa using hx), h.2.1 x]
      simp only [addK_keys, hx, false_or]
  · rw [getK_addK]
    by_cases he : x = k
    · subst he
      rw [if_pos rfl, atKey_put_same h.1 (by simp [WideAt.IsKeyLit])]
    · rw [if_neg he, atKey_put_other (by simpa using he)]
      exact h.2.2 x (((addK_keys k v S x).1 hx).resolve_left he) z
theorem getK_none {x : Key} (h : x ∉ S.map Prod.fst) : getK x S = 0 := by
  unfold getK
  rw [List.find?_eq_none.2]
  · rfl
  · intro p hp
    simp only [decide_eq_true_eq]
    intro e
    exact h (by rw [← e]; exact List.mem_map_of_mem hp)
/-- what a look-up gives, there or not -/
theorem ValRel.look (h : ValRel D S) (hz : ∀ x z, has D (.string x) = false → D.atKey (.string x) z = z) (x : Key) : D.atKey (.string x) (.lit (.int .i64 0)) = .lit (.int .i64 (getK x S)) := by
  by_cases hx : x ∈ S.map Prod.fst
  · exact h.2.2 x hx _
  · rw [hz x _ (by rw [h.2.1 x]; simpa using hx), getK_none hx]
end
end Go.Proofs.Ytdchffghgajbfaa
