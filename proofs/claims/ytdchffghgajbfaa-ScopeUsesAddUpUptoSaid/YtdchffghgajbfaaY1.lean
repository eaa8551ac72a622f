/- The document's sums in plain words: rows in the order of their coming; at the end the rising list. They are the program's. -/
import Derived.Test.YtdchffghgajbfaaX8
namespace Go.Proofs.Ytdchffghgajbfaa

theorem getK_cons (x : Key) (p : Key × Int) (S : List (Key × Int)) : getK x (p :: S) = if x = p.1 then p.2 else getK x S := by
  unfold getK
  by_cases h : x = p.1
  · rw [if_pos h, List.find?_cons_of_pos (by simpa using h.symm)]; rfl
  · rw [if_neg h, List.find?_cons_of_neg (by simpa using fun e => h e.symm)]
/-- an amount to its row -/
def addR (k : Key) (v : Int) : List (Key × Int) → List (Key × Int)
  | [] => [(k, v)]
  | p :: R => if p.1 = k then (k, p.2 + v) :: R else p :: addR k v R
theorem addR_keys (k : Key) (v : Int) : ∀ (R : List (Key × Int)) (x : Key), x ∈ (addR k v R).map Prod.fst ↔ x = k ∨ x ∈ R.map Prod.fst
  | [], x => by simp [addR]
  | p :: R, x => by
    unfold addR
    split
    · rename_i h
      subst h
      simp
    · rw [List.map_cons, List.mem_cons, addR_keys k v R x, List.map_cons, List.mem_cons]
      constructor
      · rintro (h | h | h)
        · exact .inr (.inl h)
        · exact .inl h
        · exact .inr (.inr h)
      · rintro (h | h | h)
        · exact .inr (.inl h)
        · exact .inl h
        · exact .inr (.inr h)
theorem addR_nodup (k : Key) (v : Int) : ∀ (R : List (Key × Int)), (R.map Prod.fst).Nodup → ((addR k v R).map Prod.fst).Nodup
  | [], _ => by simp [addR]
  | p :: R, h => by
    rw [List.map_cons, List.nodup_cons] at h
    unfold addR
    split
    · rename_i he
      subst he
      rw [List.map_cons, List.nodup_cons]; exact h
    · rename_i he
      rw [List.map_cons, List.nodup_cons]
      refine ⟨fun hm => ?_, addR_nodup k v R h.2⟩
      rcases (addR_keys k v R p.1).1 hm with e | e
      · exact he e
      · exact h.1 e
theorem getK_addR (k : Key) (v : Int) : ∀ (R : List (Key × Int)) (x : Key), getK x (addR k v R) = if x = k then getK k R + v else getK x R
  | [], x => by
    show getK x [(k, v)] = _
    rw [getK_cons]
    split <;> simp [getK]
  | p :: R, x => by
    have ih := getK_addR k v R x
    unfold addR
    by_cases hp : p.1 = k
    · rw [if_pos hp, getK_cons]
      by_cases hx : x = k
      · rw [if_pos hx, if_pos hx, getK_cons, if_pos hp.symm]
      · rw [if_neg hx, if_neg hx, getK_cons, if_neg (fun e => hx (e.trans hp))]
    · rw [if_neg hp, getK_cons, ih]
      by_cases hx : x = k
      · subst hx
        rw [if_neg (fun e => hp e.symm), if_pos rfl, if_pos rfl, getK_cons, if_neg (fun e => hp e.symm)]
      · rw [if_neg hx, if_neg hx, getK_cons]
def rowsR (R L : List (Key × Int)) : List (Key × Int) := L.foldl (fun R a => addR a.1 a.2 R) R
def sumsU (S L : List (Key × Int)) : List (Key × Int) := L.foldl (fun S a => addK a.1 (getK a.1 S + a.2) S) S
def insR (S R : List (Key × Int)) : List (Key × Int) := R.foldl (fun S p => addK p.1 p.2 S) S
structure Alike (R S : List (Key × Int)) : Prop where
  nodup : (R.map Prod.fst).Nodup
  asc : AscK S
  keys : ∀ x, x ∈ R.map Prod.fst ↔ x ∈ S.map Prod.fst
  val : ∀ x, getK x R = getK x S
theorem Alike.step {R S : List (Key × Int)} (h : Alike R S) (k : Key) (v : Int) : Alike (addR k v R) (addK k (getK k S + v) S) :=
  ⟨addR_nodup k v R h.nodup, addK_asc _ _ _ h.asc, fun x => by rw [addR_keys, addK_keys, h.keys], fun x => by rw [getK_addR, getK_addK, h.val, h.val]⟩
theorem Alike.all : ∀ (L : List (Key × Int)) {R S : List (Key × Int)}, Alike R S → Alike (rowsR R L) (sumsU S L)
  | [], _, _, h => h
  | a :: L, _, _, h => Alike.all L (h.step a.1 a.2)
theorem alike0 : Alike [(countK, 1000)] sums0 := ⟨by simp, by simp [AscK, sums0], fun x => by simp [sums0], fun x => rfl⟩
theorem sumsA_some : ∀ (L S T : List (Key × Int)), sumsA S L = some T → T = sumsU S L
  | [], S, T, h => by simp only [sumsA] at h; cases h; rfl
  | a :: L, S, T, h => by
    simp only [sumsA] at h
    split at h
    · cases h
    · exact sumsA_some L _ _ h
theorem sumsU_mono : ∀ (L S : List (Key × Int)) (x : Key), (∀ a ∈ L, 0 ≤ a.2) → getK x S ≤ getK x (sumsU S L)
  | [], S, x, _ => Int.le_refl _
  | a :: L, S, x, h => by
    have h1 := sumsU_mono L (addK a.1 (getK a.1 S + a.2) S) x (fun b hb => h b (List.mem_cons_of_mem _ hb))
    have h2 := h a (List.mem_cons_self ..)
    rw [getK_addK] at h1
    show _ ≤ getK x (sumsU (addK a.1 (getK a.1 S + a.2) S) L)
    by_cases hx : x = a.1
    · subst hx
      rw [if_pos rfl] at h1
      omega
    · rw [if_neg hx] at h1; exact h1
theorem sumsA_none : ∀ (L S : List (Key × Int)), (∀ a ∈ L, 0 ≤ a.2) → sumsA S L = none → ∃ x, getK x (sumsU S L) > 9223372036854775807
  | [], S, _, h => by simp [sumsA] at h
  | a :: L, S, hl, h => by
    simp only [sumsA] at h
    split at h
    · rename_i ho
      refine ⟨a.1, ?_⟩
      have h1 := sumsU_mono L (addK a.1 (getK a.1 S + a.2) S) a.1 (fun b hb => hl b (List.mem_cons_of_mem _ hb))
      rw [getK_addK, if_pos rfl] at h1
      show getK a.1 (sumsU (addK a.1 (getK a.1 S + a.2) S) L) > _
      omega
    · exact sumsA_none L _ (fun b hb => hl b (List.mem_cons_of_mem _ hb)) h
theorem sumsA_le : ∀ (L S T : List (Key × Int)), (∀ x, getK x S ≤ 9223372036854775807) → sumsA S L = some T → ∀ x, getK x T ≤ 9223372036854775807
  | [], S, T, h, hs, x => by simp only [sumsA] at hs; cases hs; exact h x
  | a :: L, S, T, h, hs, x => by
    simp only [sumsA] at hs
    split at hs
    · cases hs
    · rename_i ho
      refine sumsA_le L _ T (fun y => ?_) hs x
      rw [getK_addK]
      split
      · omega
      · exact h y
theorem getK_of_mem : ∀ {R : List (Key × Int)}, (R.map Prod.fst).Nodup → ∀ p ∈ R, getK p.1 R = p.2
  | q :: R, h, p, hp => by
    rw [List.map_cons, List.nodup_cons] at h
    rw [getK_cons]
    rcases List.mem_cons.1 hp with rfl | hp'
    · rw [if_pos rfl]
    · rw [if_neg (fun e => h.1 (by rw [← e]; exact List.mem_map_of_mem hp'))]
      exact getK_of_mem h.2 p hp'
theorem getK_ins : ∀ (R S : List (Key × Int)) (x : Key), (R.map Prod.fst).Nodup → getK x (insR S R) = if x ∈ R.map Prod.fst then getK x R else getK x S
  | [], S, x, _ => by simp [insR]
  | p :: R, S, x, h => by
    rw [List.map_cons, List.nodup_cons] at h
    show getK x (insR (addK p.1 p.2 S) R) = _
    rw [getK_ins R _ x h.2, getK_addK, getK_cons]
    by_cases hx : x = p.1
    · subst hx
      rw [if_neg h.1, if_pos rfl, if_pos (by simp), if_pos rfl]
    · rw [if_neg hx, if_neg hx]
      simp only [List.map_cons, List.mem_cons, hx, false_or]
theorem keys_ins : ∀ (R S : List (Key × Int)) (x : Key), x ∈ (insR S R).map Prod.fst ↔ x ∈ R.map Prod.fst ∨ x ∈ S.map Prod.fst
  | [], S, x => by simp [insR]
  | p :: R, S, x => by
    show x ∈ (insR (addK p.1 p.2 S) R).map Prod.fst ↔ _
    rw [keys_ins R _ x, addK_keys, List.map_cons, List.mem_cons]
    constructor
    · rintro (h | h | h)
      · exact .inl (.inr h)
      · exact .inl (.inl h)
      · exact .inr h
    · rintro ((h | h) | h)
      · exact .inr (.inl h)
      · exact .inl h
      · exact .inr (.inr h)
theorem asc_ins : ∀ (R S : List (Key × Int)), AscK S → AscK (insR S R)
  | [], _, h => h
  | p :: R, S, h => asc_ins R _ (addK_asc _ _ _ h)
theorem asc_cons {p : Key × Int} {S : List (Key × Int)} (h : AscK (p :: S)) : (∀ q ∈ S, p.1 < q.1) ∧ AscK S := List.pairwise_cons.1 h
theorem ascK_ext : ∀ {S T : List (Key × Int)}, AscK S → AscK T → (∀ x, x ∈ S.map Prod.fst ↔ x ∈ T.map Prod.fst) → (∀ x, getK x S = getK x T) → S = T
  | [], [], _, _, _, _ => rfl
  | [], q :: T, _, _, hk, _ => absurd ((hk q.1).2 (by simp)) (by simp)
  | p :: S, [], _, _, hk, _ => absurd ((hk p.1).1 (by simp)) (by simp)
  | p :: S, q :: T, hS, hT, hk, hv => by
    obtain ⟨h1, h2⟩ := asc_cons hS
    obtain ⟨h3, h4⟩ := asc_cons hT
    have e1 : p.1 = q.1 := by
      rcases List.mem_cons.1 ((hk p.1).1 (by simp)) with e | e
      · exact e
      · obtain ⟨r, hr, he⟩ := List.mem_map.1 e
        have hlt : q.1 < p.1 := he ▸ h3 r hr
        rcases List.mem_cons.1 ((hk q.1).2 (by simp)) with f | f
        · exact f.symm
        · obtain ⟨r', hr', he'⟩ := List.mem_map.1 f
          have hlt' : p.1 < q.1 := he' ▸ h1 r' hr'
          exact absurd (List.lt_trans hlt hlt') (List.lt_irrefl _)
    have e2 : p.2 = q.2 := by
      have := hv p.1
      rw [getK_cons, getK_cons, if_pos rfl, if_pos e1] at this
      exact this
    have hpS : p.1 ∉ S.map Prod.fst := fun hm => by
      obtain ⟨r, hr, he⟩ := List.mem_map.1 hm
      have := h1 r hr
      rw [he] at this
      exact List.lt_irrefl _ this
    have hqT : p.1 ∉ T.map Prod.fst := fun hm => by
      obtain ⟨r, hr, he⟩ := List.mem_map.1 hm
      have := h3 r hr
      rw [he, e1] at this
      exact List.lt_irrefl _ this
    have hST : S = T := by
      refine ascK_ext h2 h4 (fun x => ?_) (fun x => ?_)
      · have := hk x
        rw [List.map_cons, List.map_cons, List.mem_cons, List.mem_cons, ← e1] at this
        constructor
        · intro hm
          rcases this.1 (.inr hm) with e | e
          · exact absurd (e ▸ hm) hpS
          · exact e
        · intro hm
          rcases this.2 (.inr hm) with e | e
          · exact absurd (e ▸ hm) hqT
          · exact e
      · by_cases hx : x = p.1
        · subst hx
          rw [getK_none hpS, getK_none hqT]
        · have := hv x
          rwa [getK_cons, getK_cons, if_neg hx, if_neg (by rw [← e1]; exact hx)] at this
    rw [hST]
    congr 1
    exact Prod.ext e1 e2
/-- the document's answer -/
def refV (ps : List PartV) : List (Key × Int) × Int :=
  if (allB ps).any negA = true then ([], 1) else if (rowsR [(countK, 1000)] (allA ps)).any (fun p => decide (p.2 > 9223372036854775807)) = true then ([], 7) else (insR [] (rowsR [(countK, 1000)] (allA ps)), 0)
theorem refV_eq (ps : List PartV) : refV ps = usesV ps := by
  unfold refV
  cases hn : (allB ps).any negA
  · have hpos : ∀ a ∈ allA ps, 0 ≤ a.2 := by
      intro a ha
      rw [← allB_kv] at ha
      obtain ⟨b, hb, rfl⟩ := List.mem_map.1 ha
      have := List.any_eq_false.1 hn b hb
      simpa [negA, kvOf] using this
    have hal := Alike.all (allA ps) alike0
    rw [if_neg (by simp)]
    cases hs : sumsA sums0 ((allB ps).map kvOf) with
    | none =>
      rw [usesV_over hn hs, if_pos]
      rw [allB_kv] at hs
      obtain ⟨x, hx⟩ := sumsA_none _ _ hpos hs
      rw [← hal.val] at hx
      have hm : x ∈ (rowsR [(countK, 1000)] (allA ps)).map Prod.fst := by
        by_cases h : x ∈ (rowsR [(countK, 1000)] (allA ps)).map Prod.fst
        · exact h
        · rw [getK_none h] at hx; omega
      obtain ⟨p, hp, rfl⟩ := List.mem_map.1 hm
      rw [getK_of_mem hal.nodup p hp] at hx
      exact List.any_eq_true.2 ⟨p, hp, by simpa using hx⟩
    | some T =>
      rw [usesV_ok hn hs]
      rw [allB_kv] at hs
      have hT := sumsA_some _ _ _ hs
      have hle := sumsA_le _ _ _ (fun x => by
        show getK x sums0 ≤ _
        unfold sums0
        rw [getK_cons]
        split
        · omega
        · simp [getK]) hs
      rw [hT] at hle
      rw [if_neg]
      · congr 1
        rw [hT]
        refine ascK_ext (asc_ins _ _ (by simp [AscK])) hal.asc (fun x => ?_) (fun x => ?_)
        · rw [keys_ins, ← hal.keys]; simp
        · rw [getK_ins _ _ _ hal.nodup, ← hal.val]
          split
          · rfl
          · rename_i h; rw [getK_none h]; simp [getK]
      · rw [Bool.not_eq_true, List.any_eq_false]
        intro p hp
        have := hle p.1
        rw [← hal.val, getK_of_mem hal.nodup p hp] at this
        simpa using this
  · rw [if_pos rfl, usesV_neg hn]
/-- where a name is put in -/
theorem addK_at (k : Key) (v : Int) : ∀ (l r : List (Key × Int)), (∀ p ∈ l, p.1 < k) → (∀ p ∈ r, k < p.1) → addK k v (l ++ r) = l ++ (k, v) :: r
  | [], [], _, _ => rfl
  | [], p :: r, _, h => by
    have hlt := h p (by simp)
    show addK k v (p :: r) = _
    unfold addK
    rw [if_neg (fun e => by rw [e] at hlt; exact List.lt_irrefl _ hlt), if_pos hlt]; rfl
  | p :: l, r, h, h2 => by
    have hlt := h p (by simp)
    show addK k v (p :: (l ++ r)) = _
    unfold addK
    rw [if_neg (fun e => by rw [e] at hlt; exact List.lt_irrefl _ hlt), if_neg (fun e => List.lt_irrefl _ (List.lt_trans hlt e)), addK_at k v l r (fun q hq => h q (List.mem_cons_of_mem _ hq)) h2]; rfl
end Go.Proofs.Ytdchffghgajbfaa
