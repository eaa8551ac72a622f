/- What is there at a version: in plain words, and the law's walk. -/
import Derived.Test.YtdchffghgajbfaaDoorM4
import Derived.Test.YtdchffghgajbfaaDoorL4
namespace Go.Proofs.YtdchffghgajbfaaDoor
open Go.RowKit

def stepT (kind : Int) (path : ByteArray) (T : List Tx) (e : Ev) : List Tx :=
  if (decide (e.kind = kind) && underB e.path path) = true then (T.filter fun x => !decide (x = textE e)) ++ (if e.gone = true then [] else [textE e]) else T
def stepV (ver kind : Int) (path : ByteArray) (T : List Tx) (e : Ev) : List Tx := if e.ver ≤ ver then stepT kind path T e else T
def thereL (ver kind : Int) (path : ByteArray) (L : List Ev) : List Tx := L.foldl (stepV ver kind path) []
def SameMem (T T' : List Tx) : Prop := ∀ x, x ∈ T ↔ x ∈ T'
theorem stepT_nodup (kind : Int) (path : ByteArray) {T : List Tx} (e : Ev) (h : T.Nodup) : (stepT kind path T e).Nodup := by
  unfold stepT
  split
  · split
    · rw [List.append_nil]; exact h.filter _
    · rw [List.nodup_append]
      refine ⟨h.filter _, by simp, fun a ha b hb e => ?_⟩
      subst e
      rw [List.mem_singleton] at hb
      subst hb
      simp at ha
  · exact h
theorem stepV_nodup (ver kind : Int) (path : ByteArray) {T : List Tx} (e : Ev) (h : T.Nodup) : (stepV ver kind path T e).Nodup := by
  unfold stepV
  split
  · exact stepT_nodup kind path e h
  · exact h
theorem foldl_nodup {α : Type} (f : List Tx → α → List Tx) (hf : ∀ T x, T.Nodup → (f T x).Nodup) : ∀ (l : List α) (T : List Tx), T.Nodup → (l.foldl f T).Nodup
  | [], _, h => h
  | x :: l, T, h => foldl_nodup f hf l _ (hf T x h)
theorem thereL_nodup (ver kind : Int) (path : ByteArray) (L : List Ev) : (thereL ver kind path L).Nodup := foldl_nodup _ (fun T e h => stepV_nodup ver kind path e h) _ _ List.nodup_nil
theorem step_same (kind : Int) (path : ByteArray) {T T' : List Tx} (e : Ev) (h : SameMem T T') : SameMem (stepR kind path T e) (stepT kind path T' e) := by
  unfold stepR stepT
  split
  · split
    · intro x; simp [h x]
    · intro x
      rw [placedL_mem, h x]
      by_cases hx : x = textE e <;> simp [hx]
  · exact h
theorem foldl_same (kind : Int) (path : ByteArray) : ∀ (l : List Ev) {T T' : List Tx}, SameMem T T' → SameMem (l.foldl (stepR kind path) T) (l.foldl (stepT kind path) T')
  | [], _, _, h => h
  | e :: l, _, _, h => foldl_same kind path l (step_same kind path e h)
theorem namesR_same (names : List Tx) : SameMem (namesR names) names := by
  have key : ∀ (l : List Tx) (T : List Tx) (x : Tx), x ∈ l.foldl (fun T n => placedL n T) T ↔ x ∈ T ∨ x ∈ l := by
    intro l
    induction l with
    | nil => intro T x; simp
    | cons n l ih =>
      intro T x
      rw [List.foldl_cons, ih, placedL_mem, List.mem_cons]
      constructor
      · rintro ((h | h) | h)
        · exact .inr (.inl h)
        · exact .inl h
        · exact .inr (.inr h)
      · rintro (h | h | h)
        · exact .inl (.inr h)
        · exact .inl (.inl h)
        · exact .inr h
  intro x
  unfold namesR
  rw [key]; simp
theorem foldl_under (kind : Int) (path : ByteArray) : ∀ (l : List Ev) (T : List Tx), (l.filter fun e => underB e.path path).foldl (stepR kind path) T = l.foldl (stepR kind path) T
  | [], _ => rfl
  | e :: l, T => by
    cases hu : underB e.path path
    · rw [List.filter_cons_of_neg (by simp [hu]), foldl_under kind path l T, List.foldl_cons, stepR_skip (by rw [hu]; simp)]
    · rw [List.filter_cons_of_pos (by simp [hu]), List.foldl_cons, List.foldl_cons, foldl_under kind path l]
theorem foldl_all (ver kind : Int) (path : ByteArray) : ∀ (l : List Ev) (T : List Tx), (∀ e ∈ l, e.ver ≤ ver) → l.foldl (stepV ver kind path) T = l.foldl (stepT kind path) T
  | [], _, _ => rfl
  | e :: l, T, h => by
    rw [List.foldl_cons, List.foldl_cons, foldl_all ver kind path l _ fun x hx => h x (List.mem_cons_of_mem _ hx)]
    unfold stepV; rw [if_pos (h e (by simp))]
theorem foldl_none (ver kind : Int) (path : ByteArray) : ∀ (l : List Ev) (T : List Tx), (∀ e ∈ l, ¬ e.ver ≤ ver) → l.foldl (stepV ver kind path) T = T
  | [], _, _ => rfl
  | e :: l, T, h => by
    rw [List.foldl_cons, foldl_none ver kind path l _ fun x hx => h x (List.mem_cons_of_mem _ hx)]
    unfold stepV; rw [if_neg (h e (by simp))]
/-- who had the list at a version, and replays the events since, has the list of now -/
theorem enough_law (kind from_ high : Int) (path : ByteArray) (L1 L2 : List Ev) (h1 : ∀ e ∈ L1, e.ver ≤ from_) (h2 : ∀ e ∈ L2, from_ < e.ver ∧ e.ver ≤ high) (hfh : from_ ≤ high) :
    SameMem (replayL kind path (thereL from_ kind path (L1 ++ L2)) (L2.filter fun e => underB e.path path)) (thereL high kind path (L1 ++ L2)) ∧
      (replayL kind path (thereL from_ kind path (L1 ++ L2)) (L2.filter fun e => underB e.path path)).length = (thereL high kind path (L1 ++ L2)).length := by
  have hA : thereL from_ kind path (L1 ++ L2) = L1.foldl (stepT kind path) [] := by
    unfold thereL
    rw [List.foldl_append, foldl_all from_ kind path L1 [] h1, foldl_none from_ kind path L2 _ fun e he => by have := (h2 e he).1; omega]
  have hB : thereL high kind path (L1 ++ L2) = L2.foldl (stepT kind path) (L1.foldl (stepT kind path) []) := by
    unfold thereL
    rw [List.foldl_append, foldl_all high kind path L1 [] fun e he => by have := h1 e he; omega, foldl_all high kind path L2 _ fun e he => (h2 e he).2]
  have hm : SameMem (replayL kind path (thereL from_ kind path (L1 ++ L2)) (L2.filter fun e => underB e.path path)) (thereL high kind path (L1 ++ L2)) := by
    rw [hB]
    unfold replayL
    rw [foldl_under, hA]
    exact foldl_same kind path L2 (namesR_same _)
  refine ⟨hm, ?_⟩
  have hn1 := asc_nodup (replayL_asc kind path (thereL from_ kind path (L1 ++ L2)) (L2.filter fun e => underB e.path path))
  have hn2 := thereL_nodup high kind path (L1 ++ L2)
  exact ((List.perm_ext_iff_of_nodup hn1 hn2).2 hm).length_eq
theorem thereL_take (ver kind : Int) (path : ByteArray) {L : List Ev} {i : Nat} (hi : i < L.length) : thereL ver kind path (L.take (i + 1)) = stepV ver kind path (thereL ver kind path (L.take i)) L[i] := by
  unfold thereL; rw [List.take_succ_eq_append_getElem hi, List.foldl_append]; rfl
theorem stepV_skip {ver kind : Int} {path : ByteArray} {T : List Tx} {e : Ev} (h : (decide (e.ver ≤ ver) && (decide (e.kind = kind) && underB e.path path)) = false) : stepV ver kind path T e = T := by
  unfold stepV stepT
  by_cases h1 : e.ver ≤ ver
  · rw [if_pos h1, if_neg (by rw [decide_eq_true h1, Bool.true_and] at h; rw [h]; simp)]
  · rw [if_neg h1]
theorem stepV_do {ver kind : Int} {path : ByteArray} {T : List Tx} {e : Ev} (h1 : e.ver ≤ ver) (h2 : e.kind = kind) (h3 : underB e.path path = true) : stepV ver kind path T e = (T.filter fun x => !decide (x = textE e)) ++ (if e.gone = true then [] else [textE e]) := by
  unfold stepV stepT
  rw [if_pos h1, if_pos (by rw [h3]; simp [h2])]
/-- every text there is an event's -/
theorem stepV_mem (ver kind : Int) (path : ByteArray) {T : List Tx} (e : Ev) {x : Tx} (h : x ∈ stepV ver kind path T e) : x ∈ T ∨ x = textE e := by
  unfold stepV stepT at h
  split at h
  · split at h
    · rcases List.mem_append.1 h with h | h
      · exact .inl ((List.mem_filter.1 h).1)
      · split at h
        · cases h
        · exact .inr (List.mem_singleton.1 h)
    · exact .inl h
  · exact .inl h
theorem mem_thereL (ver kind : Int) (path : ByteArray) (L : List Ev) {x : Tx} (h : x ∈ thereL ver kind path L) : ∃ e ∈ L, x = textE e := by
  have key : ∀ (l : List Ev) (T : List Tx), x ∈ l.foldl (stepV ver kind path) T → x ∈ T ∨ ∃ e ∈ l, x = textE e := by
    intro l
    induction l with
    | nil => intro T h; exact .inl h
    | cons e l ih =>
      intro T h
      rcases ih _ h with h | ⟨e', he, hx⟩
      · rcases stepV_mem ver kind path e h with h | h
        · exact .inl h
        · exact .inr ⟨e, by simp, h⟩
      · exact .inr ⟨e', List.mem_cons_of_mem _ he, hx⟩
  rcases key L [] h with h | h
  · cases h
  · exact h
theorem stepV_len (ver kind : Int) (path : ByteArray) (T : List Tx) (e : Ev) : (stepV ver kind path T e).length ≤ T.length + 1 := by
  unfold stepV stepT
  split
  · split
    · rw [List.length_append]
      have := List.length_filter_le (fun x => !decide (x = textE e)) T
      split <;> simp <;> omega
    · omega
  · omega
theorem thereL_len (ver kind : Int) (path : ByteArray) (L : List Ev) : (thereL ver kind path L).length ≤ L.length := by
  have key : ∀ (l : List Ev) (T : List Tx), (l.foldl (stepV ver kind path) T).length ≤ T.length + l.length := by
    intro l
    induction l with
    | nil => intro T; simp
    | cons e l ih => intro T; have := ih (stepV ver kind path T e); have := stepV_len ver kind path T e; rw [List.foldl_cons, List.length_cons]; omega
  simpa [thereL] using key L []
end Go.Proofs.YtdchffghgajbfaaDoor
