/- Replay in plain words: names as lists of bytes. No program in sight. -/
import Derived.Test.YtdchffghgajbfaaDoorN12
import Derived.Sort.KeysCollected
import Derived.Maps.Views
namespace Go.Proofs.YtdchffghgajbfaaDoor
open Go.Maps

abbrev Tx := List UInt8
def textE (e : Ev) : Tx := e.path.data.toList ++ 32 :: e.name.data.toList
def placedL (s : Tx) : List Tx → List Tx
  | [] => [s]
  | x :: l => if x = s then x :: l else if s < x then s :: x :: l else x :: placedL s l
def Asc (l : List Tx) : Prop := l.Pairwise (· < ·)
theorem tx_lt {x s : Tx} (h1 : x ≠ s) (h2 : ¬ s < x) : x < s := by
  have h3 : x ≤ s := List.not_lt.1 h2
  by_cases h4 : x < s
  · exact h4
  · exact absurd (List.le_antisymm h3 (List.not_lt.1 h4)) h1
theorem placedL_mem (s : Tx) : ∀ (l : List Tx) (x : Tx), x ∈ placedL s l ↔ x = s ∨ x ∈ l
  | [], x => by simp [placedL]
  | y :: l, x => by
    unfold placedL
    split
    · rename_i h
      subst h
      constructor
      · exact .inr
      · rintro (rfl | h)
        · simp
        · exact h
    · split
      · simp
      · rw [List.mem_cons, placedL_mem s l x, List.mem_cons]
        constructor
        · rintro (h | h | h)
          · exact .inr (.inl h)
          · exact .inl h
          · exact .inr (.inr h)
        · rintro (h | h | h)
          · exact .inr (.inl h)
          · exact .inl h
          · exact .inr (.inr h)
theorem placedL_asc (s : Tx) : ∀ l : List Tx, Asc l → Asc (placedL s l)
  | [], _ => by simp [placedL, Asc]
  | y :: l, h => by
    unfold Asc at h
    rw [List.pairwise_cons] at h
    unfold placedL
    split
    · exact List.pairwise_cons.2 h
    · rename_i hne
      split
      · rename_i hlt
        refine List.pairwise_cons.2 ⟨?_, List.pairwise_cons.2 h⟩
        intro z hz
        rcases List.mem_cons.1 hz with rfl | hz
        · exact hlt
        · exact List.lt_trans hlt (h.1 z hz)
      · rename_i hlt
        refine List.pairwise_cons.2 ⟨?_, placedL_asc s l h.2⟩
        intro z hz
        rcases (placedL_mem s l z).1 hz with rfl | hz
        · exact tx_lt hne hlt
        · exact h.1 z hz
def stepR (kind : Int) (path : ByteArray) (T : List Tx) (e : Ev) : List Tx :=
  if (decide (e.kind = kind) && underB e.path path) = true then (if e.gone = true then T.filter (fun x => !decide (x = textE e)) else placedL (textE e) T) else T
def namesR (names : List Tx) : List Tx := names.foldl (fun T n => placedL n T) []
def replayL (kind : Int) (path : ByteArray) (names : List Tx) (l : List Ev) : List Tx := l.foldl (stepR kind path) (namesR names)
theorem Asc.filter {l : List Tx} (h : Asc l) (p : Tx → Bool) : Asc (l.filter p) := List.Pairwise.filter p h
theorem stepR_asc (kind : Int) (path : ByteArray) {T : List Tx} (e : Ev) (h : Asc T) : Asc (stepR kind path T e) := by
  unfold stepR
  split
  · split
    · exact h.filter _
    · exact placedL_asc _ _ h
  · exact h
theorem foldl_asc {α : Type} (f : List Tx → α → List Tx) (hf : ∀ T x, Asc T → Asc (f T x)) : ∀ (l : List α) (T : List Tx), Asc T → Asc (l.foldl f T)
  | [], _, h => h
  | x :: l, T, h => foldl_asc f hf l _ (hf T x h)
theorem namesR_asc (names : List Tx) : Asc (namesR names) := foldl_asc _ (fun T n h => placedL_asc n T h) _ _ (by simp [Asc])
theorem replayL_asc (kind : Int) (path : ByteArray) (names : List Tx) (l : List Ev) : Asc (replayL kind path names l) := foldl_asc _ (fun T e h => stepR_asc kind path e h) _ _ (namesR_asc names)
theorem namesR_take {names : List Tx} {k : Nat} (hk : k < names.length) : namesR (names.take (k + 1)) = placedL names[k] (namesR (names.take k)) := by
  unfold namesR; rw [List.take_succ_eq_append_getElem hk, List.foldl_append]; rfl
theorem replayL_take (kind : Int) (path : ByteArray) (names : List Tx) {l : List Ev} {k : Nat} (hk : k < l.length) : replayL kind path names (l.take (k + 1)) = stepR kind path (replayL kind path names (l.take k)) l[k] := by
  unfold replayL; rw [List.take_succ_eq_append_getElem hk, List.foldl_append]; rfl
theorem placedL_len (s : Tx) : ∀ l : List Tx, (placedL s l).length ≤ l.length + 1
  | [] => by simp [placedL]
  | y :: l => by
    have := placedL_len s l
    unfold placedL
    split
    · simp
    · split
      · simp
      · simp; omega
theorem namesR_len (names : List Tx) : ∀ k, k ≤ names.length → (namesR (names.take k)).length ≤ k
  | 0, _ => by simp [namesR]
  | k + 1, h => by
    rw [namesR_take (by omega)]
    have := namesR_len names k (by omega)
    have := placedL_len (names[k]'(by omega)) (namesR (names.take k))
    omega
theorem stepR_len (kind : Int) (path : ByteArray) (T : List Tx) (e : Ev) : (stepR kind path T e).length ≤ T.length + 1 := by
  unfold stepR
  split
  · split
    · have := List.length_filter_le (fun x => !decide (x = textE e)) T; omega
    · exact placedL_len _ _
  · omega
theorem replayL_len (kind : Int) (path : ByteArray) (names : List Tx) (l : List Ev) : ∀ k, k ≤ l.length → (replayL kind path names (l.take k)).length ≤ names.length + k
  | 0, _ => by
    have := namesR_len names names.length (Nat.le_refl _)
    rw [List.take_length] at this
    simpa [replayL] using this
  | k + 1, h => by
    rw [replayL_take kind path names (by omega)]
    have := replayL_len kind path names l k (by omega)
    have := stepR_len kind path (replayL kind path names (l.take k)) (l[k]'(by omega))
    omega

/-- the map has just these keys -/
def KeyRel {H : Type} (D : DataW H) (T : List Tx) : Prop := IsMap D ∧ ∀ x, has D (.string x) = decide (x ∈ T)
section
variable {H : Type} {D : DataW H} {T : List Tx}
theorem KeyRel.empty : KeyRel (H := H) (.map []) [] := ⟨isMap_empty, fun x => by simp [has]⟩
theorem KeyRel.put (h : KeyRel D T) (s : Tx) (d : DataW H) : KeyRel (D.put (.string s) d) (placedL s T) := by
  refine ⟨h.1.put _ _, fun x => ?_⟩
  by_cases hx : x = s
  · subst hx
    rw [has_put_same h.1 (by simp [WideAt.IsKeyLit]), decide_eq_true]
    exact (placedL_mem _ _ _).2 (.inl rfl)
  · rw [has_put_other (by simpa using hx), h.2 x]
    simp [placedL_mem, hx]
theorem KeyRel.del (h : KeyRel D T) (s : Tx) : KeyRel (D.del (.string s)) (T.filter fun x => !decide (x = s)) := by
  refine ⟨h.1.del _, fun x => ?_⟩
  by_cases hx : x = s
  · subst hx
    rw [has_del_same]; simp
  · rw [has_del_other (by simpa using hx), h.2 x]
    simp [hx]
theorem asc_nodup {T : List Tx} (h : Asc T) : T.Nodup := List.Pairwise.imp (fun {a b} hab e => by subst e; exact List.lt_irrefl _ hab) h
/-- the keys, sorted, are the rising list -/
theorem KeyRel.sorted {P : Program} {k : TypeId} {R : Value → Option (DataW H × List MemPlace)} {w : World} {b n : Nat} (h : KeyRel D T) (hT : Asc T) (hown : w.ownsMap P k R b n D) (K : Keyed P k) (hk : P.underlying k = some .string) {ss : List Tx} (hp : ss.Perm (strKeys D)) : ss.mergeSort leB = T := by
  have hc : Collected D (fun _ => false) T := ⟨asc_nodup hT, fun x => by rw [h.2 x]; simp⟩
  have h2 := hc.perm hown K hk (fun _ => rfl)
  rw [mergeSort_of_perm (hp.trans h2.symm)]
  exact List.mergeSort_of_pairwise (List.Pairwise.imp (fun {a b} hab => by simp only [leB, decide_eq_true_eq]; exact List.le_of_lt hab) hT)
end
end Go.Proofs.YtdchffghgajbfaaDoor
