/- Laid together: Z2. -/
import Derived.Test.YtalkdddeiebfmaaGreatDoorBE
/- The sums of parts laid together, in plain words. No program in sight. -/
namespace Go.Proofs.YtalkdddeiebfmaaGreatDoor

/-- all that is under one name -/
def totK (x : Key) : List (Key × Int) → Int
  | [] => 0
  | a :: L => (if x = a.1 then a.2 else 0) + totK x L
theorem totK_append (x : Key) : ∀ L M : List (Key × Int), totK x (L ++ M) = totK x L + totK x M
  | [], M => by simp [totK]
  | a :: L, M => by simp only [List.cons_append, totK, totK_append x L M]; omega
theorem totK_pos {x : Key} : ∀ {L : List (Key × Int)}, (∀ a ∈ L, 0 ≤ a.2) → 0 ≤ totK x L
  | [], _ => Int.le_refl _
  | a :: L, h => by
    have h1 := totK_pos (x := x) (L := L) fun b hb => h b (List.mem_cons_of_mem _ hb)
    have h2 := h a (List.mem_cons_self ..)
    simp only [totK]
    split <;> omega
theorem totK_none {x : Key} : ∀ {L : List (Key × Int)}, (∀ a ∈ L, a.1 ≠ x) → totK x L = 0
  | [], _ => rfl
  | a :: L, h => by
    simp only [totK]
    rw [if_neg (fun e => h a (List.mem_cons_self ..) e.symm), totK_none fun b hb => h b (List.mem_cons_of_mem _ hb)]; rfl
theorem getK_sumsU : ∀ (L S : List (Key × Int)) (x : Key), getK x (sumsU S L) = getK x S + totK x L
  | [], S, x => by simp [sumsU, totK]
  | a :: L, S, x => by
    show getK x (sumsU (addK a.1 (getK a.1 S + a.2) S) L) = _
    rw [getK_sumsU L _ x, getK_addK]
    simp only [totK]
    by_cases h : x = a.1
    · subst h
      rw [if_pos rfl, if_pos rfl]; omega
    · rw [if_neg h, if_neg h]; omega
theorem keys_sumsU : ∀ (L S : List (Key × Int)) (x : Key), x ∈ (sumsU S L).map Prod.fst ↔ x ∈ S.map Prod.fst ∨ x ∈ L.map Prod.fst
  | [], S, x => by simp [sumsU]
  | a :: L, S, x => by
    show x ∈ (sumsU (addK a.1 (getK a.1 S + a.2) S) L).map Prod.fst ↔ _
    rw [keys_sumsU L _ x, addK_keys, List.map_cons, List.mem_cons]
    constructor
    · rintro ((h | h) | h)
      · exact .inr (.inl h)
      · exact .inl h
      · exact .inr (.inr h)
    · rintro (h | h | h)
      · exact .inl (.inr h)
      · exact .inl (.inl h)
      · exact .inr h
theorem asc_sumsU : ∀ (L S : List (Key × Int)), AscK S → AscK (sumsU S L)
  | [], _, h => h
  | a :: L, S, h => asc_sumsU L _ (addK_asc _ _ _ h)
theorem asc_sums0 : AscK sums0 := by simp [AscK, sums0]
def top : Int := 9223372036854775807
def PosL (L : List (Key × Int)) : Prop := ∀ a ∈ L, 0 ≤ a.2
/-- what Uses tells, by the sums -/
inductive UsesIs (ps : List PartV) (L : List (Key × Int)) : Prop
  | neg (h : ¬ PosL L) (e : usesV ps = ([], 1)) : UsesIs ps L
  | over (h : PosL L) (x : Key) (hx : getK x sums0 + totK x L > top) (e : usesV ps = ([], 7)) : UsesIs ps L
  | good (h : PosL L) (hx : ∀ x, getK x sums0 + totK x L ≤ top) (e : usesV ps = (sumsU sums0 L, 0)) : UsesIs ps L
theorem usesIs (ps : List PartV) : UsesIs ps (allA ps) := by
  cases hn : (allB ps).any negA
  · have hpos : PosL (allA ps) := by
      intro a ha
      rw [← allB_kv] at ha
      obtain ⟨b, hb, rfl⟩ := List.mem_map.1 ha
      have := List.any_eq_false.1 hn b hb
      simpa [negA, kvOf] using this
    cases hs : sumsA sums0 ((allB ps).map kvOf) with
    | none =>
      have he := usesV_over hn hs
      rw [allB_kv] at hs
      obtain ⟨x, hx⟩ := sumsA_none _ _ hpos hs
      rw [getK_sumsU] at hx
      exact .over hpos x hx he
    | some T =>
      have he := usesV_ok hn hs
      rw [allB_kv] at hs
      have hT := sumsA_some _ _ _ hs
      have hle := sumsA_le _ _ _ (fun x => by
        show getK x sums0 ≤ _
        unfold sums0
        rw [getK_cons]
        split
        · omega
        · simp [getK]) hs
      subst hT
      refine .good hpos (fun x => ?_) he
      have := hle x
      rw [getK_sumsU] at this
      exact this
  · refine .neg (fun h => ?_) (usesV_neg hn)
    obtain ⟨b, hb, hb2⟩ := List.any_eq_true.1 hn
    have := h (kvOf b) (by rw [← allB_kv]; exact List.mem_map_of_mem hb)
    simp [negA, kvOf] at hb2 this
    omega
theorem allA_append (p q : List PartV) : allA (p ++ q) = allA p ++ allA q := by unfold allA; rw [List.flatMap_append]
theorem posL_append {L M : List (Key × Int)} : PosL (L ++ M) ↔ PosL L ∧ PosL M := by
  unfold PosL
  constructor
  · exact fun h => ⟨fun a ha => h a (List.mem_append_left _ ha), fun a ha => h a (List.mem_append_right _ ha)⟩
  · rintro ⟨h1, h2⟩ a ha
    rcases List.mem_append.1 ha with h | h
    · exact h1 a h
    · exact h2 a h
theorem allA_key {ps : List PartV} : ∀ a ∈ allA ps, a.1 ≠ countK := by
  intro a ha
  unfold allA at ha
  obtain ⟨p, _, h⟩ := List.mem_flatMap.1 ha
  rcases List.mem_append.1 h with h | h
  · obtain ⟨x, _, rfl⟩ := List.mem_map.1 h
    simp [preA, reqK, countK]
  · obtain ⟨x, _, rfl⟩ := List.mem_map.1 h
    simp [preA, limK, countK]
theorem getK_sums0 (x : Key) : getK x sums0 = if x = countK then 1000 else 0 := by
  unfold sums0
  rw [getK_cons]
  rfl
section
variable {a b c d : List PartV} (hc : allA c = allA a ++ allA b)
include hc
theorem uses_swap (hd : allA d = allA b ++ allA a) : usesV c = usesV d := by
  have ht : ∀ x, totK x (allA c) = totK x (allA d) := fun x => by rw [hc, hd, totK_append, totK_append]; omega
  have hp : PosL (allA c) ↔ PosL (allA d) := by rw [hc, hd, posL_append, posL_append]; exact And.comm
  rcases usesIs c with ⟨h, e⟩ | ⟨h, x, hx, e⟩ | ⟨h, hx, e⟩ <;> rcases usesIs d with ⟨h', e'⟩ | ⟨h', x', hx', e'⟩ | ⟨h', hx', e'⟩
  · rw [e, e']
  · exact absurd (hp.2 h') h
  · exact absurd (hp.2 h') h
  · exact absurd (hp.1 h) h'
  · rw [e, e']
  · rw [ht x] at hx
    have := hx' x
    omega
  · exact absurd (hp.1 h) h'
  · rw [← ht x'] at hx'
    have := hx x'
    omega
  · rw [e, e']
    congr 1
    refine ascK_ext (asc_sumsU _ _ asc_sums0) (asc_sumsU _ _ asc_sums0) (fun x => ?_) (fun x => ?_)
    · rw [keys_sumsU, keys_sumsU, hc, hd]
      simp only [List.map_append, List.mem_append]
      constructor
      · rintro (h | h | h)
        · exact .inl h
        · exact .inr (.inr h)
        · exact .inr (.inl h)
      · rintro (h | h | h)
        · exact .inl h
        · exact .inr (.inr h)
        · exact .inr (.inl h)
    · rw [getK_sumsU, getK_sumsU, ht]
theorem uses_errs (h : (usesV a).2 ≠ 0 ∨ (usesV b).2 ≠ 0) : (usesV c).2 ≠ 0 := by
  rcases usesIs c with ⟨h', e⟩ | ⟨h', x, hx, e⟩ | ⟨h', hx, e⟩
  · rw [e]; simp
  · rw [e]; simp
  · rw [hc, posL_append] at h'
    exfalso
    rcases h with h | h
    · rcases usesIs a with ⟨h2, e2⟩ | ⟨h2, x, hx2, e2⟩ | ⟨h2, hx2, e2⟩
      · exact h2 h'.1
      · have h3 := hx x
        rw [hc, totK_append] at h3
        have := totK_pos (x := x) h'.2
        omega
      · rw [e2] at h; exact h rfl
    · rcases usesIs b with ⟨h2, e2⟩ | ⟨h2, x, hx2, e2⟩ | ⟨h2, hx2, e2⟩
      · exact h2 h'.2
      · have h3 := hx x
        rw [hc, totK_append] at h3
        have := totK_pos (x := x) h'.1
        omega
      · rw [e2] at h; exact h rfl
theorem uses_over7 (h1 : (usesV a).2 = 0) (h2 : (usesV b).2 = 0) (h3 : (usesV c).2 ≠ 0) : (usesV c).2 = 7 := by
  rcases usesIs c with ⟨h', e⟩ | ⟨h', x, hx, e⟩ | ⟨h', hx, e⟩
  · exfalso
    apply h'
    rw [hc, posL_append]
    constructor
    · rcases usesIs a with ⟨h4, e2⟩ | ⟨h4, x, hx2, e2⟩ | ⟨h4, hx2, e2⟩
      · rw [e2] at h1; simp at h1
      · exact h4
      · exact h4
    · rcases usesIs b with ⟨h4, e2⟩ | ⟨h4, x, hx2, e2⟩ | ⟨h4, hx2, e2⟩
      · rw [e2] at h2; simp at h2
      · exact h4
      · exact h4
  · rw [e]
  · rw [e] at h3; exact absurd rfl h3
end
/-- the rising list of sums over L -/
structure SumOf (S L : List (Key × Int)) : Prop where
  asc : AscK S
  pos : PosL L
  mem : ∀ a ∈ L, a.1 ∈ S.map Prod.fst
  val : ∀ x, getK x S = (if x = countK then 1000 else 0) + totK x L
  le : ∀ x, getK x S ≤ 9223372036854775807
theorem sumOf {ps : List PartV} (h : (usesV ps).2 = 0) : SumOf (usesV ps).1 (allA ps) := by
  rcases usesIs ps with ⟨h', e⟩ | ⟨h', x, hx, e⟩ | ⟨h', hx, e⟩
  · rw [e] at h; simp at h
  · rw [e] at h; simp at h
  · rw [e]
    have hv : ∀ x, getK x (sumsU sums0 (allA ps)) = (if x = countK then 1000 else 0) + totK x (allA ps) := fun x => by rw [getK_sumsU, getK_sums0]
    refine ⟨asc_sumsU _ _ asc_sums0, h', fun a ha => (keys_sumsU _ _ _).2 (.inr (List.mem_map_of_mem ha)), hv, fun x => ?_⟩
    have := hx x
    rw [getK_sums0, ← hv] at this
    exact this
theorem uses_add {a b c : List PartV} (hc : allA c = allA a ++ allA b) (h1 : (usesV a).2 = 0) (h2 : (usesV b).2 = 0) (h3 : (usesV c).2 = 0) (x : Key) (hx : x ≠ countK) : getK x (usesV c).1 = getK x (usesV a).1 + getK x (usesV b).1 := by
  rw [(sumOf h1).val, (sumOf h2).val, (sumOf h3).val, if_neg hx, hc, totK_append]
  omega
theorem uses_count {ps : List PartV} (h : (usesV ps).2 = 0) : getK countK (usesV ps).1 = 1000 := by
  rw [(sumOf h).val, if_pos rfl, totK_none allA_key]; rfl
/-- what is left of the sums when D has been taken off -/
def leftV (S D : List (Key × Int)) : List Amt := S.map fun p => amtOf (p.1, p.2 - totK p.1 D)
theorem leftV_len (S D : List (Key × Int)) : (leftV S D).length = S.length := by simp [leftV]
theorem leftV_nil (S : List (Key × Int)) : leftV S [] = S.map amtOf := by
  unfold leftV
  refine List.map_congr_left fun p _ => ?_
  simp [totK]
theorem asc_inj {S : List (Key × Int)} (h : AscK S) {i j : Nat} (hi : i < S.length) (hj : j < S.length) (e : S[i].1 = S[j].1) : i = j := by
  have hpw := List.pairwise_iff_getElem.1 h
  rcases Nat.lt_trichotomy i j with h | h | h
  · have := hpw i j hi hj h; rw [e] at this; exact absurd this (List.lt_irrefl _)
  · exact h
  · have := hpw j i hj hi h; rw [e] at this; exact absurd this (List.lt_irrefl _)
theorem leftV_step {S D : List (Key × Int)} (h : AscK S) {t : Nat} (ht : t < S.length) (ht2 : t < (leftV S D).length) (v : Int) : (leftV S D).set t ⟨(leftV S D)[t].name, (leftV S D)[t].val - v⟩ = leftV S (D ++ [(S[t].1, v)]) := by
  refine List.ext_getElem (by simp [leftV]) fun i h1 h2 => ?_
  have hi : i < S.length := by simpa [leftV] using h2
  rw [List.getElem_set]
  by_cases e : t = i
  · subst e
    rw [if_pos rfl]
    simp only [leftV, List.getElem_map, amtOf, totK_append, totK, if_true]
    congr 1
    omega
  · rw [if_neg e]
    have : S[i].1 ≠ S[t].1 := fun he => e (asc_inj h hi ht he).symm
    simp only [leftV, List.getElem_map, amtOf, totK_append, totK, if_neg this]
    congr 1
    omega
/-- the values stay between -/
theorem SumOf.left {S L D R : List (Key × Int)} (h : SumOf S L) (hL : L = D ++ R) {t : Nat} (ht : t < S.length) : 0 ≤ S[t].2 - totK S[t].1 D ∧ S[t].2 - totK S[t].1 D ≤ 9223372036854775807 := by
  have hn : (S.map Prod.fst).Nodup := ascK_nodup h.asc
  have h1 := getK_of_mem hn _ (List.getElem_mem ht)
  have h2 := h.val S[t].1
  have h3 := h.le S[t].1
  have hp := h.pos
  rw [hL, posL_append] at hp
  rw [hL, totK_append] at h2
  have h4 := totK_pos (x := S[t].1) hp.1
  have h5 := totK_pos (x := S[t].1) hp.2
  rw [h1] at h2 h3
  constructor
  · split at h2 <;> omega
  · omega
theorem SumOf.last {S L : List (Key × Int)} (h : SumOf S L) {t : Nat} (ht : t < S.length) : S[t].2 - totK S[t].1 L = if S[t].1 = countK then 1000 else 0 := by
  have hn : (S.map Prod.fst).Nodup := ascK_nodup h.asc
  have h1 := getK_of_mem hn _ (List.getElem_mem ht)
  have h2 := h.val S[t].1
  rw [h1] at h2
  omega
end Go.Proofs.YtalkdddeiebfmaaGreatDoor
