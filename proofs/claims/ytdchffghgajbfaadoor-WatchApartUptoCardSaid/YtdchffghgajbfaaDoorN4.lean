/- The document's line of a path in plain words. No program in sight. -/
import Derived.Test.YtdchffghgajbfaaDoorN3
namespace Go.Proofs.YtdchffghgajbfaaDoor

def joinL (xs : List (List UInt8)) : List UInt8 := xs.flatMap (fun x => 47 :: x)
theorem joinL_cons (x : List UInt8) (xs : List (List UInt8)) : joinL (x :: xs) = 47 :: (x ++ joinL xs) := by simp [joinL]
theorem joinL_append (xs ys : List (List UInt8)) : joinL (xs ++ ys) = joinL xs ++ joinL ys := by simp [joinL]
theorem joinL_split : ∀ l : List UInt8, joinL (splitC 47 l) = 47 :: l
  | [] => rfl
  | b :: l => by
    have ih := joinL_split l
    unfold splitC
    by_cases hb : b = 47
    · subst hb; rw [if_pos rfl, joinL_cons, ih]; rfl
    · rw [if_neg hb]
      match hs : splitC 47 l with
      | [] => exact absurd hs (splitC_ne 47 l)
      | p :: ps =>
        rw [hs, joinL_cons] at ih
        simp only [joinL_cons, List.cons_append]
        rw [List.cons.inj ih |>.2]
theorem splitC_append (c : UInt8) : ∀ a b : List UInt8, splitC c (a ++ c :: b) = splitC c a ++ splitC c b
  | [], b => by simp [splitC]
  | x :: a, b => by
    have ih := splitC_append c a b
    rw [List.cons_append, splitC, splitC]
    by_cases hx : x = c
    · rw [if_pos hx, if_pos hx, ih]; rfl
    · rw [if_neg hx, if_neg hx, ih]
      match hs : splitC c a with
      | [] => exact absurd hs (splitC_ne c a)
      | p :: ps => simp
theorem nameL_no {l : List UInt8} (h : nameL l = true) : (47 : UInt8) ∉ l := fun hm => by
  unfold nameL at h
  simp only [Bool.and_eq_true, List.all_eq_true] at h
  have := h.2 47 hm
  revert this; decide
theorem splitC_join : ∀ xs : List (List UInt8), xs ≠ [] → (∀ x ∈ xs, (47 : UInt8) ∉ x) → splitC 47 (joinL xs).tail = xs
  | [], h, _ => absurd rfl h
  | [x], _, h => by
    rw [joinL_cons, List.tail_cons, show joinL [] = [] from rfl, List.append_nil]
    exact splitC_none 47 x (h x (by simp))
  | x :: y :: xs, _, h => by
    have ih := splitC_join (y :: xs) (by simp) (fun z hz => h z (by simp [hz]))
    rw [joinL_cons, List.tail_cons]
    rw [joinL_cons] at ih ⊢
    rw [splitC_append, splitC_none 47 x (h x (by simp))]
    rw [List.tail_cons] at ih
    rw [ih]; rfl

/-- a path's text -/
def joinP (xs : List (List UInt8)) : List UInt8 := if xs = [] then [47] else joinL xs
def nm (p : ByteArray) : List (List UInt8) := (pathL p.data.toList).getD []
theorem pathNames_nm (p : ByteArray) : pathNames p = (nm p).map mkB := rfl
theorem path_cases {l : List UInt8} {ns : List (List UInt8)} (h : pathL l = some ns) : (l = [47] ∧ ns = []) ∨ (l ≠ [47] ∧ l = joinL ns ∧ ns ≠ [] ∧ ns.length ≤ 8 ∧ l.length ≤ 64 ∧ ns.all nameL = true) := by
  unfold pathL at h
  split at h
  · rename_i h0; exact .inl ⟨h0, (Option.some.inj h).symm⟩
  · rename_i h0
    split at h
    · rename_i hc
      have e := Option.some.inj h
      subst e
      refine .inr ⟨h0, ?_, splitC_ne _ _, hc.2.2.1, hc.2.1, hc.2.2.2⟩
      rw [joinL_split]
      cases l with
      | nil => simp at hc
      | cons b l => have : b = 47 := by simpa using hc.1
                    subst this; rfl
    · cases h
theorem pathL_join {ns : List (List UInt8)} (h1 : ns.length ≤ 8) (h2 : (joinP ns).length ≤ 64) (h3 : ns.all nameL = true) : pathL (joinP ns) = some ns := by
  unfold joinP at h2 ⊢
  by_cases h0 : ns = []
  · rw [if_pos h0, h0]; rfl
  · rw [if_neg h0] at h2 ⊢
    have hs := splitC_join ns h0 (fun x hx => nameL_no (List.all_eq_true.1 h3 x hx))
    unfold pathL
    have hne : joinL ns ≠ [47] := fun e => by
      rw [e] at hs
      have : ns = [[]] := by simpa [splitC] using hs.symm
      subst this
      simp [nameL] at h3
    have hh : (joinL ns).head? = some 47 := by
      cases ns with
      | nil => exact absurd rfl h0
      | cons x xs => rw [joinL_cons]; rfl
    rw [if_neg hne, hs, if_pos ⟨hh, h2, h1, h3⟩]

/-- what a path's names are -/
structure PathOk (p : ByteArray) : Prop where
  text : p.data.toList = joinP (nm p)
  few : (nm p).length ≤ 8
  short : p.size ≤ 64
  names : (nm p).all nameL = true
theorem pathOk {p : ByteArray} (h : isPath p = true) : PathOk p := by
  unfold isPath at h
  obtain ⟨ns, hns⟩ := Option.isSome_iff_exists.1 h
  have e : nm p = ns := by unfold nm; rw [hns]; rfl
  have hl := data_len p
  rcases path_cases hns with ⟨h1, h2⟩ | ⟨_, h2, h3, h4, h5, h6⟩
  · have e2 : nm p = [] := by rw [e, h2]
    refine ⟨by rw [e2]; exact h1, by rw [e2]; exact Nat.zero_le _, by rw [← hl, h1]; decide, by rw [e2]; rfl⟩
  · refine ⟨by rw [e]; unfold joinP; rw [if_neg h3]; exact h2, by rw [e]; exact h4, by omega, by rw [e]; exact h6⟩
theorem joinL_take_le (ns : List (List UInt8)) (k : Nat) : (joinL (ns.take k)).length ≤ (joinL ns).length := by
  conv => rhs; rw [← List.take_append_drop k ns, joinL_append, List.length_append]
  omega
theorem joinP_le (ns : List (List UInt8)) (k : Nat) (h : (joinP ns).length ≤ 64) : (joinP (ns.take k)).length ≤ 64 := by
  unfold joinP at h ⊢
  split
  · decide
  · rename_i h1
    have h2 : ns ≠ [] := fun e => h1 (by rw [e]; simp)
    rw [if_neg h2] at h
    have := joinL_take_le ns k
    omega
theorem names_take {ns : List (List UInt8)} (k : Nat) (h : ns.all nameL = true) : (ns.take k).all nameL = true := List.all_eq_true.2 fun x hx => List.all_eq_true.1 h x (List.mem_of_mem_take hx)

/-- a path and all above it, the path of k names first -/
def lineTo (ns : List (List UInt8)) : Nat → List ByteArray
  | 0 => [mkB [47]]
  | k + 1 => mkB (joinP (ns.take (k + 1))) :: lineTo ns k
theorem lineTo_length (ns : List (List UInt8)) : ∀ k, (lineTo ns k).length = k + 1
  | 0 => rfl
  | k + 1 => by rw [lineTo, List.length_cons, lineTo_length ns k]
theorem mem_lineTo (ns : List (List UInt8)) (t : ByteArray) : ∀ k, t ∈ lineTo ns k ↔ ∃ j, j ≤ k ∧ t = mkB (joinP (ns.take j))
  | 0 => by
    constructor
    · intro h; exact ⟨0, Nat.le_refl _, by simpa [lineTo, joinP] using h⟩
    · rintro ⟨j, hj, rfl⟩; have : j = 0 := by omega
      subst this; simp [lineTo, joinP]
  | k + 1 => by
    rw [lineTo, List.mem_cons, mem_lineTo ns t k]
    constructor
    · rintro (h | ⟨j, hj, h⟩)
      · exact ⟨k + 1, Nat.le_refl _, h⟩
      · exact ⟨j, by omega, h⟩
    · rintro ⟨j, hj, h⟩
      by_cases e : j = k + 1
      · subst e; exact .inl h
      · exact .inr ⟨j, by omega, h⟩
def lineB (p : ByteArray) : List ByteArray := if isPath p = true then lineTo (nm p) (nm p).length else []
theorem eq_mkB {t : ByteArray} {l : List UInt8} : t = mkB l ↔ t.data.toList = l := ⟨fun h => by rw [h, mkB_data], fun h => bytes_inj (by rw [h, mkB_data])⟩
theorem joinP_nil : joinP [] = [47] := rfl
theorem joinP_ne {ns : List (List UInt8)} (h : ns ≠ []) : joinP ns = joinL ns := by unfold joinP; rw [if_neg h]

theorem prefix_of_take {ns : List (List UInt8)} {j : Nat} (h0 : ns.take j ≠ []) (hj : j < ns.length) : (joinP (ns.take j) ++ [47]).isPrefixOf (joinP ns) = true := by
  have h1 : ns ≠ [] := fun e => by subst e; simp at hj
  rw [joinP_ne h0, joinP_ne h1]
  rw [List.isPrefixOf_iff_prefix]
  conv => rhs; rw [← List.take_append_drop j ns, joinL_append, List.drop_eq_getElem_cons hj, joinL_cons]
  exact ⟨ns[j] ++ joinL (ns.drop (j + 1)), by simp⟩
theorem take_of_prefix {ns ms : List (List UInt8)} (hm0 : ms ≠ []) (hn : ns.all nameL = true) (hm : ms.all nameL = true) (h : (joinP ms ++ [47]).isPrefixOf (joinP ns) = true) : ms.length ≤ ns.length ∧ ms = ns.take ms.length := by
  rw [List.isPrefixOf_iff_prefix, joinP_ne hm0] at h
  obtain ⟨r, hr⟩ := h
  have hn0 : ns ≠ [] := fun e => by
    subst e
    rw [joinP_nil] at hr
    have h1 := congrArg List.length hr
    cases ms with
    | nil => exact hm0 rfl
    | cons m ms => rw [joinL_cons] at h1; simp at h1
  rw [joinP_ne hn0] at hr
  have h1 := splitC_join ns hn0 (fun x hx => nameL_no (List.all_eq_true.1 hn x hx))
  have h2 := splitC_join ms hm0 (fun x hx => nameL_no (List.all_eq_true.1 hm x hx))
  have h3 : (joinL ns).tail = (joinL ms).tail ++ 47 :: r := by
    rw [← hr]
    cases ms with
    | nil => exact absurd rfl hm0
    | cons m ms => rw [joinL_cons]; simp
  rw [h3, splitC_append, h2] at h1
  exact ⟨by rw [← h1]; simp, by rw [← h1]; simp⟩

theorem under_line (p t : ByteArray) : underB p t = (lineB p).any (fun x => x.toList == t.toList) := by
  have hany : ((lineB p).any (fun x => x.toList == t.toList) = true) ↔ t ∈ lineB p := by
    rw [List.any_eq_true]
    constructor
    · rintro ⟨x, hx, he⟩
      have : x = t := bytes_inj (by rw [← toList_eq, ← toList_eq]; simpa using he)
      rwa [← this]
    · intro h; exact ⟨t, h, by simp⟩
  rw [Bool.eq_iff_iff, hany]
  unfold lineB
  cases hp : isPath p with
  | false => rw [if_neg (by simp)]; simp [underB, hp]
  | true =>
    rw [if_pos rfl, mem_lineTo]
    have P := pathOk hp
    unfold underB
    rw [hp, Bool.true_and]
    constructor
    · intro h
      rw [Bool.and_eq_true] at h
      obtain ⟨ht, h⟩ := h
      have T := pathOk ht
      simp only [Bool.or_eq_true, decide_eq_true_iff] at h
      rcases h with (h | h) | h
      · exact ⟨0, Nat.zero_le _, eq_mkB.2 (by rw [h]; rfl)⟩
      · subst h
        exact ⟨(nm p).length, Nat.le_refl _, eq_mkB.2 (by rw [List.take_length]; exact P.text)⟩
      · by_cases h0 : nm t = []
        · exact ⟨0, Nat.zero_le _, eq_mkB.2 (by rw [T.text, h0]; rfl)⟩
        · rw [T.text, P.text] at h
          obtain ⟨h1, h2⟩ := take_of_prefix h0 P.names T.names h
          exact ⟨(nm t).length, h1, eq_mkB.2 (by rw [← h2]; exact T.text)⟩
    · rintro ⟨j, hj, h⟩
      have hd := eq_mkB.1 h
      have hP64 : (joinP (nm p)).length ≤ 64 := by rw [← P.text, data_len]; exact P.short
      have ht : isPath t = true := by
        unfold isPath
        rw [hd, pathL_join (by rw [List.length_take]; have := P.few; omega) (joinP_le _ _ hP64) (names_take _ P.names)]
        rfl
      rw [ht, Bool.true_and]
      simp only [Bool.or_eq_true, decide_eq_true_iff]
      by_cases h0 : (nm p).take j = []
      · left; left; rw [hd, h0]; rfl
      · by_cases hjl : j < (nm p).length
        · right; rw [hd, P.text]; exact prefix_of_take h0 hjl
        · left; right
          refine bytes_inj ?_
          rw [hd, List.take_of_length_le (by omega)]; exact P.text
end Go.Proofs.YtdchffghgajbfaaDoor
