/- Plain facts about paths: how a text parts at each '/'. -/
import Derived.Test.YtdchffghgajbfaaDoorA0
import Derived.Lib.Split
namespace Go.Proofs.YtdchffghgajbfaaDoor

def splitC (c : UInt8) : List UInt8 → List (List UInt8)
  | [] => [[]]
  | b :: l => if b = c then [] :: splitC c l else match splitC c l with
    | [] => [[b]]
    | p :: ps => (b :: p) :: ps
theorem splitC_ne (c : UInt8) : ∀ l, splitC c l ≠ []
  | [] => by simp [splitC]
  | b :: l => by
    unfold splitC
    split
    · simp
    · split <;> simp
theorem splitC_length (c : UInt8) : ∀ l, (splitC c l).length = l.count c + 1
  | [] => rfl
  | b :: l => by
    have ih := splitC_length c l
    unfold splitC
    by_cases h : b = c
    · subst h; rw [if_pos rfl, List.length_cons, ih, List.count_cons_self]
    · rw [if_neg h, List.count_cons_of_ne h]
      have hne := splitC_ne c l
      match hs : splitC c l with
      | [] => exact absurd hs hne
      | p :: ps => rw [hs] at ih; simpa using ih

theorem index_one (c : UInt8) : ∀ l, (Lib.index l [c] = -1 ∧ c ∉ l) ∨ ∃ i : Nat, Lib.index l [c] = i ∧ i < l.length ∧ c ∉ l.take i ∧ l[i]? = some c
  | [] => .inl ⟨rfl, by simp⟩
  | b :: l => by
    unfold Lib.index
    by_cases h : c = b
    · subst h
      rw [if_pos (by simp [List.isPrefixOf])]
      exact .inr ⟨0, rfl, by simp, by simp, by simp⟩
    · rw [if_neg (by simp [List.isPrefixOf, h])]
      rcases index_one c l with ⟨h1, h2⟩ | ⟨i, h1, h2, h3, h4⟩
      · rw [h1, if_pos (by decide)]; exact .inl ⟨rfl, by simp [h, h2]⟩
      · rw [if_neg (by rw [h1]; simp), h1]
        exact .inr ⟨i + 1, by omega, by simp; omega, by simp [h, h3], by simpa using h4⟩
theorem splitC_none (c : UInt8) : ∀ l, c ∉ l → splitC c l = [l]
  | [], _ => rfl
  | b :: l, h => by
    have hb : b ≠ c := fun e => h (by simp [e])
    unfold splitC
    rw [if_neg hb, splitC_none c l (fun hh => h (List.mem_cons_of_mem _ hh))]
theorem splitC_at (c : UInt8) : ∀ (l : List UInt8) (i : Nat), l[i]? = some c → c ∉ l.take i → splitC c l = l.take i :: splitC c (l.drop (i + 1))
  | [], i, h, _ => by simp at h
  | b :: l, 0, h, _ => by
    have : b = c := by simpa using h
    subst this; simp [splitC]
  | b :: l, i + 1, h, hn => by
    have hb : b ≠ c := fun e => hn (by simp [e])
    have ih := splitC_at c l i (by simpa using h) (fun hh => hn (by simp [hh]))
    rw [splitC, if_neg hb, ih]; simp
theorem splitK_one (c : UInt8) : ∀ (k : Nat) (l : List UInt8), l.count c ≤ k → Lib.splitK [c] 0 k l = splitC c l
  | 0, l, h => by
    have : c ∉ l := by rw [← List.count_eq_zero]; omega
    rw [splitC_none c l this]; rfl
  | k + 1, l, h => by
    unfold Lib.splitK
    rcases index_one c l with ⟨h1, h2⟩ | ⟨i, h1, h2, h3, h4⟩
    · rw [h1, if_pos (by decide), splitC_none c l h2]
    · rw [if_neg (by rw [h1]; simp), h1, splitC_at c l i h4 h3]
      have e : ((i : Int)).toNat = i := by omega
      rw [e]
      simp only [Nat.add_zero, List.length_singleton]
      rw [splitK_one c k]
      have e2 : l = l.take i ++ c :: l.drop (i + 1) := by
        obtain ⟨hi, hc⟩ := List.getElem?_eq_some_iff.1 h4
        conv => lhs; rw [← List.take_append_drop i l, List.drop_eq_getElem_cons hi, hc]
      rw [e2, List.count_append, List.count_cons_self] at h
      omega
theorem count_one (c : UInt8) (l : List UInt8) : Lib.count l [c] = l.count c := by
  have key : ∀ n (l : List UInt8), l.length ≤ n → Lib.count l [c] = l.count c := by
    intro n
    induction n with
    | zero =>
      intro l hl
      have : l = [] := List.eq_nil_of_length_eq_zero (by omega)
      subst this; rfl
    | succ n ih =>
      intro l hl
      rcases index_one c l with ⟨h1, h2⟩ | ⟨i, h1, h2, h3, h4⟩
      · rw [Lib.count_miss h1, List.count_eq_zero.2 h2]
      · rw [Lib.count_hit (by simp) h1, ih _ (by simp; omega)]
        have e2 : l = l.take i ++ c :: l.drop (i + 1) := by
          obtain ⟨hi, hc⟩ := List.getElem?_eq_some_iff.1 h4
          conv => lhs; rw [← List.take_append_drop i l, List.drop_eq_getElem_cons hi, hc]
        conv => rhs; rw [e2, List.count_append, List.count_cons_self, List.count_eq_zero.2 h3]
        simp; omega
  exact key l.length l (Nat.le_refl _)

/-- the names of a path; none: it is no path -/
def pathL (l : List UInt8) : Option (List (List UInt8)) :=
  if l = [47] then some []
  else if l.head? = some 47 ∧ l.length ≤ 64 ∧ (splitC 47 l.tail).length ≤ 8 ∧ (splitC 47 l.tail).all nameL = true then some (splitC 47 l.tail) else none
def isPath (s : ByteArray) : Bool := (pathL s.data.toList).isSome
def errPath (s : ByteArray) : Int := if isPath s then 0 else 41
def mkB (l : List UInt8) : ByteArray := ⟨l.toArray⟩
theorem mkB_data (l : List UInt8) : (mkB l).data.toList = l := by simp [mkB]
theorem data_mkB (s : ByteArray) : mkB s.data.toList = s := Lib.mk_data s
theorem bytes_inj {s t : ByteArray} (h : s.data.toList = t.data.toList) : s = t := by rw [← data_mkB s, ← data_mkB t, h]
/-- 'label.Under' in plain words -/
def underB (p t : ByteArray) : Bool := isPath p && isPath t && (decide (t.data.toList = [47]) || decide (p = t) || (t.data.toList ++ [47]).isPrefixOf p.data.toList)
end Go.Proofs.YtdchffghgajbfaaDoor
