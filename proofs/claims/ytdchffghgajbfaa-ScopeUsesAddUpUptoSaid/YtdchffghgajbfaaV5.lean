/- The scopes in plain words: all that are valid, their texts, the scope with a text, those that an object lies in. -/
import Derived.Test.YtdchffghgajbfaaU8
namespace Go.Proofs.Ytdchffghgajbfaa

/-- of one kind: those with an argument from -1 on -/
def rowS (k : Int) (n : Nat) : List ScV := ((List.range n).map fun (j : Nat) => ScV.mk k ((j : Int) - 1)).filter validS
/-- of the kinds from -1 on -/
def scopesTo (k : Nat) : List ScV := (List.range k).flatMap fun (i : Nat) => rowS ((i : Int) - 1) 13
def allS : List ScV := [⟨0, 0⟩, ⟨1, 0⟩, ⟨2, 0⟩, ⟨3, 0⟩, ⟨4, 0⟩, ⟨5, 0⟩, ⟨5, 1⟩, ⟨5, 2⟩, ⟨5, 3⟩, ⟨5, 4⟩, ⟨5, 5⟩, ⟨5, 6⟩, ⟨5, 7⟩, ⟨5, 8⟩, ⟨5, 9⟩]
theorem rowS_len (k : Int) (n : Nat) : (rowS k n).length ≤ n := by
  unfold rowS
  exact Nat.le_trans (List.length_filter_le _ _) (by simp)
theorem rowS_step (k : Int) (n : Nat) : rowS k (n + 1) = rowS k n ++ (if validS ⟨k, (n : Int) - 1⟩ then [⟨k, (n : Int) - 1⟩] else []) := by
  unfold rowS
  rw [List.range_succ, List.map_append, List.filter_append]
  congr 1
  simp only [List.map_cons, List.map_nil, List.filter_cons, List.filter_nil]
theorem scopesTo_step (k : Nat) : scopesTo (k + 1) = scopesTo k ++ rowS ((k : Int) - 1) 13 := by
  unfold scopesTo
  rw [List.range_succ, List.flatMap_append]
  simp
theorem scopesTo_len (k : Nat) : (scopesTo k).length ≤ 13 * k := by
  induction k with
  | zero => simp [scopesTo]
  | succ k ih =>
    rw [scopesTo_step, List.length_append]
    have := rowS_len ((k : Int) - 1) 13
    omega
theorem scopesTo_all : scopesTo 9 = allS := by decide
theorem allS_valid : ∀ s ∈ allS, validS s = true := by decide

/-- a scope's text -/
def digB (a : Int) : ByteArray := ⟨#[UInt8.ofNat (48 + a.toNat)]⟩
def textS (s : ScV) : ByteArray := if s.kind = 5 then textK 5 ++ digB s.arg else textK s.kind
def printS (s : ScV) : ByteArray × Int := if validS s then (textS s, 0) else (⟨#[]⟩, 150)
/-- the first of a list with that text -/
def parseIn (l : List ScV) (t : ByteArray) : ScV × Int :=
  match l.find? fun s => decide (textS s = t) with
  | some s => (s, 0)
  | none => (⟨0, 0⟩, 150)
def parseS (t : ByteArray) : ScV × Int := parseIn allS t
theorem parse_text : ∀ s ∈ allS, parseS (textS s) = (s, 0) := by decide
/-- those of all in which an object lies -/
theorem in_all (prio dl : Int) (ps : List PartV) : allS.filter (inS prio dl ps) = [⟨0, 0⟩, ⟨if namedP ps then 2 else 1, 0⟩, ⟨if dl > 0 then 3 else 4, 0⟩] ++ (if 0 ≤ prio ∧ prio ≤ 9 then [⟨5, prio⟩] else []) := by
  have h5 : ∀ a : Int, inS prio dl ps ⟨5, a⟩ = (validS ⟨5, a⟩ && decide (prio = a)) := fun a => by simp [inS, liesS]
  have hf : (([0, 1, 2, 3, 4, 5, 6, 7, 8, 9] : List Int).map (ScV.mk 5)).filter (inS prio dl ps) = if 0 ≤ prio ∧ prio ≤ 9 then [⟨5, prio⟩] else [] := by
    by_cases hp : 0 ≤ prio ∧ prio ≤ 9
    · rw [if_pos hp]
      have : prio = 0 ∨ prio = 1 ∨ prio = 2 ∨ prio = 3 ∨ prio = 4 ∨ prio = 5 ∨ prio = 6 ∨ prio = 7 ∨ prio = 8 ∨ prio = 9 := by omega
      rcases this with rfl | rfl | rfl | rfl | rfl | rfl | rfl | rfl | rfl | rfl <;> simp [List.filter_cons, h5, validS]
    · rw [if_neg hp]
      refine List.filter_eq_nil_iff.2 fun s hs => ?_
      obtain ⟨a, ha, rfl⟩ := List.mem_map.1 hs
      rw [h5]
      simp only [List.mem_cons, List.not_mem_nil, or_false] at ha
      simp only [Bool.and_eq_true, decide_eq_true_eq, not_and]
      intro _
      omega
  have he : allS = [⟨0, 0⟩, ⟨1, 0⟩, ⟨2, 0⟩, ⟨3, 0⟩, ⟨4, 0⟩] ++ ([0, 1, 2, 3, 4, 5, 6, 7, 8, 9] : List Int).map (ScV.mk 5) := rfl
  rw [he, List.filter_append, hf]
  congr 1
  by_cases hd : dl > 0
  · have hd2 : ¬ dl ≤ 0 := by omega
    cases hn : namedP ps <;> simp [List.filter_cons, inS, liesS, validS, hn, hd, hd2]
  · have hd2 : dl ≤ 0 := by omega
    cases hn : namedP ps <;> simp [List.filter_cons, inS, liesS, validS, hn, hd, hd2]
theorem of_all (o : ObjV) : ofS o 6 = allS.filter (inS o.prio o.dl o.parts) := by
  rw [in_all]
  have he : (List.range 6).map (scopeK o.prio) = [⟨0, 0⟩, ⟨1, 0⟩, ⟨2, 0⟩, ⟨3, 0⟩, ⟨4, 0⟩, ⟨5, o.prio⟩] := rfl
  unfold ofS
  rw [he]
  have h5 : inS o.prio o.dl o.parts ⟨5, o.prio⟩ = decide (0 ≤ o.prio ∧ o.prio ≤ 9) := by
    simp [inS, liesS, validS]
    by_cases h : 0 ≤ o.prio <;> simp [h] <;> omega
  by_cases hd : o.dl > 0
  · have hd2 : ¬ o.dl ≤ 0 := by omega
    cases hn : namedP o.parts <;> by_cases hp : 0 ≤ o.prio ∧ o.prio ≤ 9 <;> simp [List.filter_cons, h5, inS, liesS, validS, hn, hd, hd2, hp] <;> omega
  · have hd2 : o.dl ≤ 0 := by omega
    cases hn : namedP o.parts <;> by_cases hp : 0 ≤ o.prio ∧ o.prio ≤ 9 <;> simp [List.filter_cons, h5, inS, liesS, validS, hn, hd, hd2, hp] <;> omega
end Go.Proofs.Ytdchffghgajbfaa
