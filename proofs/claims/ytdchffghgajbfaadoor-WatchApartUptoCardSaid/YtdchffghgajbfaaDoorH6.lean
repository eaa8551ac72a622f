/- The document's hub in plain words: all events above from, seen as the same history. No program in sight. -/
import Derived.Test.YtdchffghgajbfaaDoorH5
namespace Go.Proofs.YtdchffghgajbfaaDoor
open Go.RowKit

/-- both hubs forget the same -/
theorem HistOk.uniq {first : Int} {ps : List (List Ev)} {d1 d2 : Nat} (h1 : HistOk first ps d1) (h2 : HistOk first ps d2) : d1 = d2 := by
  rcases Nat.lt_trichotomy d1 d2 with h | h | h
  · have := h2.tight d1 h; have := h1.fit; omega
  · exact h
  · have := h1.tight d2 h; have := h2.fit; omega
theorem flatten_sumL (ls : List (List Ev)) : ls.flatten.length = sumL ls := by simp [sumL, List.length_flatten]
/-- the versions above one more -/
theorem drop_one {first : Int} {ps : List (List Ev)} {d : Nat} (hv : ∀ i (h : i < ps.length), ∀ e ∈ ps[i], e.ver = first + 1 + i) : (ps.drop d).flatten.filter (fun e => decide (e.ver > first + d + 1)) = (ps.drop (d + 1)).flatten := by
  by_cases hlt : d < ps.length
  · rw [List.drop_eq_getElem_cons hlt, List.flatten_cons, List.filter_append]
    have h1 : (ps[d]).filter (fun e => decide (e.ver > first + d + 1)) = [] := List.filter_eq_nil_iff.2 fun e he => by have := hv d hlt e he; simp; omega
    have h2 : (ps.drop (d + 1)).flatten.filter (fun e => decide (e.ver > first + d + 1)) = (ps.drop (d + 1)).flatten := List.filter_eq_self.2 fun e he => by
      obtain ⟨l, hl, he⟩ := List.mem_flatten.1 he
      obtain ⟨i, hi, rfl⟩ := List.getElem_of_mem hl
      rw [List.length_drop] at hi
      rw [List.getElem_drop] at he
      have := hv (d + 1 + i) (by omega) e he
      simp; omega
    rw [h1, h2]; rfl
  · rw [List.drop_eq_nil_of_le (by omega), List.drop_eq_nil_of_le (by omega)]; rfl
/-- the events of a version that lie in a path -/
theorem of_version {first : Int} {ps : List (List Ev)} {d i : Nat} (hv : ∀ i (h : i < ps.length), ∀ e ∈ ps[i], e.ver = first + 1 + i) (hd : d ≤ i) (hi : i < ps.length) (path : ByteArray) :
    (ps.drop d).flatten.filter (fun e => decide (e.ver = first + 1 + i) && underB e.path path) = inP path ps[i] := by
  have e1 : ps.drop d = (ps.drop d).take (i - d) ++ ps[i] :: ps.drop (i + 1) := by
    rw [← List.drop_eq_getElem_cons hi]
    have := List.take_append_drop (i - d) (ps.drop d)
    rw [List.drop_drop, show d + (i - d) = i by omega] at this
    exact this.symm
  rw [e1, List.flatten_append, List.flatten_cons, List.filter_append, List.filter_append]
  have h1 : ((ps.drop d).take (i - d)).flatten.filter (fun e => decide (e.ver = first + 1 + i) && underB e.path path) = [] := List.filter_eq_nil_iff.2 fun e he => by
    obtain ⟨l, hl, he⟩ := List.mem_flatten.1 he
    obtain ⟨j, hj, rfl⟩ := List.getElem_of_mem hl
    rw [List.length_take, List.length_drop] at hj
    rw [List.getElem_take, List.getElem_drop] at he
    have := hv (d + j) (by omega) e he
    simp; omega
  have h2 : (ps.drop (i + 1)).flatten.filter (fun e => decide (e.ver = first + 1 + i) && underB e.path path) = [] := List.filter_eq_nil_iff.2 fun e he => by
    obtain ⟨l, hl, he⟩ := List.mem_flatten.1 he
    obtain ⟨j, hj, rfl⟩ := List.getElem_of_mem hl
    rw [List.length_drop] at hj
    rw [List.getElem_drop] at he
    have := hv (i + 1 + j) (by omega) e he
    simp; omega
  rw [h1, h2, List.nil_append, List.append_nil]
  refine List.filter_congr fun e he => ?_
  rw [decide_eq_true (hv i hi e he)]; simp
end Go.Proofs.YtdchffghgajbfaaDoor
