/- label.Split, label.Path, label.Under. -/
import Derived.Test.YtdchffghgajbfaaA1
import Derived.Test.YtdchffghgajbfaaP0
import Derived.Test.YtdchffghgajbfaaK2
import Derived.Test.YtdchffghgajbfaaShelf
namespace Go.Proofs.Ytdchffghgajbfaa
open Go.RowKit

/-- the library's own variable holds some int -/
def Ml (w : World) : Prop := ∃ m, w.cell? ⟨0, 0, none⟩ = some (.int .i64 m)
theorem Ml.below {w w' : World} (h : Ml w) (hb : Below w.heap.size w w') : Ml w' := let ⟨m, hc⟩ := h; ⟨m, (hb.cell (World.block_lt_of_cell? w _ hc)).trans hc⟩

theorem Ml.low {w : World} (h : Ml w) : 0 < w.heap.size := let ⟨_, hc⟩ := h; World.block_lt_of_cell? w _ hc
theorem Ml.belowB {w w' : World} {B : Nat} (h : Ml w) (hb : Below B w w') (hB : 0 < B) : Ml w' := let ⟨m, hc⟩ := h; ⟨m, (hb.cell (p := ⟨0, 0, none⟩) hB).trans hc⟩
theorem Ml.turn {w w' : World} {S : Nat → Prop} (h : Ml w) (hb : Turn S w w') (hS : ¬ S 0) : Ml w' := let ⟨m, hc⟩ := h; ⟨m, hb.cell hc hS⟩
def pathNames (s : ByteArray) : List ByteArray := ((pathL s.data.toList).getD []).map mkB
def SplitPost (s : ByteArray) (w : World) (e : Ending) (w' : World) : Prop :=
  ∃ v, e = .returned (.tuple #[v, .int .i64 (errPath s)]) ∧ Sl Kn.str (fun k => w.heap.size ≤ k) w' v (pathNames s) ∧ Below w.heap.size w w'

theorem split_no (s : ByteArray) (w w' : World) (h : pathL s.data.toList = none) (hb : Below w.heap.size w w') : SplitPost s w (.returned (.tuple #[.slice none 0 0, .int .i64 41])) w' :=
  ⟨_, by rw [show errPath s = 41 by simp [errPath, isPath, h]], by unfold pathNames; rw [h]; exact Sl.nil _ _ _, hb⟩
theorem split_yes (s : ByteArray) (w w' : World) (v : Value) (l : List (List UInt8)) (h : pathL s.data.toList = some l) (hs : Sl Kn.str (fun k => w.heap.size ≤ k) w' v (l.map mkB)) (hb : Below w.heap.size w w') : SplitPost s w (.returned (.tuple #[v, .int .i64 0])) w' :=
  ⟨_, by rw [show errPath s = 0 by simp [errPath, isPath, h]], by unfold pathNames; rw [h]; exact hs, hb⟩

theorem toList_eq (s : ByteArray) : s.toList = s.data.toList := Lib.toList_data s
theorem splitB_slash (r : ByteArray) : Lib.splitB ⟨#[47]⟩ 0 (Lib.countB r ⟨#[47]⟩) r = (splitC 47 r.data.toList).map mkB := by
  have h := Lib.splitB_data ⟨#[47]⟩ 0 (Lib.countB r ⟨#[47]⟩) r
  have hc : Lib.countB r ⟨#[47]⟩ = r.data.toList.count 47 := count_one 47 r.data.toList
  have h2 : Lib.splitK [47] 0 (Lib.countB r ⟨#[47]⟩) r.data.toList = splitC 47 r.data.toList := splitK_one 47 _ _ (by rw [hc]; exact Nat.le_refl _)
  rw [show (⟨#[47]⟩ : ByteArray).data.toList = [47] from rfl, h2] at h
  rw [← h, List.map_map]
  conv => lhs; rw [← List.map_id (Lib.splitB ⟨#[47]⟩ 0 (Lib.countB r ⟨#[47]⟩) r)]
  exact List.map_congr_left fun x _ => (data_mkB x).symm
theorem flat_str (w : World) (P : Nat → Prop) (ss : List ByteArray) : Flat Kn.str P w ss (ss.map Value.string) := by
  refine ⟨by simp [Kn.str, Kn.scalar], fun i hi => ?_⟩
  show ((ss.map Value.string).drop (i * 1)).take 1 = [Value.string ss[i]]
  rw [Nat.mul_one, List.drop_eq_getElem_cons (by simpa using hi)]; simp
theorem prefix_slash {l : List UInt8} (h : Lib.hasPrefix l [47] = true) : l.head? = some 47 ∧ Lib.trimPrefix l [47] = l.tail := by
  match l with
  | [] => simp [Lib.hasPrefix, List.isPrefixOf] at h
  | b :: l =>
    have hb : b = 47 := by
      simp [Lib.hasPrefix, List.isPrefixOf] at h
      exact h.symm
    subst hb
    exact ⟨rfl, by unfold Lib.trimPrefix; rw [if_pos h]; rfl⟩

theorem row_str_at {P : Nat → Prop} {w : World} {A : Option Addr} {ss : List ByteArray} (h : Row Kn.str P w A ss) (i : Nat) (hi : i < ss.length) : ∃ a, A = some a ∧ w.cell? (a.add i) = some (.string ss[i]) := by
  obtain ⟨a, cs, hA, _, hr, hc⟩ := h.at_ i hi
  refine ⟨a, hA, ?_⟩
  have := hc 0 (.string ss[i]) (by rw [show cs = [Value.string ss[i]] from hr]; rfl)
  simpa [Kn.str, Kn.scalar] using this

theorem errPath_cases (s : ByteArray) : (isPath s = true ∧ errPath s = 0) ∨ (isPath s = false ∧ errPath s = 41) := by
  unfold errPath; cases isPath s <;> simp

theorem isPath_size {s : ByteArray} (h : isPath s = true) : s.size ≤ 64 := by
  unfold isPath pathL at h
  rw [← data_len]
  split at h
  · rename_i e; rw [e]; simp
  · split at h
    · rename_i e; exact e.2.1
    · cases h
theorem concat_slash (t : ByteArray) : (t ++ ⟨#[47]⟩ : ByteArray).data.toList = t.data.toList ++ [47] := by simp

end Go.Proofs.Ytdchffghgajbfaa
