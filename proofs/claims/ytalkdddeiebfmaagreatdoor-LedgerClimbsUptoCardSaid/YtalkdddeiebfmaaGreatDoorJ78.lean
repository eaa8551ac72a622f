/- LedgerClimbs: sums of prefixes, the path above has no less (printed by mksums.py). -/
import Derived.Test.YtalkdddeiebfmaaGreatDoorJ77
import Derived.Test.YtalkdddeiebfmaaGreatDoorJ74
namespace Go.Proofs.YtalkdddeiebfmaaGreatDoor
open Go.RowKit

theorem sumC_step {Rs : List Sh} {j : Nat} (hj : j < Rs.length) (p : ByteArray) (s : ScV) (r : ByteArray) : sumC (Rs.take (j + 1)) p s r = sumC (Rs.take j) p s r + if childOf p s r Rs[j] = true then Rs[j].2 else 0 := by
  unfold sumC
  rw [List.take_succ_eq_append_getElem hj, List.filter_append, List.map_append, List.sum_append]
  by_cases h : childOf p s r Rs[j] = true
  · rw [if_pos h]; simp [h]
  · rw [if_neg h]; simp [h]
theorem sumC_nonneg {p : ByteArray} {s : ScV} {r : ByteArray} : ∀ {l : List Sh}, (∀ z ∈ l, 0 ≤ z.2) → 0 ≤ sumC l p s r
  | [], _ => by simp [sumC]
  | z :: l, h => by
    have h1 := h z (by simp)
    have h2 := sumC_nonneg (p := p) (s := s) (r := r) (l := l) fun y hy => h y (List.mem_cons_of_mem _ hy)
    unfold sumC at h2 ⊢
    rw [List.filter_cons]
    split
    · rw [List.map_cons, List.sum_cons]; omega
    · exact h2
theorem sumC_le {Rs : List Sh} (h : ∀ z ∈ Rs, 0 ≤ z.2) (j : Nat) (p : ByteArray) (s : ScV) (r : ByteArray) : 0 ≤ sumC (Rs.take j) p s r ∧ sumC (Rs.take j) p s r ≤ sumC Rs p s r := by
  refine ⟨sumC_nonneg fun z hz => h z (List.mem_of_mem_take hz), ?_⟩
  have h1 : sumC Rs p s r = sumC (Rs.take j) p s r + sumC (Rs.drop j) p s r := by
    unfold sumC
    rw [← List.sum_append, ← List.map_append, ← List.filter_append, List.take_append_drop]
  have h2 := sumC_nonneg (p := p) (s := s) (r := r) (l := Rs.drop j) fun z hz => h z (List.mem_of_mem_drop hz)
  omega
theorem mineW_nonneg {h : ObjM} (hz : (sharesV h.v).2.2 = 0) (p : ByteArray) (s : ScV) (r : ByteArray) : 0 ≤ mineW h p s r := by
  unfold mineW
  split
  · exact valAt_nonneg fun u hu => (usesU_pos (shares_path hz).2.1 u hu).1
  · exact Int.le_refl _
theorem sumM_append (l l' : List ObjM) (p : ByteArray) (s : ScV) (r : ByteArray) : sumM (l ++ l') p s r = sumM l p s r + sumM l' p s r := by
  unfold sumM
  rw [List.map_append, List.sum_append]
theorem sumM_nonneg {p : ByteArray} {s : ScV} {r : ByteArray} : ∀ {l : List ObjM}, (∀ o ∈ l, (sharesV o.v).2.2 = 0) → 0 ≤ sumM l p s r
  | [], _ => by simp [sumM]
  | o :: l, h => by
    have h1 := mineW_nonneg (h o (by simp)) p s r
    have h2 := sumM_nonneg (p := p) (s := s) (r := r) (l := l) fun q hq => h q (List.mem_cons_of_mem _ hq)
    unfold sumM at h2 ⊢
    rw [List.map_cons, List.sum_cons]; omega
theorem sumM_take {held : List ObjM} {i : Nat} (hi : i < held.length) (hz : ∀ o ∈ held, (sharesV o.v).2.2 = 0) (p : ByteArray) (s : ScV) (r : ByteArray) : sumM (held.take (i + 1)) p s r = sumM (held.take i) p s r + mineW held[i] p s r ∧ sumM (held.take (i + 1)) p s r ≤ sumM held p s r ∧ 0 ≤ sumM (held.take i) p s r := by
  refine ⟨by rw [List.take_succ_eq_append_getElem hi, sumM_append]; simp [sumM], ?_, sumM_nonneg fun o ho => hz o (List.mem_of_mem_take ho)⟩
  have h1 := sumM_append (held.take (i + 1)) (held.drop (i + 1)) p s r
  rw [List.take_append_drop] at h1
  have h2 := sumM_nonneg (p := p) (s := s) (r := r) (l := held.drop (i + 1)) fun o ho => hz o (List.mem_of_mem_drop ho)
  omega
theorem map_le_sum {α : Type} {f g : α → Int} : ∀ {l : List α}, (∀ a ∈ l, f a ≤ g a) → (l.map f).sum ≤ (l.map g).sum
  | [], _ => Int.le_refl _
  | a :: l, h => by
    have h1 := h a (by simp)
    have h2 := map_le_sum (f := f) (g := g) (l := l) fun b hb => h b (List.mem_cons_of_mem _ hb)
    rw [List.map_cons, List.map_cons, List.sum_cons, List.sum_cons]; omega
section
variable {S : Pl → Int} {C : ByteArray → Int} {held : List ObjM}
theorem under_up {o : ObjM} (hz : (sharesV o.v).2.2 = 0) {p : ByteArray} (hr : p ≠ rootB) (h : underB o.path p = true) : underB o.path (parentB p) = true := under_mem.2 (parent_mem (shares_path hz).1 (under_mem.1 h) hr)
/-- the path above has no less -/
theorem up_ge (inv : BookInv S C held) {p : ByteArray} (hr : p ≠ rootB) (s : ScV) (r : ByteArray) : S (p, (s.kind, s.arg), r) ≤ S (parentB p, (s.kind, s.arg), r) ∧ C p ≤ C (parentB p) := by
  rw [inv.sum, inv.sum, ← sumW_at inv.acc, ← sumW_at inv.acc, inv.cnt, inv.cnt, cntAt_under inv.acc, cntAt_under inv.acc]
  refine ⟨map_le_sum fun o ho => ?_, map_le_sum fun o ho => ?_⟩
  · have hz := inv.acc o ho
    by_cases h : underB o.path p = true ∧ inS o.prio o.dl o.parts s = true
    · unfold partW
      rw [if_pos h, if_pos ⟨under_up hz hr h.1, h.2⟩]
      exact Int.le_refl _
    · have h1 : partW o p s r = 0 := by unfold partW; exact if_neg h
      rw [h1]
      exact partW_nonneg hz _ _ _
  · have hz := inv.acc o ho
    by_cases h : underB o.path p = true
    · rw [if_pos h, if_pos (under_up hz hr h)]; exact Int.le_refl _
    · rw [if_neg h]; split <;> omega
theorem up_path {p : ByteArray} (hp : isPath p = true) (hr : p ≠ rootB) : (parentB p).size ≤ 64 := (lineB_path (parent_mem hp (self_line hp) hr)).2
end
theorem use_one (u : Sh) : (#[.string u.1.1, .int .i64 u.1.2.1.1, .int .i64 u.1.2.1.2, .string u.1.2.2, .int .i64 u.2] : Array Value).all (·.oneCell') = true := by
  refine Array.all_eq_true_iff_forall_mem.2 fun v hv => ?_
  simp only [List.mem_toArray, List.mem_cons, List.not_mem_nil, or_false] at hv
  rcases hv with rfl | rfl | rfl | rfl | rfl <;> rfl
end Go.Proofs.YtalkdddeiebfmaaGreatDoor
