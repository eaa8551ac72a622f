/- What is charged in any order: plain. -/
import Derived.Test.YtalkdddeiebfmaaGreatDoorJ26
namespace Go.Proofs.YtalkdddeiebfmaaGreatDoor

def sumAt (os : List ObjM) (x : Pl) : Int := (os.map fun o => svL (sharesV o.v).2.1 x).sum
def cntAt (os : List ObjM) (p : ByteArray) : Int := (os.map fun o => cvL (sharesV o.v).1 p).sum
theorem sumAt_cons (o : ObjM) (os : List ObjM) (x : Pl) : sumAt (o :: os) x = svL (sharesV o.v).2.1 x + sumAt os x := rfl
theorem cntAt_cons (o : ObjM) (os : List ObjM) (p : ByteArray) : cntAt (o :: os) p = cvL (sharesV o.v).1 p + cntAt os p := rfl
theorem perm_sum_int {l l' : List Int} (h : l.Perm l') : l.sum = l'.sum := by
  induction h with
  | nil => rfl
  | cons x _ ih => simp [ih]
  | swap x y l => simp only [List.sum_cons]; omega
  | trans _ _ ih1 ih2 => exact ih1.trans ih2
theorem sumAt_perm {os os' : List ObjM} (h : os.Perm os') (x : Pl) : sumAt os x = sumAt os' x := perm_sum_int (h.map _)
theorem cntAt_perm {os os' : List ObjM} (h : os.Perm os') (p : ByteArray) : cntAt os p = cntAt os' p := perm_sum_int (h.map _)
/-- an accepted charge -/
theorem chargeV_acc {S S' : Pl → Int} {C C' : ByteArray → Int} {o : ObjV} (h : chargeV S C o = (0, S', C')) : (sharesV o).2.2 = 0 ∧ judgeA S (sharesV o).2.1 = 0 ∧ S' = addS 1 S (sharesV o).2.1 ∧ C' = addC 1 C (sharesV o).1 := by
  unfold chargeV at h
  split at h
  · rename_i h1; exact absurd (congrArg Prod.fst h) h1
  · rename_i h1
    split at h
    · rename_i h2; exact absurd (congrArg Prod.fst h) h2
    · rename_i h2
      have e1 := congrArg (fun r => r.2.1) h
      have e2 := congrArg (fun r => r.2.2) h
      exact ⟨Decidable.of_not_not h1, Decidable.of_not_not h2, e1.symm, e2.symm⟩
theorem ofV_acc : ∀ {os : List ObjM} {S S' : Pl → Int} {C C' : ByteArray → Int}, ofV S C os = (0, S', C') → (∀ x, S' x = S x + sumAt os x) ∧ ∀ p, C' p = C p + cntAt os p
  | [], S, S', C, C', h => by
    have e1 : S = S' := congrArg (fun r => r.2.1) h
    have e2 : C = C' := congrArg (fun r => r.2.2) h
    subst e1; subst e2
    exact ⟨fun x => by simp [sumAt], fun p => by simp [cntAt]⟩
  | o :: os, S, S', C, C', h => by
    unfold ofV at h
    split at h
    · rename_i h1; exact absurd (congrArg Prod.fst h) h1
    · rename_i h1
      obtain ⟨⟨z, S1, C1⟩, hc⟩ : ∃ r, chargeV S C o.v = r := ⟨_, rfl⟩
      rw [hc] at h h1
      obtain rfl : z = 0 := Decidable.of_not_not h1
      obtain ⟨-, -, rfl, rfl⟩ := chargeV_acc hc
      have ih := ofV_acc h
      refine ⟨fun x => ?_, fun p => ?_⟩
      · rw [ih.1]; simp only [addS_svL, sumAt_cons]; omega
      · rw [ih.2]; simp only [addC_cvL, cntAt_cons]; omega
theorem ofV_snoc {os : List ObjM} {S S' S2 : Pl → Int} {C C' C2 : ByteArray → Int} {o : ObjM} (h : ofV S C os = (0, S', C')) (hc : chargeV S' C' o.v = (0, S2, C2)) : ofV S C (os ++ [o]) = (0, S2, C2) := by
  induction os generalizing S C with
  | nil =>
    have e1 : S = S' := congrArg (fun r => r.2.1) h
    have e2 : C = C' := congrArg (fun r => r.2.2) h
    subst e1; subst e2
    show (if (chargeV S C o.v).1 ≠ 0 then _ else _ : LRes) = _
    rw [hc, if_neg (by simp)]; rfl
  | cons q os ih =>
    rw [List.cons_append]
    unfold ofV at h ⊢
    split at h
    · rename_i h1; exact absurd (congrArg Prod.fst h) h1
    · rename_i h1
      rw [if_neg h1]
      exact ih h
/-- a list of all places, none twice -/
theorem order_perm {n : Nat} {ks : List Nat} (hn : ks.Nodup) (hl : ks.length = n) (hk : ∀ k ∈ ks, k < n) : ks.Perm (List.range n) := by
  refine (List.perm_ext_iff_of_nodup hn List.nodup_range).2 fun k => ⟨fun h => List.mem_range.2 (hk k h), fun h => ?_⟩
  refine Classical.byContradiction fun hk' => ?_
  have h1 := nodup_le (k :: ks) (List.range n) (List.nodup_cons.2 ⟨hk', hn⟩) fun x hx => by
    rcases List.mem_cons.1 hx with rfl | hx
    · exact h
    · exact List.mem_range.2 (hk x hx)
  simp at h1; omega
theorem getD_range {α : Type} (l : List α) (d : α) : (List.range l.length).map (fun k => l.getD k d) = l := by
  refine List.ext_getElem (by simp) fun i h1 h2 => ?_
  simp only [List.getElem_map, List.getElem_range, List.getD_eq_getElem?_getD]
  rw [List.getElem?_eq_getElem h2]; rfl
theorem ordered_perm {os : List ObjM} {ks : List Nat} (d : ObjM) (hn : ks.Nodup) (hl : ks.length = os.length) (hk : ∀ k ∈ ks, k < os.length) : (ks.map fun k => os.getD k d).Perm os := by
  have h := (order_perm hn hl hk).map fun k => os.getD k d
  rw [getD_range] at h
  exact h
end Go.Proofs.YtalkdddeiebfmaaGreatDoor
