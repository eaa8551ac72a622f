/- The book's sums are the sums over what is held: plain. No program in sight. -/
import Derived.Test.YtalkdddeiebfmaaGreatDoorJ66
namespace Go.Proofs.YtalkdddeiebfmaaGreatDoor

theorem sum_out {α : Type} [DecidableEq α] (V : Int) (x : α) : ∀ {l : List α}, x ∉ l → (l.map fun a => if a = x then V else 0).sum = 0
  | [], _ => by simp
  | a :: l, h => by
    rw [List.mem_cons, not_or] at h
    rw [List.map_cons, List.sum_cons, sum_out V x h.2, if_neg (fun e => h.1 e.symm)]; rfl
theorem sum_in {α : Type} [DecidableEq α] (V : Int) (x : α) : ∀ {l : List α}, l.Nodup → x ∈ l → (l.map fun a => if a = x then V else 0).sum = V
  | [], _, h => by cases h
  | a :: l, hn, h => by
    rw [List.nodup_cons] at hn
    rw [List.map_cons, List.sum_cons]
    rcases List.mem_cons.1 h with e | e
    · subst e
      rw [if_pos rfl, sum_out V x hn.1]; omega
    · rw [if_neg (fun e2 => hn.1 (by rw [e2]; exact e)), sum_in V x hn.2 e]; omega
theorem svL_append (T T' : List Sh) (x : Pl) : svL (T ++ T') x = svL T x + svL T' x := by
  unfold svL
  rw [List.map_append, List.sum_append]
theorem svL_flatMap {α : Type} (f : α → List Sh) (x : Pl) : ∀ l : List α, svL (l.flatMap f) x = (l.map fun a => svL (f a) x).sum
  | [] => rfl
  | a :: l => by rw [List.flatMap_cons, svL_append, svL_flatMap f x l, List.map_cons, List.sum_cons]
/-- what a list of amounts has of a resource -/
def valAt (U : List Amt) (r : ByteArray) : Int := (U.map fun u => if u.name = r then u.val else 0).sum
theorem valAt_cons (u : Amt) (U : List Amt) (r : ByteArray) : valAt (u :: U) r = (if u.name = r then u.val else 0) + valAt U r := rfl
theorem valAt_append (U V : List Amt) (r : ByteArray) : valAt (U ++ V) r = valAt U r + valAt V r := by
  unfold valAt
  rw [List.map_append, List.sum_append]
theorem svL_shOf (p : ByteArray) (s : ScV) (q : ByteArray) (t : ScV) (r : ByteArray) : ∀ U : List Amt, svL (U.map (shOf p s)) (q, (t.kind, t.arg), r) = if p = q then if s = t then valAt U r else 0 else 0
  | [] => by unfold svL valAt; simp
  | u :: U => by
    have ih := svL_shOf p s q t r U
    have hs : s = t ↔ s.kind = t.kind ∧ s.arg = t.arg := by cases s; cases t; simp
    rw [valAt_cons]
    unfold svL at ih ⊢
    rw [List.map_cons, List.map_cons, List.sum_cons, ih]
    by_cases h1 : p = q
    · by_cases h2 : s = t
      · simp only [if_pos h1, if_pos h2]
        by_cases h3 : u.name = r
        · rw [if_pos h3, if_pos (by unfold shOf; rw [h1, h2, h3])]; rfl
        · rw [if_neg h3, if_neg (by unfold shOf; intro e; exact h3 (congrArg (fun z => z.2.2) e))]
      · simp only [if_pos h1, if_neg h2]
        rw [if_neg (by unfold shOf; intro e; exact h2 (hs.2 ⟨congrArg (fun z => z.2.1.1) e, congrArg (fun z => z.2.1.2) e⟩))]; rfl
    · simp only [if_neg h1]
      rw [if_neg (by unfold shOf; intro e; exact h1 (congrArg (fun z => z.1) e))]; rfl
theorem svL_scopes {M : List ScV} {U : List Amt} (p q : ByteArray) (t : ScV) (r : ByteArray) : svL (M.flatMap fun s => U.map (shOf p s)) (q, (t.kind, t.arg), r) = if p = q then (M.map fun s => if s = t then valAt U r else 0).sum else 0 := by
  rw [svL_flatMap]
  by_cases h : p = q
  · rw [if_pos h]
    congr 1
    refine List.map_congr_left fun s _ => ?_
    rw [svL_shOf, if_pos h]
  · rw [if_neg h]
    have : (M.map fun s => svL (U.map (shOf p s)) (q, (t.kind, t.arg), r)) = M.map fun _ => (0 : Int) := List.map_congr_left fun s _ => by rw [svL_shOf, if_neg h]
    rw [this]
    clear this
    induction M with
    | nil => rfl
    | cons a M ih => rw [List.map_cons, List.sum_cons, ih]; rfl
theorem svL_sharesU_in {line : List ByteArray} {M : List ScV} {U : List Amt} (h1 : line.Nodup) (h2 : M.Nodup) {q : ByteArray} {t : ScV} (r : ByteArray) (hq : q ∈ line) (ht : t ∈ M) : svL (sharesU line M U) (q, (t.kind, t.arg), r) = valAt U r := by
  unfold sharesU
  rw [svL_flatMap]
  simp only [svL_scopes]
  rw [sum_in _ t h2 ht, sum_in _ q h1 hq]
theorem svL_sharesU_out {line : List ByteArray} {M : List ScV} {U : List Amt} {q : ByteArray} {t : ScV} (r : ByteArray) (h : ¬ (q ∈ line ∧ t ∈ M)) : svL (sharesU line M U) (q, (t.kind, t.arg), r) = 0 := by
  unfold sharesU
  rw [svL_flatMap]
  simp only [svL_scopes]
  by_cases hq : q ∈ line
  · rw [sum_out _ t (fun ht => h ⟨hq, ht⟩)]
    clear h hq
    induction line with
    | nil => rfl
    | cons a l ih => rw [List.map_cons, List.sum_cons, ih]; split <;> rfl
  · exact sum_out _ q hq
theorem mem_allS {s : ScV} (h : validS s = true) : s ∈ allS := by
  obtain ⟨k, a⟩ := s
  unfold validS at h
  simp only at h
  split at h
  · cases h
  · split at h
    · rename_i h1 h2
      subst h2
      rw [Bool.and_eq_true, decide_eq_true_iff, decide_eq_true_iff] at h
      have h3 : a = 0 ∨ a = 1 ∨ a = 2 ∨ a = 3 ∨ a = 4 ∨ a = 5 ∨ a = 6 ∨ a = 7 ∨ a = 8 ∨ a = 9 := by omega
      rcases h3 with rfl | rfl | rfl | rfl | rfl | rfl | rfl | rfl | rfl | rfl <;> decide
    · rename_i h1 h2
      rw [decide_eq_true_iff] at h
      subst h
      have h3 : k = 0 ∨ k = 1 ∨ k = 2 ∨ k = 3 ∨ k = 4 := by omega
      rcases h3 with rfl | rfl | rfl | rfl | rfl <;> decide
theorem mem_ofS {o : ObjV} {s : ScV} : s ∈ ofS o 6 ↔ inS o.prio o.dl o.parts s = true := by
  rw [of_all, List.mem_filter]
  refine ⟨fun h => h.2, fun h => ⟨?_, h⟩⟩
  unfold inS at h
  rw [Bool.and_eq_true] at h
  exact mem_allS h.1
/-- what an object has of a sum: by Under, In and Uses -/
def partW (h : ObjM) (p : ByteArray) (s : ScV) (r : ByteArray) : Int := if underB h.path p = true ∧ inS h.prio h.dl h.parts s = true then valAt (usesU h.v) r else 0
theorem partW_sv {h : ObjM} (hz : (sharesV h.v).2.2 = 0) (p : ByteArray) (s : ScV) (r : ByteArray) : partW h p s r = svL (sharesV h.v).2.1 (p, (s.kind, s.arg), r) := by
  obtain ⟨hp, hu, he⟩ := shares_path hz
  have e1 : underB h.path p = true ↔ p ∈ lineB h.path := by
    rw [under_line, List.any_eq_true]
    constructor
    · rintro ⟨x, hx, e⟩
      rw [bytes_beq, decide_eq_true_iff] at e
      exact e ▸ hx
    · intro hx
      exact ⟨p, hx, by simp⟩
  have e2 : inS h.prio h.dl h.parts s = true ↔ s ∈ ofS h.v 6 := (mem_ofS (o := h.v)).symm
  rw [he]
  show partW h p s r = svL (sharesU (lineB h.path) (ofS h.v 6) (usesU h.v)) _
  unfold partW
  by_cases a : underB h.path p = true ∧ inS h.prio h.dl h.parts s = true
  · rw [if_pos a, svL_sharesU_in (lineB_nodup _) (ofS_nodup _) r (e1.1 a.1) (e2.1 a.2)]
  · rw [if_neg a, svL_sharesU_out r (fun b => a ⟨e1.2 b.1, e2.2 b.2⟩)]
/-- the book's invariant -/
structure BookInv (S : Pl → Int) (C : ByteArray → Int) (held : List ObjM) : Prop where
  sum : ∀ x, S x = sumAt held x
  cnt : ∀ p, C p = cntAt held p
  acc : ∀ o ∈ held, (sharesV o.v).2.2 = 0
  fit : ∀ o ∈ held, ObjMFit o
theorem sumAt_append (l l' : List ObjM) (x : Pl) : sumAt (l ++ l') x = sumAt l x + sumAt l' x := by
  unfold sumAt
  rw [List.map_append, List.sum_append]
theorem cntAt_append (l l' : List ObjM) (p : ByteArray) : cntAt (l ++ l') p = cntAt l p + cntAt l' p := by
  unfold cntAt
  rw [List.map_append, List.sum_append]
theorem shares_fit {o : ObjM} (hf : ObjMFit o) (hz : (sharesV o.v).2.2 = 0) : SharesOk o.v (sharesV o.v).1 (sharesV o.v).2.1 := sharesV_ok hf.ok.use (by rw [← hz])
theorem svL_pos {o : ObjM} (hf : ObjMFit o) (hz : (sharesV o.v).2.2 = 0) (x : Pl) : 0 ≤ svL (sharesV o.v).2.1 x := svL_nonneg (fun s hs => ((shares_fit hf hz).sh s hs).1.pos) x
theorem cvL_pos {o : ObjM} (hf : ObjMFit o) (hz : (sharesV o.v).2.2 = 0) (p : ByteArray) : 0 ≤ cvL (sharesV o.v).1 p := (cvL_le _ p (shares_fit hf hz).lnod).1
theorem sumAt_nonneg : ∀ {l : List ObjM}, (∀ o ∈ l, ObjMFit o) → (∀ o ∈ l, (sharesV o.v).2.2 = 0) → ∀ x, 0 ≤ sumAt l x
  | [], _, _, x => by simp [sumAt]
  | o :: l, hf, hz, x => by
    rw [sumAt_cons]
    have h1 := svL_pos (hf o (by simp)) (hz o (by simp)) x
    have h2 := sumAt_nonneg (l := l) (fun q hq => hf q (List.mem_cons_of_mem _ hq)) (fun q hq => hz q (List.mem_cons_of_mem _ hq)) x
    omega
theorem cntAt_nonneg : ∀ {l : List ObjM}, (∀ o ∈ l, ObjMFit o) → (∀ o ∈ l, (sharesV o.v).2.2 = 0) → ∀ p, 0 ≤ cntAt l p
  | [], _, _, p => by simp [cntAt]
  | o :: l, hf, hz, p => by
    rw [cntAt_cons]
    have h1 := cvL_pos (hf o (by simp)) (hz o (by simp)) p
    have h2 := cntAt_nonneg (l := l) (fun q hq => hf q (List.mem_cons_of_mem _ hq)) (fun q hq => hz q (List.mem_cons_of_mem _ hq)) p
    omega
theorem split_at {l : List ObjM} {i : Nat} {y : ObjM} (h : l[i]? = some y) : l = l.take i ++ y :: l.drop (i + 1) := by
  obtain ⟨hi, rfl⟩ := List.getElem?_eq_some_iff.1 h
  rw [← List.drop_eq_getElem_cons hi, List.take_append_drop]
section
variable {S : Pl → Int} {C : ByteArray → Int} {held : List ObjM} {i : Nat} {y : ObjM}
theorem BookInv.at_ (k : BookInv S C held) (h : held[i]? = some y) : (∀ x, S x = sumAt (held.take i ++ held.drop (i + 1)) x + svL (sharesV y.v).2.1 x) ∧ (∀ p, C p = cntAt (held.take i ++ held.drop (i + 1)) p + cvL (sharesV y.v).1 p) := by
  have hs := split_at h
  refine ⟨fun x => ?_, fun p => ?_⟩
  · rw [k.sum, hs, sumAt_append, sumAt_cons]
    rw [← hs, sumAt_append]
    omega
  · rw [k.cnt, hs, cntAt_append, cntAt_cons]
    rw [← hs, cntAt_append]
    omega
theorem BookInv.rest (k : BookInv S C held) : (∀ o ∈ held.take i ++ held.drop (i + 1), ObjMFit o) ∧ (∀ o ∈ held.take i ++ held.drop (i + 1), (sharesV o.v).2.2 = 0) := by
  refine ⟨fun o ho => ?_, fun o ho => ?_⟩ <;> rcases List.mem_append.1 ho with ho | ho
  · exact k.fit o (List.mem_of_mem_take ho)
  · exact k.fit o (List.mem_of_mem_drop ho)
  · exact k.acc o (List.mem_of_mem_take ho)
  · exact k.acc o (List.mem_of_mem_drop ho)
theorem BookInv.gone (k : BookInv S C held) (h : held[i]? = some y) : goneV S C y.v = ((sharesV y.v).1, (sharesV y.v).2.1, 0) := by
  obtain ⟨hS, hC⟩ := k.at_ h
  obtain ⟨hf, hz⟩ := k.rest (i := i)
  have hy := List.mem_of_getElem? h
  have hzy := k.acc y hy
  have ok := shares_fit (k.fit y hy) hzy
  have hj : judgeU S (sharesV y.v).2.1 = 0 := by
    unfold judgeU
    rw [judgeL_zero]
    intro s hs
    rw [if_neg]
    rw [hS, svL_in ok.nod s hs]
    have := sumAt_nonneg hf hz s.1
    omega
  have hc : (sharesV y.v).1.any (fun p => C p == 0) = false := by
    rw [List.any_eq_false]
    intro q hq
    rw [hC]
    have h3 := cvL_in hq
    have h4 := cntAt_nonneg hf hz q
    simp only [beq_iff_eq]
    omega
  unfold goneV
  rw [if_neg (by simp [hzy]), if_neg (by simp [hj]), if_neg (by simp [hc])]
theorem BookInv.release (k : BookInv S C held) (h : held[i]? = some y) : ∃ S' C', releaseV S C y.v = (0, S', C') ∧ BookInv S' C' (held.take i ++ held.drop (i + 1)) := by
  obtain ⟨hS, hC⟩ := k.at_ h
  obtain ⟨hf, hz⟩ := k.rest (i := i)
  refine ⟨addS (-1) S (sharesV y.v).2.1, addC (-1) C (sharesV y.v).1, ?_, fun x => ?_, fun p => ?_, hz, hf⟩
  · unfold releaseV
    rw [k.gone h, if_pos rfl]
  · rw [addS_svL, hS]; omega
  · rw [addC_cvL, hC]; omega
theorem BookInv.charge (k : BookInv S C held) {o : ObjM} (hf : ObjMFit o) {S' : Pl → Int} {C' : ByteArray → Int} (h : chargeV S C o.v = (0, S', C')) : BookInv S' C' (held ++ [o]) := by
  obtain ⟨h1, h2, rfl, rfl⟩ := chargeV_acc h
  refine ⟨fun x => ?_, fun p => ?_, fun q hq => ?_, fun q hq => ?_⟩
  · rw [addS_svL, sumAt_append, sumAt_cons, k.sum]; simp [sumAt]
  · rw [addC_cvL, cntAt_append, cntAt_cons, k.cnt]; simp [cntAt]
  · rcases List.mem_append.1 hq with hq | hq
    · exact k.acc q hq
    · rw [List.mem_singleton.1 hq]; exact h1
  · rcases List.mem_append.1 hq with hq | hq
    · exact k.fit q hq
    · rw [List.mem_singleton.1 hq]; exact hf
theorem BookInv.perm (k : BookInv S C held) {l : List ObjM} (h : held.Perm l) : BookInv S C l :=
  ⟨fun x => (k.sum x).trans (sumAt_perm h x), fun p => (k.cnt p).trans (cntAt_perm h p), fun o ho => k.acc o (h.mem_iff.2 ho), fun o ho => k.fit o (h.mem_iff.2 ho)⟩
/-- a step keeps it, and is no refusal that may not be -/
theorem BookInv.step (k : BookInv S C held) {x : OpM} (hx : ObjMFit x.o) : (stepV S C held x).1 = true ∧ BookInv (stepV S C held x).2.1 (stepV S C held x).2.2.1 (stepV S C held x).2.2.2 := by
  unfold stepV
  split
  · split
    · split
      · rename_i hz
        exact ⟨rfl, k.charge hx (chargeV_eta hz)⟩
      · exact ⟨rfl, k⟩
    · exact ⟨rfl, k⟩
  · rename_i i hp
    split
    · exact ⟨rfl, k⟩
    · rename_i y hy
      obtain ⟨S', C', hr, k'⟩ := k.release hy
      split
      · rw [if_pos (by rw [hr]), hr]
        exact ⟨rfl, k'⟩
      · by_cases hz : (changeV S C y.v x.o.v).1 = 0
        · rw [if_pos hz]
          refine ⟨rfl, ?_⟩
          have hc : changeV S C y.v x.o.v = chargeV S' C' x.o.v := by
            unfold changeV at hz ⊢
            rw [if_neg (by rw [k.gone hy]; simp)] at hz ⊢
            rw [hr] at hz ⊢
            by_cases h1 : (chargeV S' C' x.o.v).1 ≠ 0
            · rw [if_pos h1] at hz; exact absurd hz h1
            · rw [if_neg h1]
          rw [hc] at hz ⊢
          have k2 := k'.charge hx (chargeV_eta hz)
          refine k2.perm ?_
          obtain ⟨hi, -⟩ := List.getElem?_eq_some_iff.1 hy
          rw [List.set_eq_take_append_cons_drop, if_pos hi, List.append_assoc]
          exact List.Perm.append_left _ (List.perm_append_singleton _ _)
        · rw [if_neg hz]
          exact ⟨rfl, k⟩
end
theorem bookInv_nil : BookInv Z0 C0 [] := ⟨fun _ => rfl, fun _ => rfl, fun _ h => (nomatch h), fun _ h => (nomatch h)⟩
end Go.Proofs.YtalkdddeiebfmaaGreatDoor
