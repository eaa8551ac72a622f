/- Laid together: J50 J49 J51 J52 J53. -/
import Derived.Test.YtalkdddeiebfmaaGreatDoorJH
import Derived.Test.YtalkdddeiebfmaaGreatDoorJG
/- The document's ledger and the program's: one machine. No program in sight. -/
namespace Go.Proofs.YtalkdddeiebfmaaGreatDoor

structure Rel (es : List EntV) (S : Pl → Int) (C : ByteArray → Int) : Prop where
  tot : ∀ x, totE es x = S x
  cnt : ∀ p, cntE es p = C p
  path : ∀ e ∈ es, ∀ p ∈ e.line, isPath p = true
theorem rel_nil : Rel [] (fun _ => 0) (fun _ => 0) := ⟨fun _ => rfl, fun _ => rfl, fun _ h => (List.not_mem_nil h).elim⟩
theorem totE_snoc (es : List EntV) (e : EntV) (x : Pl) : totE (es ++ [e]) x = totE es x + entAmt e x := by
  unfold totE; rw [List.map_append, List.sum_append]; simp
theorem cntE_snoc (es : List EntV) (e : EntV) (p : ByteArray) : cntE (es ++ [e]) p = cntE es p + (if inB e.line p = true then e.sign else 0) := by
  unfold cntE; rw [List.map_append, List.sum_append]; simp
theorem right_shares (o : ObjV) : (sharesV o).2.2 = rightV o := by
  unfold sharesV rightV
  split
  · split
    · rename_i h; exact h.symm
    · rfl
  · rfl
theorem right_zero {o : ObjV} (h : rightV o = 0) : isPath o.path = true ∧ (usesV o.parts).2 = 0 ∧ sharesV o = (lineB o.path, sharesU (lineB o.path) (ofS o 6) (usesU o), 0) := by
  have hp : isPath o.path = true := by
    cases hh : isPath o.path
    · unfold rightV at h; rw [hh] at h; simp at h
    · rfl
  have he : (usesV o.parts).2 = 0 := by unfold rightV at h; rw [if_pos hp] at h; exact h
  exact ⟨hp, he, by unfold sharesV; rw [if_pos hp, if_pos he]⟩
theorem usesAt_in : ∀ {U : List Amt} {u : Amt}, (U.map Amt.name).Nodup → u ∈ U → usesAt U u.name = u.val
  | a :: U, u, hn, hu => by
    rw [List.map_cons, List.nodup_cons] at hn
    rcases List.mem_cons.1 hu with rfl | hu
    · have := usesAt_out (U := U) hn.1
      unfold usesAt at this ⊢
      rw [List.map_cons, List.sum_cons, if_pos rfl, this]; omega
    · have h1 := usesAt_in hn.2 hu
      have hne : a.name ≠ u.name := fun e => hn.1 (by rw [e]; exact List.mem_map.2 ⟨u, hu, rfl⟩)
      unfold usesAt at h1 ⊢
      rw [List.map_cons, List.sum_cons, if_neg hne, h1]; omega
theorem inSc_iff {l : List ScV} {s : ScV} : inSc l s = true ↔ s ∈ l := by unfold inSc; exact decide_eq_true_iff
theorem keys_nodup {o : ObjV} (h : rightV o = 0) : ((sharesU (lineB o.path) (ofS o 6) (usesU o)).map Prod.fst).Nodup :=
  sharesU_nodup (lineB_nodup _) (ofS_nodup o) (usesU_names (right_zero h).2.1)
theorem svL_ent {o : ObjV} (h : rightV o = 0) (x : Pl) : svL (sharesU (lineB o.path) (ofS o 6) (usesU o)) x = entAmt (entOf o 1) x := by
  have hn := keys_nodup h
  have hu := usesU_names (right_zero h).2.1
  by_cases hx : x ∈ (sharesU (lineB o.path) (ofS o 6) (usesU o)).map Prod.fst
  · obtain ⟨s, hs, rfl⟩ := List.mem_map.1 hx
    rw [svL_in hn s hs]
    obtain ⟨p, hp, c, hc, a, ha, rfl⟩ := sharesU_mem.1 hs
    unfold entAmt
    rw [if_pos (by
      unfold inE
      rw [Bool.and_eq_true]
      exact ⟨inB_iff.2 hp, inSc_iff.2 hc⟩)]
    show a.val = 1 * usesAt (usesU o) a.name
    rw [usesAt_in hu ha]; omega
  · rw [svL_out hx]
    unfold entAmt
    split
    · rename_i hin
      unfold inE at hin
      rw [Bool.and_eq_true] at hin
      have h1 := inB_iff.1 hin.1
      have h2 := inSc_iff.1 hin.2
      have : usesAt (usesU o) x.2.2 = 0 := usesAt_out fun hm => hx (by
        obtain ⟨a, ha, hname⟩ := List.mem_map.1 hm
        refine List.mem_map.2 ⟨shOf x.1 ⟨x.2.1.1, x.2.1.2⟩ a, sharesU_mem.2 ⟨_, h1, _, h2, a, ha, rfl⟩, ?_⟩
        unfold shOf
        rw [hname])
      show (0 : Int) = 1 * usesAt (usesU o) x.2.2
      rw [this]; rfl
    · rfl
theorem ent_neg (o : ObjV) (x : Pl) : entAmt (entOf o (-1)) x = -entAmt (entOf o 1) x := by
  unfold entAmt
  have : inE (entOf o (-1)) x = inE (entOf o 1) x := rfl
  rw [this]
  split
  · show -1 * usesAt (usesU o) x.2.2 = -(1 * usesAt (usesU o) x.2.2)
    omega
  · rfl
theorem cvL_ent (o : ObjV) (p : ByteArray) : cvL (lineB o.path) p = if inB (lineB o.path) p = true then 1 else 0 := by
  have h1 := cvL_le _ p (lineB_nodup o.path)
  by_cases h : p ∈ lineB o.path
  · have h2 := cvL_in h
    rw [if_pos (inB_iff.2 h)]; omega
  · rw [if_neg (fun e => h (inB_iff.1 e)), cvL_out h]
theorem ent_nonneg {o : ObjV} (h : rightV o = 0) (x : Pl) : 0 ≤ entAmt (entOf o 1) x := by
  rw [← svL_ent h]
  exact svL_nonneg (fun s hs => by
    obtain ⟨p, hp, c, hc, a, ha, rfl⟩ := sharesU_mem.1 hs
    obtain ⟨q, hq, rfl⟩ := List.mem_map.1 ha
    exact (uses_val (right_zero h).2.1 q hq).1) x
theorem ent_at_share {o : ObjV} (h : rightV o = 0) {s : Sh} (hs : s ∈ sharesU (lineB o.path) (ofS o 6) (usesU o)) : entAmt (entOf o 1) s.1 = s.2 := by
  rw [← svL_ent h]; exact svL_in (keys_nodup h) s hs
/-- an object's shares, one by one -/
theorem any_shares {o : ObjV} (f : Pl → Bool) (g : Sh → Bool) (hfg : ∀ s ∈ sharesU (lineB o.path) (ofS o 6) (usesU o), f s.1 = g s) :
    ((lineB o.path).any fun p => (ofS o 6).any fun s => (usesU o).any fun u => f (p, (s.kind, s.arg), u.name)) = (sharesU (lineB o.path) (ofS o 6) (usesU o)).any g := by
  rw [Bool.eq_iff_iff, List.any_eq_true, List.any_eq_true]
  constructor
  · rintro ⟨p, hp, h1⟩
    obtain ⟨s, hs, h2⟩ := List.any_eq_true.1 h1
    obtain ⟨u, hu, h3⟩ := List.any_eq_true.1 h2
    have hm := sharesU_mem.2 ⟨p, hp, s, hs, u, hu, rfl⟩
    exact ⟨shOf p s u, hm, by rw [← hfg _ hm]; exact h3⟩
  · rintro ⟨t, ht, h1⟩
    have h2 := hfg t ht
    obtain ⟨p, hp, s, hs, u, hu, rfl⟩ := sharesU_mem.1 ht
    exact ⟨p, hp, List.any_eq_true.2 ⟨s, hs, List.any_eq_true.2 ⟨u, hu, by rw [h1] at h2; exact h2⟩⟩⟩
section
variable {es : List EntV} {S : Pl → Int} {C : ByteArray → Int} {m : Nat} {o p : ObjV}
theorem Rel.snoc (r : Rel es S C) (h : rightV o = 0) {sg : Int} (hs : sg = 1 ∨ sg = -1) : Rel (es ++ [entOf o sg]) (addS sg S (sharesV o).2.1) (addC sg C (sharesV o).1) := by
  rw [(right_zero h).2.2]
  refine ⟨fun x => ?_, fun q => ?_, fun e he p hp => ?_⟩
  rotate_left 2
  · rcases List.mem_append.1 he with he | he
    · exact r.path e he p hp
    · rw [List.mem_singleton.1 he] at hp
      exact (lineB_path (p := o.path) hp).1
  · rw [totE_snoc, r.tot, addS_svL, svL_ent h]
    rcases hs with rfl | rfl
    · omega
    · rw [ent_neg]; omega
  · rw [cntE_snoc, r.cnt, addC_cvL, cvL_ent]
    show C q + (if inB (lineB o.path) q = true then sg else 0) = C q + sg * _
    split <;> omega
theorem judge_charge (r : Rel es S C) (k : LedOk m S C) (h : rightV o = 0) : judgeE (es ++ [entOf o 1]) (entOf o 1) = judgeA S (sharesV o).2.1 := by
  have hbad : (lineB o.path).any (badP (es ++ [entOf o 1]) (entOf o 1)) = false := by
    rw [Bool.eq_false_iff]
    intro hb
    obtain ⟨q, hq, h1⟩ := List.any_eq_true.1 hb
    unfold badP at h1
    rw [Bool.or_eq_true] at h1
    rcases h1 with h1 | h1
    · rw [decide_eq_true_iff, cntE_snoc, r.cnt] at h1
      have := k.clo q
      have h2 : (0 : Int) ≤ if inB (entOf o 1).line q = true then (entOf o 1).sign else 0 := by
        split
        · show (0 : Int) ≤ 1; omega
        · omega
      omega
    · obtain ⟨s, _, h2⟩ := List.any_eq_true.1 h1
      obtain ⟨u, _, h3⟩ := List.any_eq_true.1 h2
      unfold badU at h3
      rw [decide_eq_true_iff, totE_snoc, r.tot] at h3
      have := k.lo (q, (s.kind, s.arg), u.name)
      have := ent_nonneg h (q, (s.kind, s.arg), u.name)
      omega
  have hov : (lineB o.path).any (ovP (es ++ [entOf o 1]) (entOf o 1)) = (sharesU (lineB o.path) (ofS o 6) (usesU o)).any fun s => decide (S s.1 > 9223372036854775807 - s.2) :=
    any_shares (fun x => decide (9223372036854775808 ≤ totE (es ++ [entOf o 1]) x)) _ fun s hs => by
      rw [totE_snoc, r.tot, ent_at_share h hs]
      exact decide_eq_decide.2 (by omega)
  rw [(right_zero h).2.2]
  unfold judgeE judgeA
  rw [judgeL_if (by omega)]
  show (if (lineB o.path).any (badP (es ++ [entOf o 1]) (entOf o 1)) = true then 170 else if (lineB o.path).any (ovP (es ++ [entOf o 1]) (entOf o 1)) = true then 7 else 0) = _
  rw [hbad, hov, if_neg (by simp)]
theorem rel_charge (r : Rel es S C) (k : LedOk m S C) {z : Int} {S' : Pl → Int} {C' : ByteArray → Int} (hc : chargeV S C o = (z, S', C')) : ∃ es', radV 1 es o = (z, es') ∧ Rel es' S' C' ∧ es'.length ≤ es.length + 1 := by
  unfold chargeV at hc
  unfold radV
  rw [right_shares] at hc
  by_cases h : rightV o = 0
  · rw [if_neg (by rw [h]; simp)] at hc ⊢
    have hj := judge_charge r k h
    unfold addE
    rw [hj]
    split at hc
    · rename_i h2
      cases hc
      exact ⟨es, by rw [if_neg h2], r, by omega⟩
    · rename_i h2
      have h3 : judgeA S (sharesV o).2.1 = 0 := by simpa using h2
      cases hc
      exact ⟨_, by rw [h3, if_pos rfl], r.snoc h (.inl rfl), by simp⟩
  · rw [if_pos h] at hc ⊢
    cases hc
    exact ⟨es, rfl, r, by omega⟩
theorem gone_bad (r : Rel es S C) (k : LedOk m S C) (h : rightV o = 0) : (lineB o.path).any (badP (es ++ [entOf o (-1)]) (entOf o (-1))) = ((lineB o.path).any (fun p => C p == 0) || (sharesU (lineB o.path) (ofS o 6) (usesU o)).any fun s => decide (S s.1 < s.2)) := by
  rw [Bool.eq_iff_iff, Bool.or_eq_true, List.any_eq_true, List.any_eq_true, List.any_eq_true]
  constructor
  · rintro ⟨q, hq, h1⟩
    unfold badP at h1
    rw [Bool.or_eq_true] at h1
    rcases h1 with h1 | h1
    · rw [decide_eq_true_iff, cntE_snoc, r.cnt] at h1
      have h2 := k.clo q
      have h3 : (-1 : Int) ≤ if inB (entOf o (-1)).line q = true then (entOf o (-1)).sign else 0 := by
        split
        · show (-1 : Int) ≤ -1; omega
        · omega
      exact .inl ⟨q, hq, by rw [beq_iff_eq]; omega⟩
    · obtain ⟨s, hs, h2⟩ := List.any_eq_true.1 h1
      obtain ⟨u, hu, h3⟩ := List.any_eq_true.1 h2
      unfold badU at h3
      have hm := sharesU_mem.2 ⟨q, hq, s, hs, u, hu, rfl⟩
      have h4 := ent_at_share h hm
      rw [decide_eq_true_iff, totE_snoc, r.tot, ent_neg] at h3
      refine .inr ⟨_, hm, ?_⟩
      rw [decide_eq_true_iff]
      have h5 : entAmt (entOf o 1) (q, (s.kind, s.arg), u.name) = (shOf q s u).2 := h4
      have h6 : S (shOf q s u).1 = S (q, (s.kind, s.arg), u.name) := rfl
      omega
  · rintro (⟨q, hq, h1⟩ | ⟨t, ht, h1⟩)
    · refine ⟨q, hq, ?_⟩
      unfold badP
      rw [Bool.or_eq_true]
      refine .inl ?_
      rw [decide_eq_true_iff, cntE_snoc, r.cnt]
      have h2 : inB (entOf o (-1)).line q = true := inB_iff.2 hq
      rw [if_pos h2]
      rw [beq_iff_eq] at h1
      show C q + -1 < 0
      omega
    · have h4 := ent_at_share h ht
      obtain ⟨p, hp, s, hs, u, hu, rfl⟩ := sharesU_mem.1 ht
      refine ⟨p, hp, ?_⟩
      unfold badP
      rw [Bool.or_eq_true]
      refine .inr (List.any_eq_true.2 ⟨s, hs, List.any_eq_true.2 ⟨u, hu, ?_⟩⟩)
      unfold badU
      rw [decide_eq_true_iff] at h1 ⊢
      rw [totE_snoc, r.tot, ent_neg]
      have h5 : entAmt (entOf o 1) (p, (s.kind, s.arg), u.name) = (shOf p s u).2 := h4
      have h6 : S (shOf p s u).1 = S (p, (s.kind, s.arg), u.name) := rfl
      omega
theorem judge_gone (r : Rel es S C) (k : LedOk m S C) (h : rightV o = 0) : judgeE (es ++ [entOf o (-1)]) (entOf o (-1)) = if ((lineB o.path).any (fun p => C p == 0) || (sharesU (lineB o.path) (ofS o 6) (usesU o)).any fun s => decide (S s.1 < s.2)) = true then 170 else 0 := by
  have hov : (lineB o.path).any (ovP (es ++ [entOf o (-1)]) (entOf o (-1))) = false := by
    rw [Bool.eq_false_iff]
    intro hb
    obtain ⟨q, hq, h1⟩ := List.any_eq_true.1 hb
    obtain ⟨s, _, h2⟩ := List.any_eq_true.1 h1
    obtain ⟨u, _, h3⟩ := List.any_eq_true.1 h2
    unfold ovU at h3
    rw [decide_eq_true_iff, totE_snoc, r.tot, ent_neg] at h3
    have := k.hi (q, (s.kind, s.arg), u.name)
    have := ent_nonneg h (q, (s.kind, s.arg), u.name)
    omega
  rw [← gone_bad r k h]
  unfold judgeE
  show (if (lineB o.path).any (badP (es ++ [entOf o (-1)]) (entOf o (-1))) = true then 170 else if (lineB o.path).any (ovP (es ++ [entOf o (-1)]) (entOf o (-1))) = true then 7 else 0) = _
  rw [hov, if_neg (show ¬ (false = true) by simp)]
theorem goneV_cases (h : rightV o = 0) : goneV S C o = if ((lineB o.path).any (fun p => C p == 0) || (sharesU (lineB o.path) (ofS o 6) (usesU o)).any fun s => decide (S s.1 < s.2)) = true then ([], [], 170) else ((sharesV o).1, (sharesV o).2.1, 0) := by
  unfold goneV
  rw [if_neg (by rw [right_shares, h]; simp)]
  unfold judgeU
  rw [judgeL_if (by omega), (right_zero h).2.2]
  cases h1 : (sharesU (lineB o.path) (ofS o 6) (usesU o)).any fun s => decide (S s.1 < s.2)
  · simp
  · simp
theorem rel_release (r : Rel es S C) (k : LedOk m S C) {z : Int} {S' : Pl → Int} {C' : ByteArray → Int} (hc : releaseV S C o = (z, S', C')) : ∃ es', radV (-1) es o = (z, es') ∧ Rel es' S' C' ∧ es'.length ≤ es.length + 1 := by
  unfold releaseV at hc
  unfold radV
  by_cases h : rightV o = 0
  · rw [if_neg (by rw [h]; simp)]
    have hj := judge_gone r k h
    have hg := goneV_cases (S := S) (C := C) h
    unfold addE
    rw [hj]
    cases hb : ((lineB o.path).any (fun p => C p == 0) || (sharesU (lineB o.path) (ofS o 6) (usesU o)).any fun s => decide (S s.1 < s.2))
    · rw [hb, if_neg (by simp)] at hg
      rw [hg, if_pos rfl] at hc
      cases hc
      exact ⟨_, by rw [if_neg (by simp), if_pos rfl], r.snoc h (.inr rfl), by simp⟩
    · rw [hb, if_pos rfl] at hg
      rw [hg, if_neg (by simp)] at hc
      cases hc
      exact ⟨es, by rw [if_pos rfl, if_neg (by omega)], r, by omega⟩
  · rw [if_pos h]
    have hg : goneV S C o = ([], [], rightV o) := by unfold goneV; rw [if_pos (by rw [right_shares]; exact h), right_shares]
    rw [hg, if_neg h] at hc
    cases hc
    exact ⟨es, rfl, r, by omega⟩
/-- one for another -/
def rcgV (es : List EntV) (o p : ObjV) : Int × List EntV :=
  if (radV (-1) es o).1 ≠ 0 then ((radV (-1) es o).1, es) else if (radV 1 (radV (-1) es o).2 p).1 ≠ 0 then ((radV 1 (radV (-1) es o).2 p).1, es) else radV 1 (radV (-1) es o).2 p
theorem gone_release : (goneV S C o).2.2 = (releaseV S C o).1 := by
  unfold releaseV
  split
  · rename_i h; exact h
  · rfl
theorem LedOk.rel (k : LedOk m S C) (hu : UseOk o) (h : (releaseV S C o).1 = 0) : LedOk m (releaseV S C o).2.1 (releaseV S C o).2.2 := by
  have hg : (goneV S C o).2.2 = 0 := by rw [gone_release]; exact h
  unfold releaseV
  rw [if_pos hg]
  obtain ⟨⟨l, T, z⟩, hV⟩ : ∃ v, goneV S C o = v := ⟨_, rfl⟩
  rw [hV] at hg ⊢
  obtain rfl : z = 0 := hg
  obtain ⟨h1, h2, h3⟩ := goneV_ok hu hV
  exact k.release h1 h2 h3
theorem rel_change (r : Rel es S C) (k : LedOk m S C) (hu : UseOk o) {z : Int} {S' : Pl → Int} {C' : ByteArray → Int} (hc : changeV S C o p = (z, S', C')) : ∃ es', rcgV es o p = (z, es') ∧ Rel es' S' C' ∧ es'.length ≤ es.length + 2 := by
  unfold changeV at hc
  rw [gone_release] at hc
  unfold rcgV
  obtain ⟨⟨z1, S1, C1⟩, h1⟩ : ∃ v, releaseV S C o = v := ⟨_, rfl⟩
  obtain ⟨es1, e1, r1, l1⟩ := rel_release r k h1
  rw [h1] at hc
  rw [e1]
  by_cases hz1 : z1 = 0
  · subst hz1
    have k1 := k.rel hu (by rw [h1])
    rw [h1] at k1
    obtain ⟨⟨z2, S2, C2⟩, h2⟩ : ∃ v, chargeV S1 C1 p = v := ⟨_, rfl⟩
    obtain ⟨es2, e2, r2, l2⟩ := rel_charge r1 k1 h2
    rw [if_neg (by simp)] at hc ⊢
    rw [h2] at hc
    rw [e2]
    by_cases hz2 : z2 = 0
    · subst hz2
      rw [if_neg (by simp)] at hc ⊢
      cases hc
      exact ⟨es2, rfl, r2, by omega⟩
    · rw [if_pos hz2] at hc ⊢
      cases hc
      exact ⟨es, rfl, r, by omega⟩
  · rw [if_pos hz1] at hc ⊢
    cases hc
    exact ⟨es, rfl, r, by omega⟩
end
end Go.Proofs.YtalkdddeiebfmaaGreatDoor
/- The document's ledger: Copy, Change. -/
namespace Go.Proofs.YtalkdddeiebfmaaGreatDoor
open Go.RowKit

set_option maxRecDepth 100000 in
theorem rcopy_any (g : Nat) (F : Nat → Prop) (es : List EntV) (n : Nat) (hn : es.length = n) (w : World) (k : IsRL w g F es) (hN : ∀ k, w.heap.size ≤ k → F k) (hl : n ≤ 1073741823) :
    Calls Tryz.prog 79 #[.pointer (some ⟨g, 0, none⟩)] w fun e w' => ∃ q, e = .returned (.pointer (some ⟨q, 0, none⟩)) ∧ w.heap.size ≤ q ∧ IsRL w' q (fun k => F k ∧ k ≠ q) es ∧ Below w.heap.size w w' := by
  obtain ⟨hng, hok, A, c, hg, hr⟩ := k
  rw [hn] at hg
  have g0 : w.cell? ⟨g, 0, none⟩ = some (.slice A n c) := (cell_of_row _ _ _ _ _ _ hg).trans rfl
  have HR := Lib.hid hr.lt
  have HOK := Lib.hid hok
  have HF := Lib.hid hN
  have HNL := Lib.hid hn
  have h80 : n * 80 ≤ 140737488355328 := by omega
  clear hng hok hg hr hn hN
  go_enter Tryz.func79, Tryz.ntmps79
  go_wp2_with (at_builtin; refine wpList_appN entElem w.heap.size rfl (.const (.slice none 0 0)) (.tmp 6) rfl (v := .slice none 0 0) (xs := []) (ys := es) (zs := es) (nz := n) (R := fun _ => False) (S := fun k => F k ∧ k < w.heap.size) rfl HNL.out rfl (Own.nil _ _ _ _ _) (fun _ h => h.elim) (fun k _ => by simp [Value.ownBlock]) rfl HNL.out.symm HR.out h80 (Nat.le_refl _) ?_; intro A1 c1 w1 happ; have HA1 := Lib.hid happ; clear happ)
  go_ret
  have ho := HA1.out.own
  obtain ⟨A', c', hv, -, -, h3⟩ := ho.row
  injection hv with hA _ hc
  subst hA
  have hsz := HA1.out.grown.size
  refine ⟨w1.heap.size, rfl, hsz, ⟨fun h => h.2 rfl, HOK.out, A1, c1, by rw [HNL.out]; exact heap_alloc_new _ _, ?_⟩, (HA1.out.below (Below.refl _ _) (Nat.le_refl _) (fun k e => by cases e)).alloc hsz _⟩
  refine (h3.lt.alloc _).mono fun k hk => ?_
  obtain ⟨hk, hlt⟩ := hk
  refine ⟨?_, by omega⟩
  rcases hk with (hk | hk) | hk
  · exact hk.elim
  · exact hk.1
  · exact HF.out k (ho.block_lt k hk).1
theorem rcgV_of {es es1 es2 : List EntV} {o p : ObjV} {z1 z2 : Int} (h1 : radV (-1) es o = (z1, es1)) (h2 : radV 1 es1 p = (z2, es2)) : rcgV es o p = if z1 ≠ 0 then (z1, es) else if z2 ≠ 0 then (z2, es) else (z2, es2) := by
  unfold rcgV
  simp only [h1, h2]
theorem rcgV_no {es es1 : List EntV} {o p : ObjV} {z1 : Int} (h1 : radV (-1) es o = (z1, es1)) (hz : z1 ≠ 0) : rcgV es o p = (z1, es) := by
  unfold rcgV
  simp only [h1]
  rw [if_pos hz]
set_option maxRecDepth 100000 in
set_option maxHeartbeats 2000000 in
theorem rchange_any (g : Nat) (F : Nat → Prop) (es : List EntV) (n : Nat) (hn : es.length = n) (o p : ObjV) (L : Option Addr) (no mo : Nat) (B : Option Addr) (c : Nat) (P : Nat → Prop) (L' : Option Addr) (no' mo' : Nat) (B' : Option Addr) (c' : Nat) (P' : Nat → Prop) (w : World) (h : RArg w o B P) (h' : RArg w p B' P')
    (k : IsRL w g F es) (hN : ∀ k, w.heap.size ≤ k → F k) (hl : n + 2 ≤ 1073741823) (z : Int) (es' : List EntV) (hz : Hid (rcgV es o p = (z, es'))) :
    Calls Tryz.prog 48 #[.pointer (some ⟨g, 0, none⟩), .agg #[.string o.path, .string o.name, .slice L no mo, .int .i64 o.prio, .int .i64 o.dl, .slice B o.parts.length c, .int .i64 o.ver], .agg #[.string p.path, .string p.name, .slice L' no' mo', .int .i64 p.prio, .int .i64 p.dl, .slice B' p.parts.length c', .int .i64 p.ver]] w fun e w' => e = .returned (.int .i64 z) ∧ IsRL w' g F es' ∧ Turn (fun k => k = g) w w' := by
  have hb0 : Below w.heap.size w ((w.alloc (.cells #[.string o.path, .string o.name, .slice L no mo, .int .i64 o.prio, .int .i64 o.dl, .slice B o.parts.length c, .int .i64 o.ver] 26)).alloc (.cells #[.string p.path, .string p.name, .slice L' no' mo', .int .i64 p.prio, .int .i64 p.dl, .slice B' p.parts.length c', .int .i64 p.ver] 26)) := ((Below.refl _ _).alloc (Nat.le_refl _) _).alloc (by simp) _
  have hx := OBox.of (heap_alloc2_old w (.cells #[.string o.path, .string o.name, .slice L no mo, .int .i64 o.prio, .int .i64 o.dl, .slice B o.parts.length c, .int .i64 o.ver] 26) (.cells #[.string p.path, .string p.name, .slice L' no' mo', .int .i64 p.prio, .int .i64 p.dl, .slice B' p.parts.length c', .int .i64 p.ver] 26))
  have hy := OBox.of (heap_alloc2_new w (.cells #[.string o.path, .string o.name, .slice L no mo, .int .i64 o.prio, .int .i64 o.dl, .slice B o.parts.length c, .int .i64 o.ver] 26) (.cells #[.string p.path, .string p.name, .slice L' no' mo', .int .i64 p.prio, .int .i64 p.dl, .slice B' p.parts.length c', .int .i64 p.ver] 26))
  obtain ⟨w0, hw0⟩ : ∃ w0, (w.alloc (.cells #[.string o.path, .string o.name, .slice L no mo, .int .i64 o.prio, .int .i64 o.dl, .slice B o.parts.length c, .int .i64 o.ver] 26)).alloc (.cells #[.string p.path, .string p.name, .slice L' no' mo', .int .i64 p.prio, .int .i64 p.dl, .slice B' p.parts.length c', .int .i64 p.ver] 26) = w0 := ⟨_, rfl⟩
  rw [hw0] at hb0 hx hy
  have HB0 := Lib.hid hb0
  have HX := Lib.hid hx
  have HY := Lib.hid hy
  have HA := Lib.hid (h.below hb0)
  have HA' := Lib.hid (h'.below hb0)
  have HK := Lib.hid k
  have HK0 := Lib.hid (k.below hb0)
  have HF := Lib.hid hN
  have HNL := Lib.hid hn
  have HGL := Lib.hid k.glt
  obtain ⟨-, x0, x1, x2, x3, x4, x5, x6, -⟩ := hx
  obtain ⟨r1, hr1⟩ : ∃ r, rightV o = r := ⟨_, rfl⟩
  obtain ⟨r3, hr3⟩ : ∃ r, rightV p = r := ⟨_, rfl⟩
  have HR1 := Lib.hid hr1
  have HR3 := Lib.hid hr3
  have hend : ∀ W z', Below w0.heap.size w0 W → (z', es) = (z, es') → IsRL W g F es' ∧ Turn (fun k => k = g) w W := fun W z' hb he => by
    have he2 : es = es' := congrArg Prod.snd he
    have hbw := hb0.trans (hb.mono hb0.size)
    exact ⟨he2 ▸ k.below hbw, Turn.of_below hbw⟩
  have HEND := Lib.hid hend
  clear hb0 hy h h' k hN hn hr1 hr3 hend
  by_cases hz1 : r1 = 0
  · subst hz1
    obtain ⟨z2, hz2⟩ : ∃ z2, judgeE (es ++ [entOf o (-1)]) (entOf o (-1)) = z2 := ⟨_, rfl⟩
    have HZ2 := Lib.hid hz2
    have HA1 := Lib.hid (show radV (-1) es o = (z2, if z2 = 0 then es ++ [entOf o (-1)] else es) by unfold radV addE; rw [if_neg (by rw [HR1.out]; simp), hz2])
    have HEO := Lib.hid (entOk_of (sg := -1) HA.out.use HR1.out (by simp))
    clear hz2
    go_enter Tryz.func48, Tryz.ntmps48
    go_upto_region 4 with (go_at_call 66; have q := rright_any o 0 HR1 L no mo B c P w0 HA.out; refine q.mono ?_; clear q; rintro e w1 ⟨rfl, hb1⟩; have HB1 := Lib.hid hb1; clear hb1)
    clear hw0 x0 x1 x2 x3 x4 x5 x6
    go_upto_region 5 with (go_at_call 79; have q := rcopy_any g F es n HNL.out w1 (HK0.out.below HB1.out) (fun k hk => HF.out k (Nat.le_trans HB0.out.size (Nat.le_trans HB1.out.size hk))) (by omega); refine q.mono ?_; clear q; rintro e w2 ⟨q, rfl, hq, hkq, hb2⟩; have HB2 := Lib.hid (HB1.out.trans (hb2.mono HB1.out.size)); have HQ := Lib.hid hkq; have HQL := Lib.hid (show w0.heap.size ≤ q from Nat.le_trans HB1.out.size hq); clear hb2 hkq hq)
    obtain ⟨-, x0, x1, x2, x3, x4, x5, x6, -⟩ := HX.out.below HB2.out
    have HFQ := Lib.hid (fun W (hb : Below w0.heap.size w0 W) (hqW : q < W.heap.size) k (hk : W.heap.size ≤ k) => (show F k ∧ k ≠ q from ⟨HF.out k (Nat.le_trans HB0.out.size (Nat.le_trans hb.size hk)), by omega⟩))
    by_cases hz20 : z2 = 0
    · subst hz20
      by_cases hz3 : r3 = 0
      · subst hz3
        obtain ⟨z4, hz4⟩ : ∃ z4, judgeE ((es ++ [entOf o (-1)]) ++ [entOf p 1]) (entOf p 1) = z4 := ⟨_, rfl⟩
        have HZ4 := Lib.hid hz4
        have HEP := Lib.hid (entOk_of (sg := 1) HA'.out.use HR3.out (by simp))
        have HL1 := Lib.hid (show (es ++ [entOf o (-1)]).length = n + 1 by rw [List.length_append, HNL.out]; rfl)
        have HRES := Lib.hid (show (if z4 = 0 then (z4, (es ++ [entOf o (-1)]) ++ [entOf p 1]) else (z4, es)) = (z, es') by
          rw [← hz.out]
          have h1 : radV (-1) es o = (0, es ++ [entOf o (-1)]) := by have := HA1.out; simpa using this
          have h2 : radV 1 (es ++ [entOf o (-1)]) p = (z4, if z4 = 0 then (es ++ [entOf o (-1)]) ++ [entOf p 1] else es ++ [entOf o (-1)]) := by unfold radV addE; rw [if_neg (by rw [HR3.out]; simp), hz4]
          rw [rcgV_of h1 h2]
          by_cases e : z4 = 0
          · rw [e]; simp
          · simp [e])
        clear hz4
        go_upto_region 8 with (first
          | (go_at_call 68; have qq := rentry_any o (-1) L no mo B c P w2 (HA.out.below HB2.out); refine qq.mono ?_; clear qq; rintro e w3 ⟨A1, k1, A2, k2, A3, k3, rfl, h1, h2, h3, hb3⟩; have HB3 := Lib.hid (HB2.out.trans (hb3.mono HB2.out.size)); have H123 := Lib.hid (And.intro h1 (And.intro h2 h3)); have HQ3 := Lib.hid (HQ.out.below hb3); have HS2 := Lib.hid (show q < w2.heap.size from HQ.out.glt); clear hb3 h1 h2 h3)
          | (go_at_call 67; have qq := rwith_any q (fun k => F k ∧ k ≠ q) es n HNL.out (entOf o (-1)) _ _ _ rfl rfl rfl A1 k1 A2 k2 A3 k3 w3 HQ3.out (fun k hk => HFQ.out w3 HB3.out HQ3.out.glt k hk) HEO.out (H123.out.1.mono fun k hk => HFQ.out w2 HB2.out HS2.out k hk) (H123.out.2.1.mono fun k hk => HFQ.out w2 HB2.out HS2.out k hk) (H123.out.2.2.mono fun k hk => HFQ.out w2 HB2.out HS2.out k hk) (by omega) 0 HZ2; refine qq.mono ?_; clear qq; rintro e w4 ⟨rfl, hk4, ht4⟩; have HQ4 := Lib.hid (show IsRL w4 q (fun k => F k ∧ k ≠ q) (es ++ [entOf o (-1)]) from by simpa using hk4); have HB4 := Lib.hid (HB3.out.trans (ht4.below HB3.out.size fun k e => by subst e; exact HQL.out)); clear hk4 ht4))
        clear x0 x1 x2 x3 x4 x5 x6
        obtain ⟨-, x0, x1, x2, x3, x4, x5, x6, -⟩ := HY.out.below HB4.out
        go_upto_region 11 with (go_at_call 66; have qq := rright_any p 0 HR3 L' no' mo' B' c' P' w4 (HA'.out.below HB4.out); refine qq.mono ?_; clear qq; rintro e w5 ⟨rfl, hb5⟩; have HB5 := Lib.hid (HB4.out.trans (hb5.mono HB4.out.size)); have HQ5 := Lib.hid (HQ4.out.below hb5); clear hb5)
        clear x0 x1 x2 x3 x4 x5 x6
        obtain ⟨-, x0, x1, x2, x3, x4, x5, x6, -⟩ := HY.out.below HB5.out
        go_upto_region 12 with (first
          | (go_at_call 68; have qq := rentry_any p 1 L' no' mo' B' c' P' w5 (HA'.out.below HB5.out); refine qq.mono ?_; clear qq; rintro e w6 ⟨C1, l1, C2, l2, C3, l3, rfl, h1, h2, h3, hb6⟩; have HB6 := Lib.hid (HB5.out.trans (hb6.mono HB5.out.size)); have H456 := Lib.hid (And.intro h1 (And.intro h2 h3)); have HQ6 := Lib.hid (HQ5.out.below hb6); have HS5 := Lib.hid (show q < w5.heap.size from HQ5.out.glt); clear hb6 h1 h2 h3)
          | (go_at_call 67; have qq := rwith_any q (fun k => F k ∧ k ≠ q) (es ++ [entOf o (-1)]) (n + 1) HL1.out (entOf p 1) _ _ _ rfl rfl rfl C1 l1 C2 l2 C3 l3 w6 HQ6.out (fun k hk => HFQ.out w6 HB6.out HQ6.out.glt k hk) HEP.out (H456.out.1.mono fun k hk => HFQ.out w5 HB5.out HS5.out k hk) (H456.out.2.1.mono fun k hk => HFQ.out w5 HB5.out HS5.out k hk) (H456.out.2.2.mono fun k hk => HFQ.out w5 HB5.out HS5.out k hk) (by omega) z4 HZ4; refine qq.mono ?_; clear qq; rintro e w7 ⟨rfl, hk7, ht7⟩; have HQ7 := Lib.hid hk7; have HB7 := Lib.hid (HB6.out.trans (ht7.below HB6.out.size fun k e => by subst e; exact HQL.out)); clear hk7 ht7))
        clear x0 x1 x2 x3 x4 x5 x6
        by_cases hz40 : z4 = 0
        · subst hz40
          have hq7 := HQ7.out
          rw [if_pos rfl] at hq7
          obtain ⟨-, hok7, A7, c7, hg7, hr7⟩ := hq7
          have HOK7 := Lib.hid hok7
          have HR7 := Lib.hid hr7
          obtain ⟨n7, hn7⟩ : ∃ n7, ((es ++ [entOf o (-1)]) ++ [entOf p 1]).length = n7 := ⟨_, rfl⟩
          have HN7 := Lib.hid hn7
          rw [hn7] at hg7
          have q0 : w7.cell? ⟨q, 0, none⟩ = some (.slice A7 n7 c7) := (cell_of_row _ _ _ _ _ _ hg7).trans rfl
          obtain ⟨-, -, Ag, cg, hgg, -⟩ := HK0.out.below HB7.out
          have HGG := Lib.hid hgg
          have g0 : w7.cell? ⟨g, 0, none⟩ = some (.slice Ag es.length cg) := (cell_of_row _ _ _ _ _ _ hgg).trans rfl
          have gf : ∀ j, w7.frozen? ⟨g, j, none⟩ = false := fun j => frozen_of_row _ _ _ _ _ hgg
          have HEE := Lib.hid (show (es ++ [entOf o (-1)]) ++ [entOf p 1] = es' by have := HRES.out; rw [if_pos rfl] at this; exact congrArg Prod.snd this)
          have HZZ := Lib.hid (show (0 : Int) = z by have := HRES.out; rw [if_pos rfl] at this; exact congrArg Prod.fst this)
          clear hok7 hr7 hn7 hg7 hgg
          go_wp2
          go_ret
          have hbw := HB0.out.trans (HB7.out.mono HB0.out.size)
          refine ⟨by rw [← HZZ.out]; rfl, ?_, Turn.setCell (S := fun k => k = g) (p := ⟨g, 0, none⟩) (Turn.of_below hbw) (.inl rfl) _⟩
          rw [← HEE.out]
          refine ⟨HK.out.ng, HOK7.out, A7, c7, ?_, ?_⟩
          · rw [HN7.out]; exact (heap_setCell_same _ _ _ _ _ _ HGG.out).trans rfl
          · exact (HR7.out.keep fun k hk _ => Below.heap_setCell _ _ _ _ (by rintro rfl; exact HK.out.ng hk.1)).mono fun k hk => hk.1
        · have e1 : (z4 == 0) = false := by simpa using hz40
          have HEE := Lib.hid (show (z4, es) = (z, es') by have := HRES.out; rw [if_neg hz40] at this; exact this)
          have HZZ := Lib.hid (show z4 = z from congrArg Prod.fst HEE.out)
          clear hz40
          go_wp2
          go_ret
          exact ⟨by rw [HZZ.out]; rfl, HEND.out w7 z4 HB7.out HEE.out⟩
      · have e1 : (r3 != 0) = true := by simpa using hz3
        have HEE := Lib.hid (show (r3, es) = (z, es') by
          rw [← hz.out]
          have h1 : radV (-1) es o = (0, es ++ [entOf o (-1)]) := by have := HA1.out; simpa using this
          have h2 : radV 1 (es ++ [entOf o (-1)]) p = (r3, es ++ [entOf o (-1)]) := by unfold radV; rw [if_pos (by rw [HR3.out]; exact hz3), HR3.out]
          rw [rcgV_of h1 h2, if_neg (by simp), if_pos hz3])
        have HZZ := Lib.hid (show r3 = z from congrArg Prod.fst HEE.out)
        clear hz3
        go_upto_region 8 with (first
          | (go_at_call 68; have qq := rentry_any o (-1) L no mo B c P w2 (HA.out.below HB2.out); refine qq.mono ?_; clear qq; rintro e w3 ⟨A1, k1, A2, k2, A3, k3, rfl, h1, h2, h3, hb3⟩; have HB3 := Lib.hid (HB2.out.trans (hb3.mono HB2.out.size)); have H123 := Lib.hid (And.intro h1 (And.intro h2 h3)); have HQ3 := Lib.hid (HQ.out.below hb3); have HS2 := Lib.hid (show q < w2.heap.size from HQ.out.glt); clear hb3 h1 h2 h3)
          | (go_at_call 67; have qq := rwith_any q (fun k => F k ∧ k ≠ q) es n HNL.out (entOf o (-1)) _ _ _ rfl rfl rfl A1 k1 A2 k2 A3 k3 w3 HQ3.out (fun k hk => HFQ.out w3 HB3.out HQ3.out.glt k hk) HEO.out (H123.out.1.mono fun k hk => HFQ.out w2 HB2.out HS2.out k hk) (H123.out.2.1.mono fun k hk => HFQ.out w2 HB2.out HS2.out k hk) (H123.out.2.2.mono fun k hk => HFQ.out w2 HB2.out HS2.out k hk) (by omega) 0 HZ2; refine qq.mono ?_; clear qq; rintro e w4 ⟨rfl, hk4, ht4⟩; have HB4 := Lib.hid (HB3.out.trans (ht4.below HB3.out.size fun k e => by subst e; exact HQL.out)); clear hk4 ht4))
        clear x0 x1 x2 x3 x4 x5 x6
        obtain ⟨-, x0, x1, x2, x3, x4, x5, x6, -⟩ := HY.out.below HB4.out
        go_wp2_with (go_at_call 66; have qq := rright_any p r3 HR3 L' no' mo' B' c' P' w4 (HA'.out.below HB4.out); refine qq.mono ?_; clear qq; rintro e w5 ⟨rfl, hb5⟩; have HB5 := Lib.hid (HB4.out.trans (hb5.mono HB4.out.size)); clear hb5)
        go_ret
        exact ⟨by rw [HZZ.out]; rfl, HEND.out w5 r3 HB5.out HEE.out⟩
    · have e1 : (z2 != 0) = true := by simpa using hz20
      have HEE := Lib.hid (show (z2, es) = (z, es') by
        rw [← hz.out]
        exact (rcgV_no HA1.out hz20).symm)
      have HZZ := Lib.hid (show z2 = z from congrArg Prod.fst HEE.out)
      clear hz20
      go_wp2_with (first
        | (go_at_call 68; have qq := rentry_any o (-1) L no mo B c P w2 (HA.out.below HB2.out); refine qq.mono ?_; clear qq; rintro e w3 ⟨A1, k1, A2, k2, A3, k3, rfl, h1, h2, h3, hb3⟩; have HB3 := Lib.hid (HB2.out.trans (hb3.mono HB2.out.size)); have H123 := Lib.hid (And.intro h1 (And.intro h2 h3)); have HQ3 := Lib.hid (HQ.out.below hb3); have HS2 := Lib.hid (show q < w2.heap.size from HQ.out.glt); clear hb3 h1 h2 h3)
        | (go_at_call 67; have qq := rwith_any q (fun k => F k ∧ k ≠ q) es n HNL.out (entOf o (-1)) _ _ _ rfl rfl rfl A1 k1 A2 k2 A3 k3 w3 HQ3.out (fun k hk => HFQ.out w3 HB3.out HQ3.out.glt k hk) HEO.out (H123.out.1.mono fun k hk => HFQ.out w2 HB2.out HS2.out k hk) (H123.out.2.1.mono fun k hk => HFQ.out w2 HB2.out HS2.out k hk) (H123.out.2.2.mono fun k hk => HFQ.out w2 HB2.out HS2.out k hk) (by omega) z2 HZ2; refine qq.mono ?_; clear qq; rintro e w4 ⟨rfl, hk4, ht4⟩; have HB4 := Lib.hid (HB3.out.trans (ht4.below HB3.out.size fun k e => by subst e; exact HQL.out)); clear hk4 ht4))
      go_ret
      exact ⟨by rw [HZZ.out]; rfl, HEND.out w4 z2 HB4.out HEE.out⟩
  · have e1 : (r1 != 0) = true := by simpa using hz1
    have HEE := Lib.hid (show (r1, es) = (z, es') by
      rw [← hz.out]
      have h1 : radV (-1) es o = (r1, es) := by unfold radV; rw [if_pos (by rw [HR1.out]; exact hz1), HR1.out]
      exact (rcgV_no h1 hz1).symm)
    have HZZ := Lib.hid (show r1 = z from congrArg Prod.fst HEE.out)
    clear hz1
    go_enter Tryz.func48, Tryz.ntmps48
    go_wp2_with (go_at_call 66; have q := rright_any o r1 HR1 L no mo B c P w0 HA.out; refine q.mono ?_; clear q; rintro e w1 ⟨rfl, hb1⟩; have HB1 := Lib.hid hb1; clear hb1)
    go_ret
    exact ⟨by rw [HZZ.out]; rfl, HEND.out w1 r1 HB1.out HEE.out⟩
end Go.Proofs.YtalkdddeiebfmaaGreatDoor
/- The document's rows, in plain words. No program in sight. -/
namespace Go.Proofs.YtalkdddeiebfmaaGreatDoor

def ltT (paths : Bool) (a b : ByteArray) : Bool := if paths = true then decide (cmpNames (pathNames a) (pathNames b) < 0) else decide (cmpB a b < 0)
def stepT (lt : ByteArray → ByteArray → Bool) (s : ByteArray) (st : List ByteArray × Bool) (x : ByteArray) : List ByteArray × Bool :=
  if (!st.2 && lt s x) = true then (st.1 ++ [s, x], true) else (st.1 ++ [x], st.2)
/-- one text more, in its place; none twice -/
def textL (lt : ByteArray → ByteArray → Bool) (l : List ByteArray) (s : ByteArray) : List ByteArray :=
  if inB l s = true then l else if (l.foldl (stepT lt s) ([], false)).2 = true then (l.foldl (stepT lt s) ([], false)).1 else (l.foldl (stepT lt s) ([], false)).1 ++ [s]
def insT (lt : ByteArray → ByteArray → Bool) (s : ByteArray) : List ByteArray → List ByteArray
  | [] => [s]
  | x :: xs => if lt s x = true then s :: x :: xs else x :: insT lt s xs
section
variable {lt : ByteArray → ByteArray → Bool} {D : ByteArray → Prop}
theorem fold_true (s : ByteArray) : ∀ (l p : List ByteArray), l.foldl (stepT lt s) (p, true) = (p ++ l, true)
  | [], p => by simp
  | x :: l, p => by
    rw [List.foldl_cons]
    have : stepT lt s (p, true) x = (p ++ [x], true) := by unfold stepT; rw [if_neg (by simp)]
    rw [this, fold_true s l]
    simp
theorem fold_ins (s : ByteArray) : ∀ (l p : List ByteArray), (if (l.foldl (stepT lt s) (p, false)).2 = true then (l.foldl (stepT lt s) (p, false)).1 else (l.foldl (stepT lt s) (p, false)).1 ++ [s]) = p ++ insT lt s l
  | [], p => by simp [insT]
  | x :: l, p => by
    rw [List.foldl_cons]
    by_cases h : lt s x = true
    · have : stepT lt s (p, false) x = (p ++ [s, x], true) := by unfold stepT; rw [if_pos (by simpa using h)]
      rw [this, fold_true]
      simp [insT, h]
    · have : stepT lt s (p, false) x = (p ++ [x], false) := by unfold stepT; rw [if_neg (by simpa using h)]
      rw [this, fold_ins s l]
      simp [insT, h]
theorem fold_len (s : ByteArray) : ∀ (l : List ByteArray) (st : List ByteArray × Bool), (l.foldl (stepT lt s) st).1.length ≤ st.1.length + l.length + 1 ∧ (st.2 = true → (l.foldl (stepT lt s) st).1.length = st.1.length + l.length)
  | [], st => by simp
  | x :: l, st => by
    rw [List.foldl_cons]
    obtain ⟨h1, h2⟩ := fold_len s l (stepT lt s st x)
    unfold stepT at h1 h2 ⊢
    split at h1
    · rename_i h
      rw [if_pos h] at h2 ⊢
      have h3 := h2 rfl
      have h4 : st.2 = false := by simp at h; exact h.1
      simp only [List.length_append, List.length_cons, List.length_nil] at h1 h3 ⊢
      exact ⟨by omega, fun h5 => by rw [h4] at h5; cases h5⟩
    · rename_i h
      rw [if_neg h] at h2 ⊢
      simp only [List.length_append, List.length_cons, List.length_nil] at h1 h2 ⊢
      exact ⟨by omega, fun h5 => by have := h2 h5; omega⟩
theorem textL_ins {l : List ByteArray} {s : ByteArray} (h : s ∉ l) : textL lt l s = insT lt s l := by
  unfold textL
  rw [if_neg (fun e => h (inB_iff.1 e)), fold_ins s l []]; rfl
theorem insT_mem {s x : ByteArray} : ∀ {l : List ByteArray}, x ∈ insT lt s l ↔ x = s ∨ x ∈ l
  | [] => by simp [insT]
  | y :: l => by
    unfold insT
    split
    · simp
    · rw [List.mem_cons, insT_mem, List.mem_cons]
      constructor
      · rintro (h | h | h)
        · exact .inr (.inl h)
        · exact .inl h
        · exact .inr (.inr h)
      · rintro (h | h | h)
        · exact .inr (.inl h)
        · exact .inl h
        · exact .inr (.inr h)
theorem insT_len {s : ByteArray} : ∀ {l : List ByteArray}, (insT lt s l).length = l.length + 1
  | [] => rfl
  | y :: l => by
    unfold insT
    split
    · simp
    · simp [insT_len]
theorem textL_mem {l : List ByteArray} {s x : ByteArray} : x ∈ textL lt l s ↔ x = s ∨ x ∈ l := by
  by_cases h : s ∈ l
  · unfold textL
    rw [if_pos (inB_iff.2 h)]
    constructor
    · exact .inr
    · rintro (rfl | h2)
      · exact h
      · exact h2
  · rw [textL_ins h, insT_mem]
theorem textL_len {l : List ByteArray} {s : ByteArray} : (textL lt l s).length ≤ l.length + 1 := by
  by_cases h : s ∈ l
  · unfold textL
    rw [if_pos (inB_iff.2 h)]; omega
  · rw [textL_ins h, insT_len]; omega
structure OrdB (D : ByteArray → Prop) (lt : ByteArray → ByteArray → Bool) : Prop where
  tr : ∀ x y z, lt x y = true → lt y z = true → lt x z = true
  tot : ∀ x y, D x → D y → x ≠ y → lt x y = true ∨ lt y x = true
theorem insT_asc (h : OrdB D lt) {s : ByteArray} (hs : D s) : ∀ {l : List ByteArray}, l.Pairwise (fun a b => lt a b = true) → (∀ x ∈ l, D x) → s ∉ l → (insT lt s l).Pairwise (fun a b => lt a b = true)
  | [], _, _, _ => by simp [insT]
  | x :: l, hp, hd, hn => by
    rw [List.pairwise_cons] at hp
    unfold insT
    split
    · rename_i h1
      rw [List.pairwise_cons, List.pairwise_cons]
      refine ⟨fun y hy => ?_, hp⟩
      rcases List.mem_cons.1 hy with rfl | hy
      · exact h1
      · exact h.tr _ _ _ h1 (hp.1 y hy)
    · rename_i h1
      rw [List.pairwise_cons]
      have hx : lt x s = true := (h.tot s x hs (hd x List.mem_cons_self) (fun e => hn (e ▸ List.mem_cons_self))).resolve_left h1
      refine ⟨fun y hy => ?_, insT_asc h hs hp.2 (fun y hy => hd y (List.mem_cons_of_mem _ hy)) (fun e => hn (List.mem_cons_of_mem _ e))⟩
      rcases insT_mem.1 hy with rfl | hy
      · exact hx
      · exact hp.1 y hy
theorem textL_asc (h : OrdB D lt) {s : ByteArray} (hs : D s) {l : List ByteArray} (hp : l.Pairwise (fun a b => lt a b = true)) (hd : ∀ x ∈ l, D x) : (textL lt l s).Pairwise (fun a b => lt a b = true) := by
  by_cases hm : s ∈ l
  · unfold textL
    rw [if_pos (inB_iff.2 hm)]; exact hp
  · rw [textL_ins hm]; exact insT_asc h hs hp hd hm
/-- many texts -/
structure TextsIn (D : ByteArray → Prop) (lt : ByteArray → ByteArray → Bool) (n : Nat) (q : ByteArray → Prop) (l : List ByteArray) : Prop where
  asc : l.Pairwise (fun a b => lt a b = true)
  mem : ∀ x, x ∈ l ↔ q x
  dom : ∀ x ∈ l, D x
  len : l.length ≤ n
theorem texts_fold (h : OrdB D lt) : ∀ {L : List ByteArray} {l : List ByteArray} {n : Nat} {q : ByteArray → Prop}, (∀ x ∈ L, D x) → TextsIn D lt n q l → TextsIn D lt (n + L.length) (fun x => q x ∨ x ∈ L) (L.foldl (textL lt) l)
  | [], l, n, q, _, k => ⟨k.asc, fun x => by simpa using k.mem x, k.dom, k.len⟩
  | s :: L, l, n, q, hd, k => by
    have k2 : TextsIn D lt (n + 1) (fun x => q x ∨ x = s) (textL lt l s) :=
      ⟨textL_asc h (hd s List.mem_cons_self) k.asc k.dom, fun x => by rw [textL_mem, k.mem]; exact Or.comm, fun x hx => by
        rcases textL_mem.1 hx with rfl | hx
        · exact hd _ List.mem_cons_self
        · exact k.dom x hx, by have := textL_len (lt := lt) (l := l) (s := s); have := k.len; omega⟩
    have := texts_fold h (L := L) (fun x hx => hd x (List.mem_cons_of_mem _ hx)) k2
    rw [List.foldl_cons, List.length_cons]
    refine ⟨this.asc, fun x => ?_, this.dom, by have := this.len; omega⟩
    rw [this.mem, List.mem_cons, or_assoc]
end
theorem Tot.ltr {α : Type} {c : α → α → Int} (h : Tot c) {x y z : α} (h1 : c x y < 0) (h2 : c y z < 0) : c x z < 0 := by
  by_cases h3 : c x z < 0
  · exact h3
  · have a1 := h.sym x z
    have a2 := h.sym z x
    have a3 := h.tr z x y (by omega) (by omega)
    have a4 := (h.sym y z).1 h2
    omega
theorem Tot.self {α : Type} {c : α → α → Int} (h : Tot c) (x : α) : c x x = 0 := by
  have := h.sym x x
  omega
theorem ord_paths : OrdB (fun p => isPath p = true) (ltT true) := by
  refine ⟨fun x y z h1 h2 => ?_, fun x y hx hy hne => ?_⟩
  · unfold ltT at h1 h2 ⊢
    rw [if_pos rfl, decide_eq_true_iff] at h1 h2 ⊢
    exact tot_cmpNames.ltr h1 h2
  · unfold ltT
    rw [if_pos rfl, if_pos rfl, decide_eq_true_iff, decide_eq_true_iff]
    have h1 : cmpNames (pathNames x) (pathNames y) ≠ 0 := fun e => hne (path_of_names hx hy (cmpNames_zero e))
    have h2 := tot_cmpNames.sym (pathNames x) (pathNames y)
    have h3 := tot_cmpNames.sym (pathNames y) (pathNames x)
    omega
theorem ord_names : OrdB (fun _ => True) (ltT false) := by
  refine ⟨fun x y z h1 h2 => ?_, fun x y _ _ hne => ?_⟩
  · unfold ltT at h1 h2 ⊢
    rw [if_neg (by simp), decide_eq_true_iff] at h1 h2 ⊢
    exact tot_cmpB.ltr h1 h2
  · unfold ltT
    rw [if_neg (by simp), if_neg (by simp), decide_eq_true_iff, decide_eq_true_iff]
    have h1 : cmpB x y ≠ 0 := fun e => hne (cmpB_zero e)
    have h2 := tot_cmpB.sym x y
    have h3 := tot_cmpB.sym y x
    omega
def pathsL (es : List EntV) (l : List ByteArray) : List ByteArray := es.foldl (fun l e => e.line.foldl (textL (ltT true)) l) l
def namesL (es : List EntV) (l : List ByteArray) : List ByteArray := es.foldl (fun l e => (e.uses.map Amt.name).foldl (textL (ltT false)) l) l
theorem pathsL_in : ∀ {es : List EntV} {l : List ByteArray} {n : Nat} {q : ByteArray → Prop}, (∀ e ∈ es, ∀ p ∈ e.line, isPath p = true) → TextsIn (fun p => isPath p = true) (ltT true) n q l → TextsIn (fun p => isPath p = true) (ltT true) (n + (es.map fun e => e.line.length).sum) (fun x => q x ∨ ∃ e ∈ es, x ∈ e.line) (pathsL es l)
  | [], l, n, q, _, k => ⟨k.asc, fun x => by rw [show pathsL [] l = l from rfl, k.mem]; simp, k.dom, k.len⟩
  | e :: es, l, n, q, hd, k => by
    have k2 := texts_fold ord_paths (hd e List.mem_cons_self) k
    have := pathsL_in (es := es) (fun f hf => hd f (List.mem_cons_of_mem _ hf)) k2
    refine ⟨this.asc, fun x => ?_, this.dom, by have := this.len; rw [List.map_cons, List.sum_cons]; exact Nat.le_trans this (by omega)⟩
    show x ∈ pathsL es _ ↔ _
    rw [this.mem]
    simp only [List.mem_cons, exists_eq_or_imp, or_assoc]
theorem namesL_in : ∀ {es : List EntV} {l : List ByteArray} {n : Nat} {q : ByteArray → Prop}, TextsIn (fun _ => True) (ltT false) n q l → TextsIn (fun _ => True) (ltT false) (n + (es.map fun e => e.uses.length).sum) (fun x => q x ∨ ∃ e ∈ es, x ∈ e.uses.map Amt.name) (namesL es l)
  | [], l, n, q, k => ⟨k.asc, fun x => by rw [show namesL [] l = l from rfl, k.mem]; simp, k.dom, k.len⟩
  | e :: es, l, n, q, k => by
    have k2 := texts_fold ord_names (L := e.uses.map Amt.name) (fun _ _ => trivial) k
    have := namesL_in (es := es) k2
    refine ⟨this.asc, fun x => ?_, this.dom, by have := this.len; rw [List.map_cons, List.sum_cons]; rw [List.length_map] at this; exact Nat.le_trans this (by omega)⟩
    show x ∈ namesL es _ ↔ _
    rw [this.mem]
    simp only [List.mem_cons, exists_eq_or_imp, or_assoc]
theorem texts_nil (D : ByteArray → Prop) (lt : ByteArray → ByteArray → Bool) : TextsIn D lt 0 (fun _ => False) [] := ⟨List.Pairwise.nil, fun x => by simp, fun x h => (List.not_mem_nil h).elim, Nat.le_refl _⟩
/-- a row, if the sum is not 0 -/
def rowAt (es : List EntV) (p : ByteArray) (s : ScV) (r : ByteArray) : List Sh := if totE es (p, (s.kind, s.arg), r) ≠ 0 then [((p, (s.kind, s.arg), r), totE es (p, (s.kind, s.arg), r))] else []
def rowsE (es : List EntV) : List Sh := (pathsL es []).flatMap fun p => allS.flatMap fun s => (namesL es []).flatMap (rowAt es p s)
theorem rowAt_mem {es : List EntV} {p : ByteArray} {s : ScV} {r : ByteArray} {x : Sh} : x ∈ rowAt es p s r ↔ x = ((p, (s.kind, s.arg), r), totE es (p, (s.kind, s.arg), r)) ∧ totE es (p, (s.kind, s.arg), r) ≠ 0 := by
  unfold rowAt
  split
  · rename_i h; simp [h]
  · rename_i h; simp [h]
theorem valid_allS {k a : Int} (h : validS ⟨k, a⟩ = true) : (⟨k, a⟩ : ScV) ∈ allS := by
  unfold validS at h
  have hk : ¬ (k < 0 ∨ k ≥ 6) := fun e => by rw [if_pos e] at h; cases h
  rw [if_neg hk] at h
  by_cases h5 : k = 5
  · rw [if_pos h5] at h
    simp only [Bool.and_eq_true, decide_eq_true_eq] at h
    obtain ⟨h1, h2⟩ := h
    subst h5
    have : a = 0 ∨ a = 1 ∨ a = 2 ∨ a = 3 ∨ a = 4 ∨ a = 5 ∨ a = 6 ∨ a = 7 ∨ a = 8 ∨ a = 9 := by omega
    rcases this with rfl | rfl | rfl | rfl | rfl | rfl | rfl | rfl | rfl | rfl <;> decide
  · rw [if_neg h5, decide_eq_true_iff] at h
    have h : a = 0 := h
    subst h
    have : k = 0 ∨ k = 1 ∨ k = 2 ∨ k = 3 ∨ k = 4 := by omega
    rcases this with rfl | rfl | rfl | rfl | rfl <;> decide
theorem allS_asc : allS.Pairwise (fun a b => a.kind < b.kind ∨ (a.kind = b.kind ∧ a.arg < b.arg)) := by decide
theorem totE_in {es : List EntV} {x : Pl} (h : totE es x ≠ 0) : ∃ e ∈ es, x.1 ∈ e.line ∧ x.2.2 ∈ e.uses.map Amt.name := by
  apply Classical.byContradiction
  intro hn
  apply h
  have : ∀ es' : List EntV, (∀ e ∈ es', e ∈ es) → totE es' x = 0 := by
    intro es'
    induction es' with
    | nil => intro _; rfl
    | cons e es' ih =>
      intro hs
      have h1 := ih fun f hf => hs f (List.mem_cons_of_mem _ hf)
      have h2 : entAmt e x = 0 := by
        unfold entAmt
        split
        · rename_i hin
          unfold inE at hin
          rw [Bool.and_eq_true] at hin
          have h3 : x.2.2 ∉ e.uses.map Amt.name := fun hm => hn ⟨e, hs e List.mem_cons_self, inB_iff.1 hin.1, hm⟩
          rw [usesAt_out h3]; simp
        · rfl
      unfold totE at h1 ⊢
      rw [List.map_cons, List.sum_cons, h1, h2]; rfl
  exact this es fun _ h => h
theorem lex_first {α : Type} {c d : α → α → Int} {x y : α} (h : c x y < 0) : lexC c d x y < 0 := by unfold lexC; rw [if_pos (by omega)]; exact h
theorem lex_then {α : Type} {c d : α → α → Int} {x y : α} (h : c x y = 0) (h2 : d x y < 0) : lexC c d x y < 0 := by unfold lexC; rw [if_neg (by omega)]; exact h2
theorem rowsE_of {es : List EntV} {S : Pl → Int} {C : ByteArray → Int} {m : Nat} (r : Rel es S C) (k : LedOk m S C) : RowsOf S (rowsE es) := by
  have hp := pathsL_in r.path (texts_nil _ _)
  have hn := namesL_in (es := es) (texts_nil _ _)
  refine ⟨?_, fun x => ?_⟩
  · unfold rowsE
    rw [List.pairwise_flatMap]
    refine ⟨fun p hpm => ?_, hp.asc.imp fun {p q} hpq x hx y hy => ?_⟩
    · rw [List.pairwise_flatMap]
      refine ⟨fun s _ => ?_, allS_asc.imp fun {s t} hst x hx y hy => ?_⟩
      · rw [List.pairwise_flatMap]
        refine ⟨fun nm _ => ?_, hn.asc.imp fun {a b} hab x hx y hy => ?_⟩
        · unfold rowAt; split <;> simp
        · obtain ⟨rfl, -⟩ := rowAt_mem.1 hx
          obtain ⟨rfl, -⟩ := rowAt_mem.1 hy
          unfold ltT at hab
          rw [if_neg (by simp), decide_eq_true_iff] at hab
          exact lex_then (tot_cmpNames.self _) (lex_then (tot_cmpI.self _) (lex_then (tot_cmpI.self _) hab))
      · obtain ⟨a, _, hx⟩ := List.mem_flatMap.1 hx
        obtain ⟨b, _, hy⟩ := List.mem_flatMap.1 hy
        obtain ⟨rfl, -⟩ := rowAt_mem.1 hx
        obtain ⟨rfl, -⟩ := rowAt_mem.1 hy
        refine lex_then (tot_cmpNames.self _) ?_
        rcases hst with h1 | ⟨h1, h2⟩
        · refine lex_first ?_
          show cmpI s.kind t.kind < 0
          unfold cmpI; rw [if_pos h1]; omega
        · refine lex_then ?_ (lex_first ?_)
          · show cmpI s.kind t.kind = 0
            rw [h1]; exact tot_cmpI.self _
          · show cmpI s.arg t.arg < 0
            unfold cmpI; rw [if_pos h2]; omega
    · obtain ⟨s, _, hx⟩ := List.mem_flatMap.1 hx
      obtain ⟨t, _, hy⟩ := List.mem_flatMap.1 hy
      obtain ⟨a, _, hx⟩ := List.mem_flatMap.1 hx
      obtain ⟨b, _, hy⟩ := List.mem_flatMap.1 hy
      obtain ⟨rfl, -⟩ := rowAt_mem.1 hx
      obtain ⟨rfl, -⟩ := rowAt_mem.1 hy
      unfold ltT at hpq
      rw [if_pos rfl, decide_eq_true_iff] at hpq
      exact lex_first hpq
  · unfold rowsE
    constructor
    · intro hx
      obtain ⟨p, _, hx⟩ := List.mem_flatMap.1 hx
      obtain ⟨s, _, hx⟩ := List.mem_flatMap.1 hx
      obtain ⟨a, _, hx⟩ := List.mem_flatMap.1 hx
      obtain ⟨rfl, h⟩ := rowAt_mem.1 hx
      rw [r.tot] at h
      exact ⟨h, r.tot _⟩
    · rintro ⟨h1, h2⟩
      have h3 : totE es x.1 ≠ 0 := by rw [r.tot]; exact h1
      obtain ⟨e, he, h4, h5⟩ := totE_in h3
      have hv := (k.pl x.1 h1).2.2
      refine List.mem_flatMap.2 ⟨x.1.1, (hp.mem _).2 (.inr ⟨e, he, h4⟩), List.mem_flatMap.2 ⟨⟨x.1.2.1.1, x.1.2.1.2⟩, valid_allS hv, List.mem_flatMap.2 ⟨x.1.2.2, (hn.mem _).2 (.inr ⟨e, he, h5⟩), rowAt_mem.2 ⟨?_, h3⟩⟩⟩⟩
      obtain ⟨⟨p, ⟨k1, a1⟩, n1⟩, v⟩ := x
      show ((p, (k1, a1), n1), v) = ((p, (k1, a1), n1), totE es (p, (k1, a1), n1))
      rw [r.tot]
      exact congrArg _ h2
end Go.Proofs.YtalkdddeiebfmaaGreatDoor
/- The document's Ahead and text: the walks. -/
namespace Go.Proofs.YtalkdddeiebfmaaGreatDoor
open Go.RowKit

theorem names_few (p : ByteArray) : (pathNames p).length ≤ 8 := by
  cases h : isPath p
  · have : pathNames p = [] := by
      unfold pathNames
      unfold isPath at h
      cases hs : pathL p.data.toList with
      | none => rfl
      | some l => rw [hs] at h; cases h
    rw [this]; simp
  · rw [pathNames_nm, List.length_map]; exact (pathOk h).few
theorem cmpNames_end {N M : List ByteArray} {i : Nat} (h1 : i ≤ N.length) (h2 : i ≤ M.length) (h : N.length ≤ i ∨ M.length ≤ i) : decide (cmpNames (N.drop i) (M.drop i) < 0) = decide (N.length < M.length) := by
  by_cases hN : N.length ≤ i
  · rw [List.drop_eq_nil_of_le hN]
    by_cases hM : M.length ≤ i
    · rw [List.drop_eq_nil_of_le hM]
      have : N.length = M.length := by omega
      simp [cmpNames, this]
    · rw [List.drop_eq_getElem_cons (by omega)]
      simp [cmpNames]; omega
  · have hM : M.length ≤ i := h.resolve_left hN
    rw [List.drop_eq_nil_of_le hM, List.drop_eq_getElem_cons (by omega)]
    simp [cmpNames]; omega
theorem cmpB_less (a b : ByteArray) : Op.bytesLess a.toList b.toList = decide (cmpB a b < 0) := by
  rw [toList_eq, toList_eq, bytesLess_eq]
  unfold cmpB
  by_cases h : a.data.toList < b.data.toList
  · rw [if_pos h]; simp [h]
  · rw [if_neg h]
    split <;> simp [h]
theorem cmpB_eq (a b : ByteArray) : (a.toList == b.toList) = decide (cmpB a b = 0) := by
  rw [bytes_beq]
  refine decide_eq_decide.2 ⟨fun e => ?_, cmpB_zero⟩
  rw [e]; exact tot_cmpB.self b
set_option maxRecDepth 100000 in
set_option maxHeartbeats 1000000 in
theorem rahead_any (a b : ByteArray) (w : World) (ha : a.size ≤ 1073741824) (hb : b.size ≤ 1073741824) : Calls Tryz.prog 74 #[.string a, .string b] w fun e w' => e = .returned (.bool (ltT true a b)) ∧ Below w.heap.size w w' := by
  have HL := Lib.hid (show ltT true a b = decide (cmpNames (pathNames a) (pathNames b) < 0) from rfl)
  have h8 := names_few a
  have h8' := names_few b
  have HS := Lib.hid (rsplit_any a w ha)
  have HS' := Lib.hid (fun W => rsplit_any b W hb)
  unfold RSplitPost at HS HS'
  obtain ⟨N, hN⟩ : ∃ N, pathNames a = N := ⟨_, rfl⟩
  obtain ⟨M, hM⟩ : ∃ M, pathNames b = M := ⟨_, rfl⟩
  rw [hN] at HL HS h8
  rw [hM] at HL HS' h8'
  clear hN hM ha hb
  go_enter Tryz.func74, Tryz.ntmps74
  go_upto_region 2 with (go_at_call 111; have q := HS.out; refine q.mono ?_; clear q; rintro e w1 ⟨A, c, rfl, hr, -, hb1⟩; have HR := Lib.hid hr; have HB1 := Lib.hid hb1; clear hr hb1)
  go_upto_region 3 with (go_at_call 111; have q := HS'.out w1; refine q.mono ?_; clear q; rintro e w2 ⟨A', c', rfl, hr, -, hb2⟩; have HR2 := Lib.hid hr; have HB2 := Lib.hid (HB1.out.trans (hb2.mono HB1.out.size)); have HR1 := Lib.hid (HR.out.below hb2); clear hr hb2)
  clear HS HS' HR HB1
  go_wp2
  go_loopw [9] (fun iv wr => ∃ i : Nat, iv = .int .i64 i ∧ i ≤ N.length ∧ i ≤ M.length ∧ Hid (cmpNames N M = cmpNames (N.drop i) (M.drop i)) ∧ Hid (Below w2.heap.size w2 wr)) (fun iv _ => N.length - (intOf iv).toNat)
  case atStart => exact ⟨0, rfl, Nat.zero_le _, Nat.zero_le _, by simp [Hid], Below.refl _ _⟩
  case round =>
    obtain ⟨i, rfl, hi, hi', hc, hbr⟩ := hrel
    obtain ⟨wo, rfl⟩ : ∃ wo, wo = wr := ⟨_, rfl⟩
    have HBO := Lib.hid hbr.out
    have HC := Lib.hid hc.out
    have HE := Lib.hid (HB2.out.trans (hbr.out.mono HB2.out.size))
    by_cases hlt : i < N.length
    · by_cases hlt' : i < M.length
      · obtain ⟨ad, rfl, x0⟩ := row_str_at (HR1.out.below hbr.out) i hlt
        obtain ⟨bd, rfl, y0⟩ := row_str_at (HR2.out.below hbr.out) i hlt'
        have HD := Lib.hid (cmpNames_drop hlt hlt')
        have hl1 : (i : Int) < (N.length : Int) := by omega
        have hl2 : (i : Int) < (M.length : Int) := by omega
        have hi0 : (0 : Int) ≤ (i : Int) := by omega
        obtain ⟨x, hx⟩ : ∃ x, N[i] = x := ⟨_, rfl⟩
        obtain ⟨y, hy⟩ : ∃ y, M[i] = y := ⟨_, rfl⟩
        rw [hx] at x0 HD
        rw [hy] at y0 HD
        have hless := cmpB_less x y
        have heq := cmpB_eq x y
        clear hx hy hc hbr
        by_cases hz : cmpB x y = 0
        · rw [decide_eq_true hz] at heq
          have HN := Lib.hid (show cmpNames N M = cmpNames (N.drop (i + 1)) (M.drop (i + 1)) by rw [HC.out, HD.out, if_neg (by simpa using hz)])
          clear hless hz
          go_wp2
          go_quiet (fail)
          go_wp2
          go_roundw
          case rel => exact ⟨i + 1, by go_num, hlt, hlt', HN.out, below_drewN HBO.out _⟩
          case measure => simp [intOf]; omega
        · rw [decide_eq_false hz] at heq
          have HN := Lib.hid (show ltT true a b = decide (cmpB x y < 0) by rw [HL.out, HC.out, HD.out, if_pos hz])
          clear hz
          obtain ⟨d, hd⟩ : ∃ d, decide (cmpB x y < 0) = d := ⟨_, rfl⟩
          rw [hd] at hless HN
          clear hd
          go_wp2
          go_quiet (fail)
          go_wp2
          go_quiet (fail)
          go_wp2
          go_ret
          exact ⟨by rw [HN.out]; rfl, below_drewN (below_drewN HE.out _) _⟩
      · have hge : ¬ ((i : Int) < (M.length : Int)) := by omega
        have hl1 : (i : Int) < (N.length : Int) := by omega
        have HN := Lib.hid (show ltT true a b = decide (N.length < M.length) by rw [HL.out, HC.out]; exact cmpNames_end hi hi' (.inr (by omega)))
        clear hc hbr
        go_wp2
        go_ret
        exact ⟨by rw [HN.out]; rfl, HE.out⟩
    · have hge : ¬ ((i : Int) < (N.length : Int)) := by omega
      have HN := Lib.hid (show ltT true a b = decide (N.length < M.length) by rw [HL.out, HC.out]; exact cmpNames_end hi hi' (.inl (by omega)))
      clear hc hbr
      go_wp2
      go_ret
      exact ⟨by rw [HN.out]; rfl, HE.out⟩
end Go.Proofs.YtalkdddeiebfmaaGreatDoor
/- The document's text: the walk. -/
namespace Go.Proofs.YtalkdddeiebfmaaGreatDoor
open Go.RowKit

theorem fold_take {α β : Type} {f : β → α → β} {b : β} {l : List α} {i : Nat} (h : i < l.length) : (l.take (i + 1)).foldl f b = f ((l.take i).foldl f b) l[i] := by
  rw [List.take_succ_eq_append_getElem h, List.foldl_append]; rfl
def TextPost (lt : ByteArray → ByteArray → Bool) (l : List ByteArray) (s : ByteArray) (w : World) (e : Ending) (w' : World) : Prop :=
  ∃ A c, e = .returned (.slice A (textL lt l s).length c) ∧ Row Kn.str (fun _ => True) w' A (textL lt l s) ∧ Below w.heap.size w w'
theorem TextPost.old {lt : ByteArray → ByteArray → Bool} {l : List ByteArray} {s : ByteArray} {w w' : World} {A : Option Addr} {c : Nat} {P : Nat → Prop} (h : inB l s = true) (hr : Row Kn.str P w' A l) (hb : Below w.heap.size w w') : TextPost lt l s w (.returned (.slice A l.length c)) w' := by
  have e : textL lt l s = l := by unfold textL; rw [if_pos h]
  unfold TextPost
  rw [e]
  exact ⟨A, c, rfl, hr.mono fun _ _ => trivial, hb⟩
theorem TextPost.new {lt : ByteArray → ByteArray → Bool} {l T : List ByteArray} {s : ByteArray} {w w' : World} {A : Option Addr} {n c : Nat} {base : Nat} (h : textL lt l s = T) (hn : n = T.length) (ho : Own Kn.str 9 base (fun _ => False) w' (.slice A n c) T) (hb : Below w.heap.size w w') : TextPost lt l s w (.returned (.slice A n c)) w' := by
  unfold TextPost
  rw [h, ← hn]
  exact ⟨A, c, rfl, (own_rows ho).mono fun _ _ => trivial, hb⟩
set_option maxRecDepth 100000 in
set_option maxHeartbeats 2000000 in
theorem rtext_any (pb : Bool) (l : List ByteArray) (n : Nat) (hn : l.length = n) (A : Option Addr) (c : Nat) (P : Nat → Prop) (s : ByteArray) (w : World) (hr : Row Kn.str P w A l) (hl : n ≤ 1073741823) (hz : pb = true → s.size ≤ 1073741824 ∧ ∀ x ∈ l, x.size ≤ 1073741824) :
    Calls Tryz.prog 38 #[.slice A n c, .string s, .bool pb] w (TextPost (ltT pb) l s w) := by
  have HN := Lib.hid hn
  have HR := Lib.hid hr
  have HZ := Lib.hid hz
  clear hn hr hz
  go_enter Tryz.func38, Tryz.ntmps38
  go_wp2
  go_loopw [7, 8, 9] (fun ov dv iv wr => ∃ (i m k : Nat) (B : Option Addr) (T : List ByteArray) (d : Bool), iv = .int .i64 i ∧ dv = .bool d ∧ ov = .slice B m k ∧ i ≤ n ∧ m ≤ i + (if d = true then 1 else 0) ∧ Hid (m = T.length) ∧ Hid (s ∉ l.take i) ∧ Hid ((l.take i).foldl (stepT (ltT pb) s) ([], false) = (T, d)) ∧ Hid (Own Kn.str 9 w.heap.size (fun _ => False) wr (.slice B m k) T) ∧ Hid (Below w.heap.size w wr)) (fun _ _ iv _ => n - (intOf iv).toNat)
  case atStart => exact ⟨0, 0, 0, none, [], false, rfl, rfl, rfl, Nat.zero_le _, by simp, rfl, by simp [Hid], rfl, Own.nil _ _ _ _ _, Below.refl _ _⟩
  case round =>
    obtain ⟨i, m, k, B, T, d, rfl, rfl, rfl, hi, hm, hmt, hno, hf, hown, hbr⟩ := hrel
    obtain ⟨wo, rfl⟩ : ∃ wo, wo = wr := ⟨_, rfl⟩
    have HMT := Lib.hid hmt.out
    have HMM := Lib.hid hm
    have hm1 : m ≤ i + 1 := by revert hm; split <;> omega
    clear hm
    have HNO := Lib.hid hno.out
    have HF := Lib.hid hf.out
    have HO := Lib.hid hown.out
    have HB := Lib.hid hbr.out
    clear hmt hno hf hown
    by_cases hlt : i < n
    · have hil : i < l.length := by rw [HN.out]; exact hlt
      obtain ⟨a, rfl, xw⟩ := row_str_at HR.out i hil
      have x0 := (hbr.out.cell (World.block_lt_of_cell? _ _ xw)).trans xw
      have hst := fold_take (f := stepT (ltT pb) s) (b := ([], false)) hil
      have hzx := fun h => (HZ.out h).2 _ (List.getElem_mem hil)
      have hnx := fun hne => take_not_mem (p := s) hil HNO.out hne
      have hin := fun (he : l[i] = s) => inB_iff.2 (he ▸ List.getElem_mem hil)
      obtain ⟨x, hx⟩ : ∃ x, l[i] = x := ⟨_, rfl⟩
      rw [hx] at x0 xw hst hzx hnx hin
      rw [HF.out] at hst
      have HST := Lib.hid hst
      have HZX := Lib.hid hzx
      have HNX := Lib.hid hnx
      have HIN := Lib.hid hin
      have X0 := Lib.hid x0
      have XW := Lib.hid xw
      have hlti : (i : Int) < (n : Int) := by omega
      have hi0 : (0 : Int) ≤ (i : Int) := by omega
      clear hst hzx hnx hin hx hbr xw
      have heq := bytes_beq (a := x) (b := s)
      by_cases he : x = s
      · rw [decide_eq_true he] at heq
        have HRES := Lib.hid (HIN.out he)
        clear he
        go_wp2
        go_ret
        have := TextPost.old (lt := ltT pb) (c := c) HRES.out (HR.out.below HB.out) HB.out
        rw [HN.out] at this
        exact this
      · rw [decide_eq_false he] at heq
        have HNI := Lib.hid (HNX.out he)
        have h16 : (m + 1) * 16 ≤ 140737488355328 := by omega
        have h162 : (m + 2) * 16 ≤ 140737488355328 := by omega
        have hless := cmpB_less s x
        clear he
        go_upto_if 30 with fail
        go_cut [10] (fun av wx => av = .bool (ltT pb s x) ∧ Below wo.heap.size wo wx)
        case first =>
          cases pb
          · have HLT := Lib.hid (show ltT false s x = decide (cmpB s x < 0) from rfl)
            go_wp2
            go_meet
            exact ⟨by rw [HLT.out], Below.refl _ _⟩
          · go_wp2_with (go_at_call 74; have q := rahead_any s x wo (HZ.out rfl).1 (HZX.out rfl); refine q.mono ?_; clear q; rintro e w2 ⟨rfl, hb2⟩; have HB2 := Lib.hid hb2; clear hb2)
            go_meet
            exact ⟨rfl, HB2.out⟩
        case rest =>
          obtain ⟨rfl, hb2⟩ := hcut
          rename World => w3
          have HB3 := Lib.hid (HB.out.trans (hb2.mono HB.out.size))
          have HO3 := Lib.hid (HO.out.below hb2)
          have x1 := (hb2.cell (World.block_lt_of_cell? _ _ X0.out)).trans X0.out
          have X1 := Lib.hid x1
          clear hb2 hless heq x0
          obtain ⟨t, ht⟩ : ∃ t, ltT pb s x = t := ⟨_, rfl⟩
          have HT := Lib.hid ht
          rw [ht]
          clear ht
          cases d
          · cases t
            · have HS := Lib.hid (show (l.take (i + 1)).foldl (stepT (ltT pb) s) ([], false) = (T ++ [x], false) by rw [HST.out]; unfold stepT; rw [HT.out]; rfl)
              go_wp2_with (at_builtin; refine wpList_appN strElem w.heap.size rfl (.tmp 46) (.tmp 51) rfl (v := .slice B m k) (xs := T) (ys := [x]) (zs := T ++ [x]) (nz := m + 1) (R := fun _ => False) (S := fun k => k = w3.heap.size) rfl (by rw [List.length_append, HMT.out]; rfl) rfl (HO3.out.alloc _) (fun _ h => h.elim) (fun k hk e => by have := (HO3.out.block_lt k e).2; omega) rfl rfl (Row.newOne (cs := [.string x]) (S := fun _ => False) rfl |>.mono fun k hk => hk.elim (fun f => f.elim) id) (by exact h16) (by have := HB3.out.size; simp; omega) ?_; intro A8 c8 w8 happ; have HA8 := Lib.hid happ; clear happ)
              go_roundw
              case rel => exact ⟨i + 1, m + 1, c8, A8, T ++ [x], false, by go_num, rfl, rfl, hlt, by have := HMM.out; simp at this; rw [if_neg (by simp)]; omega, by rw [List.length_append, HMT.out]; rfl, HNI.out, HS.out, HA8.out.own.plain Kn.plain_str, HA8.out.below (HB3.out.alloc HB3.out.size _) (by have := HB3.out.size; simp; omega) (fun k e => (HO3.out.block_lt k e).1)⟩
              case measure => simp [intOf]; omega
            · have HS := Lib.hid (show (l.take (i + 1)).foldl (stepT (ltT pb) s) ([], false) = (T ++ [s, x], true) by rw [HST.out]; unfold stepT; rw [HT.out]; rfl)
              go_wp2_with (first
                | (at_builtin; refine wpList_appN strElem w.heap.size rfl (.tmp 42) (.tmp 44) rfl (v := .slice B m k) (xs := T) (ys := [s]) (zs := T ++ [s]) (nz := m + 1) (R := fun _ => False) (S := fun k => k = w3.heap.size) rfl (by rw [List.length_append, HMT.out]; rfl) rfl (HO3.out.alloc _) (fun _ h => h.elim) (fun k hk e => by have := (HO3.out.block_lt k e).2; omega) rfl rfl (Row.newOne (cs := [.string s]) (S := fun _ => False) rfl |>.mono fun k hk => hk.elim (fun f => f.elim) id) (by exact h16) (by have := HB3.out.size; simp; omega) ?_; intro A8 c8 w8 happ; have HO8 := Lib.hid (happ.own.plain (Q := fun _ => False) Kn.plain_str); have HB8 := Lib.hid (happ.below (HB3.out.alloc HB3.out.size _) (by have := HB3.out.size; simp; omega) (fun k e => (HO3.out.block_lt k e).1)); have x2 := (HB8.out.cell (World.block_lt_of_cell? _ _ XW.out)).trans XW.out; clear happ x1)
                | (at_builtin; refine wpList_appN strElem w.heap.size rfl (.tmp 46) (.tmp 51) rfl (v := .slice A8 (m + 1) c8) (xs := T ++ [s]) (ys := [x]) (zs := T ++ [s, x]) (nz := m + 2) (R := fun _ => False) (S := fun k => k = w8.heap.size) (by simp) (by rw [List.length_append, HMT.out]; rfl) rfl (HO8.out.alloc _) (fun _ h => h.elim) (fun k hk e => by have := (HO8.out.block_lt k e).2; omega) rfl rfl (Row.newOne (cs := [.string x]) (S := fun _ => False) rfl |>.mono fun k hk => hk.elim (fun f => f.elim) id) (by exact h162) (by have := HB8.out.size; simp; omega) ?_; intro A9 c9 w9 happ; have HA9 := Lib.hid happ; clear happ))
              go_roundw
              case rel => exact ⟨i + 1, m + 2, c9, A9, T ++ [s, x], true, by go_num, rfl, rfl, hlt, by have := HMM.out; simp at this; rw [if_pos rfl]; omega, by rw [List.length_append, HMT.out]; rfl, HNI.out, HS.out, HA9.out.own.plain Kn.plain_str, HA9.out.below (HB8.out.alloc HB8.out.size _) (by have := HB8.out.size; simp; omega) (fun k e => (HO8.out.block_lt k e).1)⟩
              case measure => simp [intOf]; omega
          · have HS := Lib.hid (show (l.take (i + 1)).foldl (stepT (ltT pb) s) ([], false) = (T ++ [x], true) by rw [HST.out]; unfold stepT; rfl)
            go_wp2_with (at_builtin; refine wpList_appN strElem w.heap.size rfl (.tmp 46) (.tmp 51) rfl (v := .slice B m k) (xs := T) (ys := [x]) (zs := T ++ [x]) (nz := m + 1) (R := fun _ => False) (S := fun k => k = w3.heap.size) rfl (by rw [List.length_append, HMT.out]; rfl) rfl (HO3.out.alloc _) (fun _ h => h.elim) (fun k hk e => by have := (HO3.out.block_lt k e).2; omega) rfl rfl (Row.newOne (cs := [.string x]) (S := fun _ => False) rfl |>.mono fun k hk => hk.elim (fun f => f.elim) id) (by exact h16) (by have := HB3.out.size; simp; omega) ?_; intro A8 c8 w8 happ; have HA8 := Lib.hid happ; clear happ)
            go_roundw
            case rel => exact ⟨i + 1, m + 1, c8, A8, T ++ [x], true, by go_num, rfl, rfl, hlt, by have := HMM.out; simp at this; rw [if_pos rfl]; omega, by rw [List.length_append, HMT.out]; rfl, HNI.out, HS.out, HA8.out.own.plain Kn.plain_str, HA8.out.below (HB3.out.alloc HB3.out.size _) (by have := HB3.out.size; simp; omega) (fun k e => (HO3.out.block_lt k e).1)⟩
            case measure => simp [intOf]; omega
    · have hge : ¬ ((i : Int) < (n : Int)) := by omega
      have hin : i = n := by omega
      subst hin
      have htk : l.take i = l := List.take_of_length_le (by rw [HN.out]; exact Nat.le_refl _)
      rw [htk] at HNO HF
      have HNI := Lib.hid (show ¬ inB l s = true from fun e => HNO.out (inB_iff.1 e))
      have h16 : (m + 1) * 16 ≤ 140737488355328 := by omega
      clear hbr htk
      cases d
      · have HT := Lib.hid (show textL (ltT pb) l s = T ++ [s] by unfold textL; rw [if_neg HNI.out, HF.out]; rfl)
        go_wp2_with (at_builtin; refine wpList_appN strElem w.heap.size rfl (.tmp 55) (.tmp 57) rfl (v := .slice B m k) (xs := T) (ys := [s]) (zs := T ++ [s]) (nz := m + 1) (R := fun _ => False) (S := fun k => k = wo.heap.size) rfl (by rw [List.length_append, HMT.out]; rfl) rfl (HO.out.alloc _) (fun _ h => h.elim) (fun k hk e => by have := (HO.out.block_lt k e).2; omega) rfl rfl (Row.newOne (cs := [.string s]) (S := fun _ => False) rfl |>.mono fun k hk => hk.elim (fun f => f.elim) id) (by exact h16) (by have := HB.out.size; simp; omega) ?_; intro A8 c8 w8 happ; have HA8 := Lib.hid happ; clear happ)
        go_ret
        exact .new HT.out (by rw [List.length_append, HMT.out]; rfl) (HA8.out.own.plain Kn.plain_str) (HA8.out.below (HB.out.alloc HB.out.size _) (by have := HB.out.size; simp; omega) (fun k e => (HO.out.block_lt k e).1))
      · have HT := Lib.hid (show textL (ltT pb) l s = T by unfold textL; rw [if_neg HNI.out, HF.out]; rfl)
        go_wp2
        go_ret
        exact .new HT.out HMT.out HO.out HB.out
end Go.Proofs.YtalkdddeiebfmaaGreatDoor
