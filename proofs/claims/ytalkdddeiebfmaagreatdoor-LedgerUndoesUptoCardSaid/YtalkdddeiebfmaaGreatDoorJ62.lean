/- An element of a row of the call's own is written anew; the book in plain words. -/
import Derived.Test.YtalkdddeiebfmaaGreatDoorJ61
namespace Go.Proofs.YtalkdddeiebfmaaGreatDoor
open Go.RowKit

section
variable {α : Type} {d : Kn α} {e base : Nat} {P Q R : Nat → Prop} {w w' : World} {xs : List α} {g m cap : Nat} {lv : Value}
theorem Own.setK (h : Own d e base P w (.slice (some ⟨g, 0, none⟩) m cap) xs) (i : Nat) (hi : i < xs.length) (y : α) (cs : List Value) (hy : d.R Q w y cs) (hP : ∀ k, P k → k ≠ g) (hQ : ∀ k, Q k → k ≠ g) :
    Own d e base (fun k => P k ∨ Q k) (w.setCells g (i * d.sz) cs) (.slice (some ⟨g, 0, none⟩) m cap) (xs.set i y) := by
  have hkeep : ∀ k, k ≠ g → (w.setCells g (i * d.sz) cs).heap[k]? = w.heap[k]? := fun k hk => setCells_other g hk cs w _
  have hl : cs.length = d.sz := d.len hy
  obtain ⟨cells, ho, hf⟩ := h
  obtain ⟨hlen, ho⟩ := ho
  rcases ho with ⟨hv, _⟩ | ⟨g', cap', cur, hv, hbg, hg, hnc, hcm, hcs, htake⟩
  · cases hv
  cases hv
  have hin : i * d.sz + d.sz ≤ xs.length * d.sz := by rw [← Nat.succ_mul]; exact Nat.mul_le_mul_right _ hi
  have hcn : xs.length * d.sz ≤ cap * d.sz := Nat.mul_le_mul_right _ hnc
  obtain ⟨cur', hg', hs', hat⟩ := setCells_at cs w (i * d.sz) cur hg (by rw [hl, hcs]; omega)
  have hlen' : (cur'.toList.take (xs.length * d.sz)).length = xs.length * d.sz := by
    rw [List.length_take]; apply Nat.min_eq_left; rw [Array.length_toList (xs := cur'), hs', hcs]; exact hcn
  refine ⟨cur'.toList.take (xs.length * d.sz), ⟨by rw [List.length_set]; exact hlen', .inr ⟨g, cap, cur', by rw [List.length_set], hbg, hg', by rw [List.length_set]; exact hnc, hcm, by rw [hs']; exact hcs, by rw [List.length_set]⟩⟩, by rw [List.length_set]; exact hlen', fun k hk => ?_⟩
  rw [List.length_set] at hk
  have hkn : k * d.sz + d.sz ≤ xs.length * d.sz := by rw [← Nat.succ_mul]; exact Nat.mul_le_mul_right _ hk
  by_cases hki : k = i
  · subst hki
    rw [List.getElem_set_self]
    have he : ((cur'.toList.take (xs.length * d.sz)).drop (k * d.sz)).take d.sz = cs := by
      apply List.ext_getElem?
      intro j
      by_cases hj : j < d.sz
      · rw [List.getElem?_take_of_lt hj, List.getElem?_drop, List.getElem?_take_of_lt (by omega), Array.getElem?_toList, hat, if_pos (by rw [hl]; omega), show k * d.sz + j - k * d.sz = j by omega]
      · rw [List.getElem?_eq_none (by rw [List.length_take]; omega), List.getElem?_eq_none (by rw [hl]; omega)]
    rw [he]
    exact d.mono (fun _ hk => .inr hk) (d.keep (fun j hj _ => hkeep j (hQ j hj)) hy)
  · rw [List.getElem_set_ne (by omega)]
    have he : ((cur'.toList.take (xs.length * d.sz)).drop (k * d.sz)).take d.sz = (cells.drop (k * d.sz)).take d.sz := by
      rw [← htake]
      apply List.ext_getElem?
      intro j
      by_cases hj : j < d.sz
      · have hne : ¬ (i * d.sz ≤ k * d.sz + j ∧ k * d.sz + j < i * d.sz + cs.length) := by
          rw [hl]
          rintro ⟨h5, h6⟩
          rcases Nat.lt_or_gt_of_ne hki with hlt | hgt
          · have : k * d.sz + d.sz ≤ i * d.sz := by rw [← Nat.succ_mul]; exact Nat.mul_le_mul_right _ hlt
            omega
          · have : i * d.sz + d.sz ≤ k * d.sz := by rw [← Nat.succ_mul]; exact Nat.mul_le_mul_right _ hgt
            omega
        rw [List.getElem?_take_of_lt hj, List.getElem?_drop, List.getElem?_take_of_lt (by omega), Array.getElem?_toList, hat, if_neg hne, List.getElem?_take_of_lt hj, List.getElem?_drop, List.getElem?_take_of_lt (by omega), Array.getElem?_toList]
      · rw [List.getElem?_eq_none (by rw [List.length_take]; omega), List.getElem?_eq_none (by rw [List.length_take]; omega)]
    rw [he]
    exact d.mono (fun _ hk => .inl hk) (d.keep (fun j hj _ => hkeep j (hP j hj)) (hf.2 k hk))
end
/-- what a step leaves of a book: its answer, the sums, the counts, what it holds -/
def stepV (S : Pl → Int) (C : ByteArray → Int) (held : List ObjM) (x : OpM) : Bool × (Pl → Int) × (ByteArray → Int) × List ObjM :=
  match placeO held x.o.path x.o.name with
  | none => if held.length < 40 then if (chargeV S C x.o.v).1 = 0 then (true, (chargeV S C x.o.v).2.1, (chargeV S C x.o.v).2.2, held ++ [x.o]) else (true, S, C, held) else (true, S, C, held)
  | some i => match held[i]? with
    | none => (true, S, C, held)
    | some h =>
      if x.kind = 2 then if (releaseV S C h.v).1 = 0 then (true, (releaseV S C h.v).2.1, (releaseV S C h.v).2.2, held.take i ++ held.drop (i + 1)) else (false, S, C, held)
      else if (changeV S C h.v x.o.v).1 = 0 then (true, (changeV S C h.v x.o.v).2.1, (changeV S C h.v x.o.v).2.2, held.set i x.o) else (true, S, C, held)
theorem placeO_lt {l : List ObjM} {p q : ByteArray} {i : Nat} (h : placeO l p q = some i) : i < l.length := by
  unfold placeO at h
  rw [List.findIdx?_eq_some_iff_getElem] at h
  exact h.1
theorem chargeV_same {S : Pl → Int} {C : ByteArray → Int} {o : ObjV} (h : (chargeV S C o).1 ≠ 0) : (chargeV S C o).2 = (S, C) := by
  unfold chargeV at h ⊢
  split
  · rfl
  · split
    · rfl
    · rename_i h1 h2
      rw [if_neg h1, if_neg h2] at h
      exact absurd rfl h
theorem releaseV_same {S : Pl → Int} {C : ByteArray → Int} {o : ObjV} (h : (releaseV S C o).1 ≠ 0) : (releaseV S C o).2 = (S, C) := by
  unfold releaseV at h ⊢
  split
  · rename_i h1
    rw [if_pos h1] at h
    exact absurd rfl h
  · rfl
theorem changeV_same {S : Pl → Int} {C : ByteArray → Int} {o p : ObjV} (h : (changeV S C o p).1 ≠ 0) : (changeV S C o p).2 = (S, C) := by
  unfold changeV at h ⊢
  split
  · rfl
  · split
    · rfl
    · rename_i h1 h2
      rw [if_neg h1, if_neg h2] at h
      exact absurd (Decidable.of_not_not h2) h
/-- what is held stays small, stays fit; the sums stay within bounds -/
theorem stepV_held {S : Pl → Int} {C : ByteArray → Int} {held : List ObjM} {x : OpM} (hx : ObjMFit x.o) (hf : ∀ o ∈ held, ObjMFit o) (hl : held.length ≤ 40) : (∀ o ∈ (stepV S C held x).2.2.2, ObjMFit o) ∧ (stepV S C held x).2.2.2.length ≤ 40 := by
  unfold stepV
  split
  · split
    · split
      · refine ⟨fun o ho => ?_, by rw [List.length_append]; simp; omega⟩
        rcases List.mem_append.1 ho with ho | ho
        · exact hf o ho
        · rw [List.mem_singleton.1 ho]; exact hx
      · exact ⟨hf, hl⟩
    · exact ⟨hf, hl⟩
  · split
    · exact ⟨hf, hl⟩
    · split
      · split
        · refine ⟨fun o ho => ?_, by rw [List.length_append, List.length_take, List.length_drop]; omega⟩
          rcases List.mem_append.1 ho with ho | ho
          · exact hf o (List.mem_of_mem_take ho)
          · exact hf o (List.mem_of_mem_drop ho)
        · exact ⟨hf, hl⟩
      · split
        · refine ⟨fun o ho => ?_, by rw [List.length_set]; exact hl⟩
          rcases List.mem_or_eq_of_mem_set ho with ho | ho
          · exact hf o ho
          · rw [ho]; exact hx
        · exact ⟨hf, hl⟩
theorem chargeV_six {m : Nat} {S : Pl → Int} {C : ByteArray → Int} {o : ObjM} (k : LedOk m S C) (ho : ObjMOk o) : LedOk (m + 60000000000) (chargeV S C o.v).2.1 (chargeV S C o.v).2.2 := by
  by_cases h : (sharesV o.v).2.2 = 0
  · exact (chargeV_ok k ho).mono (by have := objWt_le h ho; omega)
  · unfold chargeV
    rw [if_pos h]
    exact k.mono (by omega)
theorem changeV_six {m : Nat} {S : Pl → Int} {C : ByteArray → Int} {o p : ObjM} (k : LedOk m S C) (ho : ObjMOk o) (hp : ObjMOk p) : LedOk (m + 60000000000) (changeV S C o.v p.v).2.1 (changeV S C o.v p.v).2.2 := by
  have h1 := chargeV_six (releaseV_ok k ho.use) hp
  unfold changeV
  split
  · exact k.mono (by omega)
  · split
    · exact k.mono (by omega)
    · exact h1
theorem stepV_ok {m : Nat} {S : Pl → Int} {C : ByteArray → Int} {held : List ObjM} {x : OpM} (k : LedOk m S C) (hx : ObjMFit x.o) (hf : ∀ o ∈ held, ObjMFit o) : LedOk (m + 60000000000) (stepV S C held x).2.1 (stepV S C held x).2.2.1 := by
  have k' := k.mono (show m ≤ m + 60000000000 by omega)
  unfold stepV
  split
  · split
    · split
      · exact chargeV_six k hx.ok
      · exact k'
    · exact k'
  · split
    · exact k'
    · rename_i h he
      have hh := hf h (List.mem_of_getElem? he)
      split
      · split
        · exact (releaseV_ok k hh.ok.use).mono (by omega)
        · exact k'
      · split
        · exact changeV_six k hh.ok hx.ok
        · exact k'
end Go.Proofs.YtalkdddeiebfmaaGreatDoor
