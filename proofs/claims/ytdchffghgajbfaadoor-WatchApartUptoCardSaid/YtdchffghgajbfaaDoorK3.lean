/- Kinds: a row of the call's own that is cut at its front and appended to. -/
import Derived.Test.YtdchffghgajbfaaDoorK2
import Derived.ArgAppend
namespace Go.Proofs.YtdchffghgajbfaaDoor
open Go.RowKit

def OwnQ {α : Type} (d : Kn α) (e : TypeId) (F P : Nat → Prop) (w : World) (v : Value) (xs : List α) : Prop :=
  (v = .slice none 0 0 ∧ xs = []) ∨ ∃ g off cap cur, v = .slice (some ⟨g, off, none⟩) xs.length cap ∧ F g ∧ w.heap[g]? = some (.cells cur e (0, 0)) ∧ xs.length ≤ cap ∧ cap ≤ maxLen ∧
    off + cap * d.sz ≤ cur.size ∧ Flat d P w xs ((cur.toList.drop off).take (xs.length * d.sz))

section
variable {α : Type} {d : Kn α} {e : TypeId} {F F' P Q : Nat → Prop} {w w' : World} {v : Value} {xs : List α}
theorem OwnQ.nil (d : Kn α) (e : TypeId) (F P : Nat → Prop) (w : World) : OwnQ d e F P w (.slice none 0 0) [] := .inl ⟨rfl, rfl⟩
theorem OwnQ.mono (h : OwnQ d e F P w v xs) (hf : ∀ k, F k → F' k) (hp : ∀ k, P k → Q k) : OwnQ d e F' Q w v xs := by
  rcases h with h | ⟨g, off, cap, cur, h1, h2, h3, h4, h5, h6, h7⟩
  · exact .inl h
  · exact .inr ⟨g, off, cap, cur, h1, hf g h2, h3, h4, h5, h6, h7.mono hp⟩
theorem OwnQ.lt (h : OwnQ d e F P w v xs) : ∀ k, v.ownBlock = some k → F k ∧ k < w.heap.size ∧ ∃ cur, w.heap[k]? = some (.cells cur e (0, 0)) := by
  rcases h with ⟨rfl, _⟩ | ⟨g, off, cap, cur, rfl, h2, h3, _⟩
  · intro k hk; simp [Value.ownBlock] at hk
  · intro k hk
    obtain rfl : g = k := by simpa [Value.ownBlock] using hk
    exact ⟨h2, (Array.getElem?_eq_some_iff.1 h3).1, cur, h3⟩
theorem OwnQ.bound (h : OwnQ d e F P w v xs) : OwnQ d e (fun k => F k ∧ k < w.heap.size) (fun k => P k ∧ k < w.heap.size) w v xs := by
  rcases h with h | ⟨g, off, cap, cur, h1, h2, h3, h4, h5, h6, h7⟩
  · exact .inl h
  · exact .inr ⟨g, off, cap, cur, h1, ⟨h2, (Array.getElem?_eq_some_iff.1 h3).1⟩, h3, h4, h5, h6, h7.lt⟩
theorem OwnQ.move (h : OwnQ d e F P w v xs) (hm : ∀ k, (v.ownBlock = some k ∨ P k) → k < w.heap.size → w'.heap[k]? = w.heap[k]?) : OwnQ d e F P w' v xs := by
  rcases h with h | ⟨g, off, cap, cur, rfl, h2, h3, h4, h5, h6, h7⟩
  · exact .inl h
  · exact .inr ⟨g, off, cap, cur, rfl, h2, (hm g (.inl rfl) (Array.getElem?_eq_some_iff.1 h3).1).trans h3, h4, h5, h6, h7.keep fun k hk hl => hm k (.inr hk) hl⟩
theorem OwnQ.row (h : OwnQ d e F P w v xs) : ∃ A c, v = .slice A xs.length c ∧ xs.length ≤ c ∧ c ≤ maxLen ∧ Row d (fun k => P k ∨ v.ownBlock = some k) w A xs := by
  rcases h with ⟨rfl, rfl⟩ | ⟨g, off, cap, cur, rfl, h2, h3, h4, h5, h6, h7⟩
  · exact ⟨none, 0, rfl, Nat.le_refl _, by unfold maxLen; omega, Row.nil _ _ _ _⟩
  · refine ⟨_, cap, rfl, h4, h5, fun _ => ⟨_, rfl, .inr rfl, _, h7.mono fun k hk => .inl hk, fun j u hu => ?_⟩⟩
    have hj := (List.getElem?_eq_some_iff.1 hu).1
    rw [List.length_take] at hj
    rw [List.getElem?_take_of_lt (by omega), List.getElem?_drop] at hu
    have ha : (⟨g, off, none⟩ : Addr).add j = ⟨g, off + j, none⟩ := by unfold Addr.add; split <;> simp_all
    rw [ha, cell_of_row _ _ _ _ _ _ h3]; simpa using hu
/-- the front's element taken away -/
theorem OwnQ.tail {x : α} (h : OwnQ d e F P w v (x :: xs)) : ∃ g off cap, v = .slice (some ⟨g, off, none⟩) (xs.length + 1) cap ∧ xs.length + 1 ≤ cap ∧ cap ≤ maxLen ∧ F g ∧
    OwnQ d e F P w (.slice (if cap = 1 then some ⟨g, off, none⟩ else some ⟨g, off + 1 * d.sz, none⟩) xs.length (cap - 1)) xs := by
  rcases h with ⟨_, h⟩ | ⟨g, off, cap, cur, rfl, h2, h3, h4, h5, h6, h7⟩
  · cases h
  · simp only [List.length_cons] at h4 h7
    refine ⟨g, off, cap, rfl, h4, h5, h2, ?_⟩
    by_cases hc : cap = 1
    · subst hc
      have : xs = [] := List.eq_nil_of_length_eq_zero (by omega)
      subst this
      rw [if_pos rfl]
      exact .inr ⟨g, off, 0, cur, rfl, h2, h3, by simp, by omega, by omega, by simpa using Flat.nil d P w⟩
    · rw [if_neg hc]
      have hz : cap * d.sz = 1 * d.sz + (cap - 1) * d.sz := by rw [← Nat.add_mul]; congr 1; omega
      refine .inr ⟨g, off + 1 * d.sz, cap - 1, cur, rfl, h2, h3, by omega, by omega, by rw [hz] at h6; omega, ?_⟩
      have := h7.drop 1
      simp only [List.drop_one, List.tail_cons] at this
      rw [List.drop_take, List.drop_drop] at this
      rwa [show (xs.length + 1) * d.sz - 1 * d.sz = xs.length * d.sz by rw [← Nat.sub_mul]; simp] at this
end

structure AppendedQ {α : Type} (d : Kn α) (e : TypeId) (F P : Nat → Prop) (w w' : World) (v v' : Value) (zs : List α) : Prop where
  own : OwnQ d e F P w' v' zs
  grown : w.grownBy w' v.ownBlock
  at_ : v'.ownBlock = v.ownBlock ∨ ∃ k, v'.ownBlock = some k ∧ w.heap.size ≤ k

theorem run_appQ {P : Program} {α : Type} {d : Kn α} {t e : TypeId} {bytes : Nat} (I : Elem P t e d bytes) (ty : TypeId) {F R S : Nat → Prop} {w : World} {v : Value} {xs ys : List α} (hown : OwnQ d e F R w v xs)
    (hR : ∀ k, R k → v.ownBlock ≠ some k) (hS : ∀ k, S k → v.ownBlock ≠ some k) {A : Option Addr} {c : Nat} (hr : Row d S w A ys) (hy : ys ≠ []) (hb : (xs.length + ys.length) * bytes ≤ 140737488355328) :
    ∃ v' w', (Builtin.append_ #[t, t] ty #[v, .slice A ys.length c]).run P w = .ok v' w' ∧ AppendedQ d e (fun k => F k ∨ w.heap.size ≤ k) (fun k => R k ∨ S k) w w' v v' (xs ++ ys) := by
  obtain ⟨i, z, h1, h2, h3, h4, h5⟩ := I.info
  obtain ⟨ad, rfl, _, news, hf2, hc2⟩ := hr hy
  have hnl := hf2.1
  have h1c := hf2.one
  have keepR : ∀ {w' : World}, w.grownBy w' v.ownBlock → ∀ k, R k → k < w.heap.size → w'.heap[k]? = w.heap[k]? := fun hg k hk hl => hg.block k hl (fun e => hR k hk e.symm)
  have keepS : ∀ {w' : World}, w.grownBy w' v.ownBlock → ∀ k, S k → k < w.heap.size → w'.heap[k]? = w.heap[k]? := fun hg k hk hl => hg.block k hl (fun e => hS k hk e.symm)
  rcases hown with ⟨rfl, rfl⟩ | ⟨g, off, cap, cur, rfl, g2, g3, g4, g5, g6, g7⟩
  · obtain ⟨v', w', hrun, ha⟩ := run_app (P := P) I w.heap.size ty (R := fun _ => False) (S := S) (Own.nil d e w.heap.size (fun _ => False) w) (fun _ h => h.elim) hS (A := some ad) (c := c) (fun hy => ⟨ad, rfl, by assumption, news, hf2, hc2⟩) hb (Nat.le_refl _)
    refine ⟨v', w', hrun, ?_, ha.grown, ha.at_.imp id fun h => ⟨_, h, Nat.le_refl _⟩⟩
    have hat := ha.at_
    obtain ⟨cells, ho, hfl⟩ := ha.own
    rcases ho.2 with ⟨rfl, hz⟩ | ⟨g, cap, cur, rfl, e2, e3, e4, e5, e6, e7⟩
    · exact .inl ⟨rfl, List.eq_nil_of_length_eq_zero hz⟩
    · refine .inr ⟨g, 0, cap, cur, rfl, .inr ?_, e3, e4, e5, by rw [e6]; omega, by rw [List.drop_zero, e7]; exact hfl.mono fun k hk => hk.elim (fun h => h.elim) .inr⟩
      rcases hat with h | h
      · simp [Value.ownBlock] at h
      · have : g = w.heap.size := by simpa [Value.ownBlock] using h
        omega
  · have hsz : i.size = d.sz := h3
    by_cases hroom : xs.length + ys.length ≤ cap
    · have hcells : off + xs.length * d.sz + news.length ≤ cur.size := by
        have := Nat.mul_le_mul_right d.sz hroom
        rw [Nat.add_mul] at this
        omega
      have hrun := run_append_room_cells (P := P) w t ty e i I.und h1 g off xs.length cap ad ys.length c news (by rw [hnl, hsz]) hc2 h1c hroom
        (fun j hj => by rw [cell_of_row _ _ _ _ _ _ g3, hsz, Array.getElem?_eq_getElem (by omega)]; rfl) (fun j _ => by simp [World.frozen?, g3])
      rw [hsz] at hrun
      obtain ⟨cur', hg', hs', hat⟩ := setCells_at news w (off + xs.length * d.sz) cur g3 hcells
      have hgr : w.grownBy (w.setCells g (off + xs.length * d.sz) news) (some g) := by
        have ht := setCells_turn (S := fun k => k = g) (g := g) (.inl rfl) news w (off + xs.length * d.sz) (Turn.refl _ w)
        exact ⟨ht.os, ht.tape, ht.output, ht.size, fun k hk hn => ht.block k hk (fun e => hn (by rw [e]))⟩
      refine ⟨_, _, hrun, .inr ⟨g, off, cap, cur', by rw [List.length_append], .inl g2, hg', by rw [List.length_append]; exact hroom, g5, by rw [hs']; exact g6, ?_⟩, hgr, .inl rfl⟩
      have e1 : (cur'.toList.drop off).take ((xs ++ ys).length * d.sz) = (cur.toList.drop off).take (xs.length * d.sz) ++ news := by
        apply List.ext_getElem?
        intro j
        have hl1 : ((cur.toList.drop off).take (xs.length * d.sz)).length = xs.length * d.sz := g7.1
        rw [List.length_append, Nat.add_mul]
        by_cases hj : j < xs.length * d.sz
        · rw [List.getElem?_take_of_lt (by omega), List.getElem?_drop, Array.getElem?_toList, hat, if_neg (by omega), List.getElem?_append_left (by rw [hl1]; exact hj), List.getElem?_take_of_lt hj, List.getElem?_drop, Array.getElem?_toList]
        · rw [List.getElem?_append_right (by rw [hl1]; omega), hl1]
          by_cases hj2 : j < xs.length * d.sz + ys.length * d.sz
          · rw [List.getElem?_take_of_lt (by omega), List.getElem?_drop, Array.getElem?_toList, hat, if_pos (by rw [hnl]; omega)]
            congr 1; omega
          · rw [List.getElem?_eq_none (by rw [List.length_take]; omega), List.getElem?_eq_none (by rw [hnl]; omega)]
      rw [e1]
      exact Flat.append ((g7.keep (keepR hgr)).mono fun k hk => .inl hk) ((hf2.keep (keepS hgr)).mono fun k hk => .inr hk)
    · have hold : ∀ j u, ((cur.toList.drop off).take (xs.length * d.sz))[j]? = some u → w.cell? ((⟨g, off, none⟩ : Addr).add j) = some u := by
        intro j u hu
        have hj := (List.getElem?_eq_some_iff.1 hu).1
        rw [List.length_take] at hj
        rw [List.getElem?_take_of_lt (by omega), List.getElem?_drop] at hu
        have ha : (⟨g, off, none⟩ : Addr).add j = ⟨g, off + j, none⟩ := by unfold Addr.add; split <;> simp_all
        rw [ha, cell_of_row _ _ _ _ _ _ g3]; simpa using hu
      obtain ⟨v', w', hrun, ho, hgr⟩ := run_append_arg_grows (P := P) w t ty e i z d.sz bytes I.und h1 h2 h3 h4 h5 d.pos ⟨g, off, none⟩ xs.length cap _ g7.1 hold ad ys.length c news hnl hc2 (by omega) (len_ok I.pos hb) hb
      have hgr' : w.grownBy w' (Value.slice (some ⟨g, off, none⟩) xs.length cap).ownBlock := ⟨hgr.os, hgr.tape, hgr.output, hgr.size, fun k hk _ => hgr.block k hk (by simp)⟩
      have hfl : Flat d (fun k => R k ∨ S k) w' (xs ++ ys) ((cur.toList.drop off).take (xs.length * d.sz) ++ news) := Flat.append ((g7.keep (keepR hgr')).mono fun k hk => .inl hk) ((hf2.keep (keepS hgr')).mono fun k hk => .inr hk)
      rcases ho.2 with ⟨_, hz⟩ | ⟨g', cap', cur', rfl, e2, e3, e4, e5, e6, e7⟩
      · exact absurd (List.length_pos_iff.2 hy) (by omega)
      · refine ⟨_, w', hrun, .inr ⟨g', 0, cap', cur', by rw [List.length_append], .inr e2, e3, by rw [List.length_append]; exact e4, e5, by rw [e6]; omega, ?_⟩, hgr', .inr ⟨g', rfl, e2⟩⟩
        rw [List.drop_zero, List.length_append, e7]; exact hfl

theorem step_appQ {P : Program} {α : Type} {d : Kn α} {t e : TypeId} {bytes : Nat} {w : World} {ops : Array Oper} {o : Oper} {a : Act} {K : Act → World → Prop} {Q : Exit → Act → World → Prop} {E : Prop} (I : Elem P t e d bytes) (hgd : o.guard = none) (s x : Operand)
    (ho : o.op = .call { callee := .builtin .append, args := #[s, x], argTypes := #[t, t] }) {F R S : Nat → Prop} {v : Value} {xs ys : List α} (hs : a.eval s = v) (hown : OwnQ d e F R w v xs)
    (hR : ∀ k, R k → v.ownBlock ≠ some k) (hS : ∀ k, S k → v.ownBlock ≠ some k) {A : Option Addr} {m c : Nat} (hx : a.eval x = .slice A m c) (hm : m = ys.length) (hr : Row d S w A ys) (hy : ys ≠ []) (hb : (xs.length + ys.length) * bytes ≤ 140737488355328)
    (h : ∀ A' c' w', AppendedQ d e (fun k => F k ∨ w.heap.size ≤ k) (fun k => R k ∨ S k) w w' v (.slice A' (xs.length + ys.length) c') (xs ++ ys) → K (a.put o.dst (.slice A' (xs.length + ys.length) c')) w') : if Region.wanted o (yielded ops a.tmps) = true then Oper.wp P o a w K Q else E := by
  subst hm
  obtain ⟨v', w', hrun, ha⟩ := run_appQ I o.type hown hR hS hr hy hb
  have hw : Region.wanted o (yielded ops a.tmps) = true := by simp [Region.wanted, hgd]
  rw [if_pos hw]
  obtain ⟨A', c', hv', _⟩ := ha.own.row
  rw [List.length_append] at hv'
  subst hv'
  exact wp_of_run s x ho hs hx hrun (h A' c' w' ha)
end Go.Proofs.YtdchffghgajbfaaDoor
