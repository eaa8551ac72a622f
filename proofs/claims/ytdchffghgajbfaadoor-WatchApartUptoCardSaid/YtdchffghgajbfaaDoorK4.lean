/- A row of the call's own that is written to; an append that leaves the old row as it was. -/
import Derived.Test.YtdchffghgajbfaaDoorK3
namespace Go.Proofs.YtdchffghgajbfaaDoor
open Go.RowKit

theorem take_drop_set {l : List Value} {s i j k : Nat} (hj : j < s) (u : Value) : ((l.set (i * s + j) u).drop (k * s)).take s = if k = i then ((l.drop (k * s)).take s).set j u else (l.drop (k * s)).take s := by
  apply List.ext_getElem?
  intro m
  by_cases hm : m < s
  · rw [List.getElem?_take_of_lt hm, List.getElem?_drop, List.getElem?_set]
    by_cases hk : k = i
    · subst hk
      rw [if_pos rfl, List.getElem?_set]
      by_cases hjm : j = m
      · subst hjm
        rw [if_pos rfl, if_pos rfl]
        simp only [List.length_take, List.length_drop]
        by_cases hl : k * s + j < l.length
        · rw [if_pos hl, if_pos (by omega)]
        · rw [if_neg hl, if_neg (by omega)]
      · rw [if_neg (by omega), if_neg hjm, List.getElem?_take_of_lt hm, List.getElem?_drop]
    · rw [if_neg hk, List.getElem?_take_of_lt hm, List.getElem?_drop, if_neg]
      intro e
      apply hk
      have h1 : (i * s + j) / s = i := by rw [Nat.mul_comm, Nat.mul_add_div (by omega), Nat.div_eq_of_lt hj, Nat.add_zero]
      have h2 : (k * s + m) / s = k := by rw [Nat.mul_comm, Nat.mul_add_div (by omega), Nat.div_eq_of_lt hm, Nat.add_zero]
      rw [e] at h1
      exact h2.symm.trans h1
  · rw [List.getElem?_take_eq_none (by omega)]
    split
    · rw [List.getElem?_set, List.getElem?_take_eq_none (by omega)]
      rw [if_neg (by omega)]
    · rw [List.getElem?_take_eq_none (by omega)]
section
variable {α : Type} {f : α → List Value} {n : Nat} {hn : 0 < n} {hl : ∀ x, (f x).length = n} {h1 : ∀ x, ∀ u ∈ f x, u.oneCell' = true} {e base : Nat} {P : Nat → Prop} {w : World} {g m cap : Nat} {xs : List α}
theorem Flat.setEnc {cells : List Value} {w' : World} (h : Flat (Kn.enc f n hn hl h1) P w xs cells) (i : Nat) (hi : i < xs.length) (j : Nat) (hj : j < n) (u : Value) (y : α) (hy : f y = (f xs[i]).set j u) : Flat (Kn.enc f n hn hl h1) P w' (xs.set i y) (cells.set (i * n + j) u) := by
  refine ⟨by rw [List.length_set, List.length_set]; exact h.1, fun k hk => ?_⟩
  have hk' : k < xs.length := by simpa using hk
  have hr : (cells.drop (k * n)).take n = f xs[k] := h.2 k hk'
  show ((cells.set (i * n + j) u).drop (k * n)).take n = f (xs.set i y)[k]
  rw [take_drop_set hj, hr]
  by_cases hki : k = i
  · subst hki
    rw [if_pos rfl, List.getElem_set_self, hy]
  · rw [if_neg hki, List.getElem_set_ne (fun h => hki h.symm)]
/-- a cell of a row of the call's own is written -/
theorem Own.setEnc (h : Own (Kn.enc f n hn hl h1) e base P w (.slice (some ⟨g, 0, none⟩) m cap) xs) (i : Nat) (hi : i < xs.length) (j : Nat) (hj : j < n) (u : Value) (y : α) (hy : f y = (f xs[i]).set j u) :
    Own (Kn.enc f n hn hl h1) e base P (w.setCell ⟨g, i * n + j, none⟩ u) (.slice (some ⟨g, 0, none⟩) m cap) (xs.set i y) := by
  obtain ⟨cells, ho, hf⟩ := h
  have hm : m = xs.length := by
    rcases ho.2 with ⟨hv, _⟩ | ⟨g', cap', cur, hv, _⟩
    · cases hv
    · cases hv; rfl
  subst hm
  refine ⟨cells.set (i * n + j) u, ?_, hf.setEnc i hi j hj u y hy⟩
  rw [List.length_set]
  exact (ho.stored (i * n + j) u).1
end

/-- an append leaves what the old slice reads -/
theorem run_append_keep {P : Program} (w : World) (base : Nat) (t ty e : TypeId) (i : TypeInfo) (z : Value) (ht : P.underlying t = some (.slice e)) (hi : P.info? e = some i) (hz : i.zero = some z)
    (hsz : 0 < i.size) (v : Value) (n : Nat) (xs : List Value) (hown : w.ownsRow base e i.size v n xs)
    (a : Addr) (m c : Nat) (news : List Value) (hl : news.length = m * i.size) (hnews : ∀ j u, news[j]? = some u → w.cell? (a.add j) = some u) (h1 : ∀ u ∈ news, u.oneCell' = true)
    (h63 : n + m ≤ maxLen) (hbytes : (n + m) * i.bytes ≤ 140737488355328) {v' : Value} {w' : World} (hrun : (Builtin.append_ #[t, t] ty #[v, .slice (some a) m c]).run P w = .ok v' w') : w'.ownsRow base e i.size v n xs := by
  have hsmall : n + m ≤ 9223372036854775807 := by simp only [maxLen] at h63; omega
  rcases hown.2 with ⟨rfl, rfl⟩ | ⟨g, cap, cur, rfl, hbg, hg, hnc, hcm, hcs, htake⟩
  · have hx : xs = [] := List.eq_nil_of_length_eq_zero (by simpa using hown.1)
    subst hx
    exact World.ownsRow_nil _ _ _ _
  · by_cases hroom : n + m ≤ cap
    · have hfit : n * i.size + news.length ≤ cur.size := by rw [hl, hcs, ← Nat.add_mul]; exact Nat.mul_le_mul_right _ hroom
      have hr := run_append_room (P := P) w t ty e i ht hi g n cap cur hg a m c news hl hnews h1 hroom hfit
      rw [hr] at hrun
      injection hrun with hv hw
      subst hw
      refine ⟨hown.1, .inr ⟨g, cap, _, rfl, hbg, setRow_heap w g cur _ e _ hg, hnc, hcm, ?_, ?_⟩⟩
      · simp only [List.size_toArray, List.length_append, List.length_take, List.length_drop, Array.length_toList]
        omega
      · rw [htake, List.append_assoc]
        exact List.take_left' hown.1
    · have holds : ∀ j u, xs[j]? = some u → w.cell? ((⟨g, 0, none⟩ : Addr).add j) = some u := hown.cells (g := g) rfl
      have hr := run_append_grow (P := P) w t ty e i z ht hi hz ⟨g, 0, none⟩ n cap xs hown.1 holds a m c news hl hnews (by omega) (by omega) (growslice_fits (by omega) hbytes)
      rw [hr] at hrun
      injection hrun with hv hw
      subst hw
      exact ⟨hown.1, .inr ⟨g, cap, cur, rfl, hbg, (heap_alloc_old w.drew _ _ (Array.getElem?_eq_some_iff.1 hg).1).trans hg, hnc, hcm, hcs, htake⟩⟩
section
variable {P : Program} {w : World} {α : Type} {d : Kn α} {t e : TypeId} {bytes : Nat}
theorem run_app_keep (I : Elem P t e d bytes) (hd : d.Plain) (base : Nat) (ty : TypeId) {R S : Nat → Prop} {v : Value} {xs ys : List α} (hown : Own d e base R w v xs)
    {A : Option Addr} {c : Nat} (hr : Row d S w A ys) (hne : ys ≠ []) (hb : (xs.length + ys.length) * bytes ≤ 140737488355328) (hbase : base ≤ w.heap.size) :
    ∃ v' w', (Builtin.append_ #[t, t] ty #[v, .slice A ys.length c]).run P w = .ok v' w' ∧ Appended d e base R w w' v v' (xs ++ ys) ∧ Own d e base R w' v xs := by
  obtain ⟨v', w', hrun, ha⟩ := run_app_plain I hd base ty hown hr hb hbase
  obtain ⟨i, z, h1, h2, h3, h4, h5⟩ := I.info
  obtain ⟨cells, ho, hf⟩ := hown
  obtain ⟨ad, rfl, _, news, hf2, hc2⟩ := hr hne
  have ho' : w.ownsRow base e i.size v xs.length cells := by rw [h3]; exact ho
  have := run_append_keep (P := P) w base t ty e i z I.und h1 h2 (by rw [h3]; exact d.pos) v xs.length cells ho' ad ys.length c news (by rw [h3]; exact hf2.1) hc2 hf2.one (len_ok I.pos hb) (by rw [h4]; exact hb) hrun
  rw [h3] at this
  exact ⟨v', w', hrun, ha, cells, this, hf.plain hd⟩
variable {ops : Array Oper} {rest : List Oper} {o : Oper} {a : Act} {Q : Exit → Act → World → Prop}
theorem wpList_app_keep (I : Elem P t e d bytes) (hd : d.Plain) (base : Nat) (hgd : o.guard = none) (s x : Operand) (ho : o.op = .call { callee := .builtin .append, args := #[s, x], argTypes := #[t, t] })
    {R S : Nat → Prop} {v : Value} {xs ys : List α} (hs : a.eval s = v) (hown : Own d e base R w v xs) {A : Option Addr} {m c : Nat} (hx : a.eval x = .slice A m c) (hm : m = ys.length) (hr : Row d S w A ys) (hne : ys ≠ [])
    (hb : (xs.length + ys.length) * bytes ≤ 140737488355328) (hbase : base ≤ w.heap.size)
    (h : ∀ A' c' w', Appended d e base R w w' v (.slice A' (xs.length + ys.length) c') (xs ++ ys) → Own d e base R w' v xs → wpList P ops Q rest (a.put o.dst (.slice A' (xs.length + ys.length) c')) w') : wpList P ops Q (o :: rest) a w := by
  subst hm
  obtain ⟨v', w', hrun, ha, hk⟩ := run_app_keep I hd base o.type hown hr hne hb hbase
  obtain ⟨A', c', hv', _⟩ := ha.own.row
  rw [List.length_append] at hv'
  subst hv'
  exact wpList_plain hgd fun _ hK => wp_of_run s x ho hs hx hrun (hK _ _ (h A' c' w' ha hk))
end
section
variable {P : Program} {w : World} {α : Type} {d : Kn α} {t e : TypeId} {bytes : Nat} {ops : Array Oper} {o : Oper} {a : Act} {K : Act → World → Prop} {Q : Exit → Act → World → Prop}
theorem step_app_keep {E : Prop} (I : Elem P t e d bytes) (hd : d.Plain) (base : Nat) (hgd : o.guard = none) (s x : Operand) (ho : o.op = .call { callee := .builtin .append, args := #[s, x], argTypes := #[t, t] })
    {R S : Nat → Prop} {v : Value} {xs ys : List α} (hs : a.eval s = v) (hown : Own d e base R w v xs) {A : Option Addr} {m c : Nat} (hx : a.eval x = .slice A m c) (hm : m = ys.length) (hr : Row d S w A ys) (hne : ys ≠ [])
    (hb : (xs.length + ys.length) * bytes ≤ 140737488355328) (hbase : base ≤ w.heap.size)
    (h : ∀ A' c' w', Appended d e base R w w' v (.slice A' (xs.length + ys.length) c') (xs ++ ys) → Own d e base R w' v xs → K (a.put o.dst (.slice A' (xs.length + ys.length) c')) w') : if Region.wanted o (yielded ops a.tmps) = true then Oper.wp P o a w K Q else E := by
  subst hm
  obtain ⟨v', w', hrun, ha, hk⟩ := run_app_keep I hd base o.type hown hr hne hb hbase
  have hw : Region.wanted o (yielded ops a.tmps) = true := by simp [Region.wanted, hgd]
  rw [if_pos hw]
  obtain ⟨A', c', hv', _⟩ := ha.own.row
  rw [List.length_append] at hv'
  subst hv'
  exact wp_of_run s x ho hs hx hrun (h A' c' w' ha hk)
end
section
variable {α : Type} {f : α → List Value} {n : Nat} {hn : 0 < n} {hl : ∀ x, (f x).length = n} {h1 : ∀ x, ∀ u ∈ f x, u.oneCell' = true} {e base : Nat} {P : Nat → Prop} {w : World} {g m cap : Nat} {xs : List α}
/-- one more cell of the element that is being written -/
theorem Own.setMore {i : Nat} {x : α} (h : Own (Kn.enc f n hn hl h1) e base P w (.slice (some ⟨g, 0, none⟩) m cap) (xs.set i x)) (hi : i < xs.length) (j : Nat) (hj : j < n) (u : Value) (y : α) (hy : f y = (f x).set j u) :
    Own (Kn.enc f n hn hl h1) e base P (w.setCell ⟨g, i * n + j, none⟩ u) (.slice (some ⟨g, 0, none⟩) m cap) (xs.set i y) := by
  have := h.setEnc i (by simpa using hi) j hj u y (by rw [List.getElem_set_self]; exact hy)
  rwa [List.set_set] at this
end
end Go.Proofs.YtdchffghgajbfaaDoor
