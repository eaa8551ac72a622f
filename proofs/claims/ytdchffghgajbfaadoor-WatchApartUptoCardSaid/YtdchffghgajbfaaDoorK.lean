/- Kinds: how a Go value in memory reads as a value of Lean. No program in sight. -/
import Derived.Below
import Derived.Laws.OwnMore
import Derived.Deep.AppendLies
import Derived.Deep.Draws
import Derived.Maps.AppendAt
import Derived.RegionTactic
import Derived.OwnWalk
import Derived.Laws.Rows
namespace Go.Proofs.YtdchffghgajbfaaDoor
open Go.RowKit

theorem add_block (a : Addr) (n : Nat) : (a.add n).block = a.block := by unfold Addr.add; split <;> rfl
theorem add_add' (a : Addr) (i j : Nat) : (a.add i).add j = a.add (i + j) := by
  unfold Addr.add
  by_cases hi : i = 0 <;> by_cases hj : j = 0 <;> simp [hi, hj, Nat.add_assoc]
theorem add_off (a : Addr) (m j : Nat) (hj : 0 < j) : a.add (m + j) = ⟨(a.add m).block, (a.add m).off + j, none⟩ := by
  rw [← add_add']; unfold Addr.add; simp; omega
theorem add_new (g j : Nat) : (⟨g, 0, none⟩ : Addr).add j = ⟨g, j, none⟩ := by unfold Addr.add; split <;> simp_all

/-- A kind: how cells read as a value; P: a property of every block that the reading looks into. -/
structure Kn (α : Type) where
  sz : Nat
  pos : 0 < sz
  R : (Nat → Prop) → World → α → List Value → Prop
  len : ∀ {P : Nat → Prop} {w : World} {x : α} {cs : List Value}, R P w x cs → cs.length = sz
  one : ∀ {P : Nat → Prop} {w : World} {x : α} {cs : List Value}, R P w x cs → ∀ u ∈ cs, u.oneCell' = true
  mono : ∀ {P Q : Nat → Prop} {w : World} {x : α} {cs : List Value}, (∀ k, P k → Q k) → R P w x cs → R Q w x cs
  keep : ∀ {P : Nat → Prop} {w w' : World} {x : α} {cs : List Value}, (∀ k, P k → k < w.heap.size → w'.heap[k]? = w.heap[k]?) → R P w x cs → R P w' x cs
  lt : ∀ {P : Nat → Prop} {w : World} {x : α} {cs : List Value}, R P w x cs → R (fun k => P k ∧ k < w.heap.size) w x cs

/-- The cells of a row: element i's cells stand from place i * size on. -/
def Flat {α : Type} (d : Kn α) (P : Nat → Prop) (w : World) (xs : List α) (cells : List Value) : Prop :=
  cells.length = xs.length * d.sz ∧ ∀ i (h : i < xs.length), d.R P w xs[i] ((cells.drop (i * d.sz)).take d.sz)
/-- A row in memory. -/
def Row {α : Type} (d : Kn α) (P : Nat → Prop) (w : World) (A : Option Addr) (xs : List α) : Prop :=
  xs ≠ [] → ∃ a, A = some a ∧ P a.block ∧ ∃ cells, Flat d P w xs cells ∧ ∀ j u, cells[j]? = some u → w.cell? (a.add j) = some u

section
variable {α : Type} {d : Kn α} {P Q : Nat → Prop} {w w' : World} {A : Option Addr} {xs : List α} {cells : List Value}
theorem Flat.nil (d : Kn α) (P : Nat → Prop) (w : World) : Flat d P w [] [] := ⟨by simp, fun i h => absurd h (by simp)⟩
theorem Flat.mono (h : Flat d P w xs cells) (hp : ∀ k, P k → Q k) : Flat d Q w xs cells := ⟨h.1, fun i hi => d.mono hp (h.2 i hi)⟩
theorem Flat.keep (h : Flat d P w xs cells) (hk : ∀ k, P k → k < w.heap.size → w'.heap[k]? = w.heap[k]?) : Flat d P w' xs cells := ⟨h.1, fun i hi => d.keep hk (h.2 i hi)⟩
theorem Flat.lt (h : Flat d P w xs cells) : Flat d (fun k => P k ∧ k < w.heap.size) w xs cells := ⟨h.1, fun i hi => d.lt (h.2 i hi)⟩
theorem take_take_drop {β : Type} (l r : List β) (i s n : Nat) (hl : l.length = n * s) (hi : i < n) : ((l ++ r).drop (i * s)).take s = (l.drop (i * s)).take s := by
  have h1 : i * s + s ≤ n * s := by rw [← Nat.succ_mul]; exact Nat.mul_le_mul_right s hi
  rw [List.drop_append_of_le_length (by omega), List.take_append_of_le_length (by rw [List.length_drop]; omega)]
theorem Flat.append {ys : List α} {cs : List Value} (h : Flat d P w xs cells) (k : Flat d P w ys cs) : Flat d P w (xs ++ ys) (cells ++ cs) := by
  refine ⟨by rw [List.length_append, List.length_append, h.1, k.1, Nat.add_mul], fun i hi => ?_⟩
  by_cases hx : i < xs.length
  · rw [List.getElem_append_left hx, take_take_drop cells cs i d.sz xs.length h.1 hx]
    exact h.2 i hx
  · obtain ⟨j, rfl⟩ : ∃ j, i = xs.length + j := ⟨i - xs.length, by omega⟩
    have hj : j < ys.length := by simp at hi; omega
    rw [List.getElem_append_right (by omega)]
    have e : (cells ++ cs).drop ((xs.length + j) * d.sz) = cs.drop (j * d.sz) := by
      rw [List.drop_append, List.drop_eq_nil_of_le (by rw [h.1, Nat.add_mul]; omega), List.nil_append, h.1, Nat.add_mul]
      congr 1; omega
    rw [e]
    have := k.2 j hj
    simpa using this
theorem Flat.single {x : α} {cs : List Value} (h : d.R P w x cs) : Flat d P w [x] cs := by
  refine ⟨by rw [d.len h]; simp, fun i hi => ?_⟩
  have : i = 0 := by simp at hi; omega
  subst this
  simp only [Nat.zero_mul, List.drop_zero, List.getElem_cons_zero]
  rw [List.take_of_length_le (by rw [d.len h]; omega)]; exact h
theorem mul_div_of (j s : Nat) (hs : 0 < s) : j = j / s * s + j % s := by rw [Nat.mul_comm]; exact (Nat.div_add_mod j s).symm
theorem Flat.one (h : Flat d P w xs cells) : ∀ u ∈ cells, u.oneCell' = true := by
  intro u hu
  obtain ⟨j, hj, rfl⟩ := List.getElem_of_mem hu
  have hj' := hj; rw [h.1] at hj'
  have hi : j / d.sz < xs.length := by rw [Nat.div_lt_iff_lt_mul d.pos]; exact hj'
  refine d.one (h.2 (j / d.sz) hi) _ ?_
  have hm : j % d.sz < d.sz := Nat.mod_lt _ d.pos
  have e : ((cells.drop (j / d.sz * d.sz)).take d.sz)[j % d.sz]? = some cells[j] := by
    rw [List.getElem?_take_of_lt hm, List.getElem?_drop, ← mul_div_of j d.sz d.pos, List.getElem?_eq_getElem hj]
  exact List.mem_of_getElem? e
theorem Flat.take (h : Flat d P w xs cells) (n : Nat) (hn : n ≤ xs.length) : Flat d P w (xs.take n) (cells.take (n * d.sz)) := by
  have hle : n * d.sz ≤ xs.length * d.sz := Nat.mul_le_mul_right _ hn
  refine ⟨by rw [List.length_take, List.length_take, h.1, Nat.min_eq_left hle, Nat.min_eq_left hn], fun i hi => ?_⟩
  have hi' : i < n := by rw [List.length_take, Nat.min_eq_left hn] at hi; exact hi
  have hs : i * d.sz + d.sz ≤ n * d.sz := by rw [← Nat.succ_mul]; exact Nat.mul_le_mul_right _ hi'
  rw [List.getElem_take, List.drop_take, List.take_take, Nat.min_eq_left (by omega)]
  exact h.2 i (by omega)
theorem Flat.drop (h : Flat d P w xs cells) (n : Nat) : Flat d P w (xs.drop n) (cells.drop (n * d.sz)) := by
  refine ⟨by rw [List.length_drop, List.length_drop, h.1, Nat.sub_mul], fun i hi => ?_⟩
  have hi' : n + i < xs.length := by rw [List.length_drop] at hi; omega
  rw [List.getElem_drop, List.drop_drop, ← Nat.add_mul]
  exact h.2 (n + i) hi'
theorem Row.nil (d : Kn α) (P : Nat → Prop) (w : World) (A : Option Addr) : Row d P w A [] := fun h => absurd rfl h
theorem Row.mono (h : Row d P w A xs) (hp : ∀ k, P k → Q k) : Row d Q w A xs := fun hx => by
  obtain ⟨a, e, hb, cells, hf, hc⟩ := h hx
  exact ⟨a, e, hp _ hb, cells, hf.mono hp, hc⟩
theorem Row.block_lt (hx : xs ≠ []) {a : Addr} (hf : Flat d P w xs cells) (hc : ∀ j u, cells[j]? = some u → w.cell? (a.add j) = some u) : a.block < w.heap.size := by
  have hl : 0 < cells.length := by
    rw [hf.1]; exact Nat.mul_pos (List.length_pos_iff.2 hx) d.pos
  have := hc 0 cells[0] (List.getElem?_eq_getElem hl)
  have h2 := World.block_lt_of_cell? w _ this
  rwa [add_block] at h2
theorem Row.keep (h : Row d P w A xs) (hk : ∀ k, P k → k < w.heap.size → w'.heap[k]? = w.heap[k]?) : Row d P w' A xs := fun hx => by
  obtain ⟨a, e, hb, cells, hf, hc⟩ := h hx
  refine ⟨a, e, hb, cells, hf.keep hk, fun j u hu => ?_⟩
  rw [World.cell?_of_block (w := w) (by rw [add_block]; exact hk _ hb (Row.block_lt hx hf hc))]
  exact hc j u hu
theorem Row.lt (h : Row d P w A xs) : Row d (fun k => P k ∧ k < w.heap.size) w A xs := fun hx => by
  obtain ⟨a, e, hb, cells, hf, hc⟩ := h hx
  exact ⟨a, e, ⟨hb, Row.block_lt hx hf hc⟩, cells, hf.lt, hc⟩
theorem Row.below (h : Row d P w A xs) (hb : Below w.heap.size w w') : Row d P w' A xs := h.keep fun k _ hk => hb.block k hk
/-- element i: its address and its cells -/
theorem Row.at_ (h : Row d P w A xs) (i : Nat) (hi : i < xs.length) : ∃ a cs, A = some a ∧ P a.block ∧ d.R P w xs[i] cs ∧ ∀ j u, cs[j]? = some u → w.cell? (a.add (i * d.sz + j)) = some u := by
  obtain ⟨a, e, hb, cells, hf, hc⟩ := h (fun e => by subst e; simp at hi)
  refine ⟨a, _, e, hb, hf.2 i hi, fun j u hu => hc _ _ ?_⟩
  have hj : j < d.sz := by
    have h1 := (List.getElem?_eq_some_iff.1 hu).1
    rw [List.length_take] at h1; omega
  rw [List.getElem?_take_of_lt hj, List.getElem?_drop] at hu
  exact hu
theorem Row.take (h : Row d P w A xs) (n : Nat) : Row d P w A (xs.take n) := fun hx => by
  have hne : xs ≠ [] := fun e => hx (by subst e; simp)
  obtain ⟨a, e, hb, cells, hf, hc⟩ := h hne
  by_cases hn : n ≤ xs.length
  · refine ⟨a, e, hb, _, hf.take n hn, fun j u hu => hc j u ?_⟩
    have hj := (List.getElem?_eq_some_iff.1 hu).1
    rw [List.length_take] at hj
    rwa [List.getElem?_take_of_lt (by omega)] at hu
  · rw [List.take_of_length_le (by omega)]; exact ⟨a, e, hb, cells, hf, hc⟩
theorem Row.drop (h : Row d P w A xs) (n c : Nat) (hc : xs.length ≤ c) : Row d P w (if c = n then A else A.map (·.add (n * d.sz))) (xs.drop n) := fun hx => by
  have hne : xs ≠ [] := fun e => hx (by subst e; simp)
  have hn : n < xs.length := by
    by_cases hh : n < xs.length
    · exact hh
    · exact absurd (List.drop_eq_nil_of_le (by omega)) hx
  obtain ⟨a, rfl, hb, cells, hf, hcell⟩ := h hne
  rw [if_neg (by omega)]
  refine ⟨a.add (n * d.sz), rfl, by rw [add_block]; exact hb, _, hf.drop n, fun j u hu => ?_⟩
  rw [add_add']
  exact hcell _ u (by rw [← hu, List.getElem?_drop])
end

/-- A slice value that reads as a list. -/
def Sl {α : Type} (d : Kn α) (P : Nat → Prop) (w : World) (v : Value) (xs : List α) : Prop :=
  ∃ A c, v = .slice A xs.length c ∧ xs.length ≤ c ∧ c ≤ maxLen ∧ Row d P w A xs

namespace Kn
def scalar {α : Type} (enc : α → Value) (h1 : ∀ x, (enc x).oneCell' = true) : Kn α where
  sz := 1
  pos := by omega
  R := fun _ _ x cs => cs = [enc x]
  len := by rintro _ _ _ _ rfl; rfl
  one := by rintro _ _ x _ rfl u hu; rw [List.mem_singleton.1 hu]; exact h1 x
  mono := fun _ h => h
  keep := fun _ h => h
  lt := fun h => h
def int (k : IntKind) : Kn Int := scalar (Value.int k) (fun _ => rfl)
def bool : Kn Bool := scalar Value.bool (fun _ => rfl)
def str : Kn ByteArray := scalar Value.string (fun _ => rfl)
def pair {α β : Type} (a : Kn α) (b : Kn β) : Kn (α × β) where
  sz := a.sz + b.sz
  pos := by have := a.pos; omega
  R := fun P w x cs => ∃ c1 c2, cs = c1 ++ c2 ∧ a.R P w x.1 c1 ∧ b.R P w x.2 c2
  len := by rintro _ _ _ _ ⟨c1, c2, rfl, h1, h2⟩; rw [List.length_append, a.len h1, b.len h2]
  one := by
    rintro _ _ _ _ ⟨c1, c2, rfl, h1, h2⟩ u hu
    rcases List.mem_append.1 hu with h | h
    · exact a.one h1 u h
    · exact b.one h2 u h
  mono := by rintro _ _ _ _ _ hp ⟨c1, c2, rfl, h1, h2⟩; exact ⟨c1, c2, rfl, a.mono hp h1, b.mono hp h2⟩
  keep := by rintro _ _ _ _ _ hp ⟨c1, c2, rfl, h1, h2⟩; exact ⟨c1, c2, rfl, a.keep hp h1, b.keep hp h2⟩
  lt := by rintro _ _ _ _ ⟨c1, c2, rfl, h1, h2⟩; exact ⟨c1, c2, rfl, a.lt h1, b.lt h2⟩
def iso {α β : Type} (d : Kn α) (f : β → α) : Kn β where
  sz := d.sz
  pos := d.pos
  R := fun P w x cs => d.R P w (f x) cs
  len := d.len
  one := d.one
  mono := d.mono
  keep := d.keep
  lt := d.lt
def slice {α : Type} (d : Kn α) : Kn (List α) where
  sz := 1
  pos := by omega
  R := fun P w xs cs => ∃ v, cs = [v] ∧ Sl d P w v xs
  len := by rintro _ _ _ _ ⟨v, rfl, _⟩; rfl
  one := by rintro _ _ _ _ ⟨v, rfl, A, c, rfl, _⟩ u hu; rw [List.mem_singleton.1 hu]; rfl
  mono := by rintro _ _ _ _ _ hp ⟨v, rfl, A, c, rfl, h1, h2, h3⟩; exact ⟨_, rfl, A, c, rfl, h1, h2, h3.mono hp⟩
  keep := by rintro _ _ _ _ _ hp ⟨v, rfl, A, c, rfl, h1, h2, h3⟩; exact ⟨_, rfl, A, c, rfl, h1, h2, h3.keep hp⟩
  lt := by rintro _ _ _ _ ⟨v, rfl, A, c, rfl, h1, h2, h3⟩; exact ⟨_, rfl, A, c, rfl, h1, h2, h3.lt⟩
end Kn

section
variable {α : Type} {d : Kn α} {P Q : Nat → Prop} {w w' : World} {v : Value} {xs : List α}
theorem Sl.mono (h : Sl d P w v xs) (hp : ∀ k, P k → Q k) : Sl d Q w v xs := let ⟨A, c, e, h1, h2, h3⟩ := h; ⟨A, c, e, h1, h2, h3.mono hp⟩
theorem Sl.keep (h : Sl d P w v xs) (hk : ∀ k, P k → k < w.heap.size → w'.heap[k]? = w.heap[k]?) : Sl d P w' v xs := let ⟨A, c, e, h1, h2, h3⟩ := h; ⟨A, c, e, h1, h2, h3.keep hk⟩
theorem Sl.below (h : Sl d P w v xs) (hb : Below w.heap.size w w') : Sl d P w' v xs := h.keep fun k _ hk => hb.block k hk
theorem Sl.lt (h : Sl d P w v xs) : Sl d (fun k => P k ∧ k < w.heap.size) w v xs := let ⟨A, c, e, h1, h2, h3⟩ := h; ⟨A, c, e, h1, h2, h3.lt⟩
theorem Sl.nil (d : Kn α) (P : Nat → Prop) (w : World) : Sl d P w (.slice none 0 0) [] := ⟨none, 0, rfl, Nat.le_refl _, by unfold maxLen; omega, Row.nil _ _ _ _⟩
end

/-- A row of the call's own, from block base on. -/
def Own {α : Type} (d : Kn α) (e base : Nat) (P : Nat → Prop) (w : World) (v : Value) (xs : List α) : Prop :=
  ∃ cells, w.ownsRow base e d.sz v xs.length cells ∧ Flat d P w xs cells

section
variable {α : Type} {d : Kn α} {e base : Nat} {P Q : Nat → Prop} {w w' : World} {v : Value} {xs : List α}
theorem Own.nil (d : Kn α) (e base : Nat) (P : Nat → Prop) (w : World) : Own d e base P w (.slice none 0 0) [] := ⟨[], World.ownsRow_nil _ _ _ _, Flat.nil _ _ _⟩
theorem Own.mono (h : Own d e base P w v xs) (hp : ∀ k, P k → Q k) : Own d e base Q w v xs := let ⟨cs, h1, h2⟩ := h; ⟨cs, h1, h2.mono hp⟩
theorem Own.block_lt (h : Own d e base P w v xs) : ∀ k, v.ownBlock = some k → base ≤ k ∧ k < w.heap.size := let ⟨_, h1, _⟩ := h; h1.lt
theorem ownsRow_move {size n : Nat} {cells : List Value} (h : w.ownsRow base e size v n cells) (hm : ∀ k, v.ownBlock = some k → w'.heap[k]? = w.heap[k]?) : w'.ownsRow base e size v n cells := by
  obtain ⟨h1, h2⟩ := h
  refine ⟨h1, ?_⟩
  rcases h2 with h2 | ⟨g, cap, cur, rfl, hg, hh, r⟩
  · exact .inl h2
  · exact .inr ⟨g, cap, cur, rfl, hg, (hm g (by simp [Value.ownBlock])).trans hh, r⟩
theorem Own.move (h : Own d e base P w v xs) (hm : ∀ k, (v.ownBlock = some k ∨ P k) → k < w.heap.size → w'.heap[k]? = w.heap[k]?) : Own d e base P w' v xs := by
  have hl := h.block_lt
  obtain ⟨cs, h1, h2⟩ := h
  exact ⟨cs, ownsRow_move h1 (fun k hk => hm k (.inl hk) (hl k hk).2), h2.keep fun k hk hl => hm k (.inr hk) hl⟩
theorem Own.below (h : Own d e base P w v xs) (hb : Below w.heap.size w w') : Own d e base P w' v xs := h.move fun k _ hk => hb.block k hk
theorem Own.alloc (h : Own d e base P w v xs) (o : Obj) : Own d e base P (w.alloc o) v xs := h.below ((Below.refl _ _).alloc (Nat.le_refl _) o)
theorem Own.lower {base' : Nat} (h : Own d e base P w v xs) (hb : base' ≤ base) : Own d e base' P w v xs := by
  obtain ⟨cs, ⟨h1, h2⟩, h3⟩ := h
  refine ⟨cs, ⟨h1, ?_⟩, h3⟩
  rcases h2 with h2 | ⟨g, cap, cur, rfl, hg, r⟩
  · exact .inl h2
  · exact .inr ⟨g, cap, cur, rfl, Nat.le_trans hb hg, r⟩
theorem Own.row (h : Own d e base P w v xs) : ∃ A c, v = .slice A xs.length c ∧ xs.length ≤ c ∧ c ≤ maxLen ∧ Row d (fun k => P k ∨ v.ownBlock = some k) w A xs := by
  obtain ⟨cells, hown, hf⟩ := h
  rcases hown.2 with ⟨rfl, h0⟩ | ⟨g, cap, cur, rfl, hb, hg, h1, h2, h3, h4⟩
  · have : xs = [] := List.eq_nil_of_length_eq_zero h0
    subst this
    exact ⟨none, 0, rfl, Nat.le_refl _, by unfold maxLen; omega, Row.nil _ _ _ _⟩
  · exact ⟨_, cap, rfl, h1, h2, fun _ => ⟨_, rfl, .inr rfl, cells, hf.mono fun k hk => .inl hk, hown.cells rfl⟩⟩
theorem Own.sl (h : Own d e base P w v xs) : Sl d (fun k => P k ∨ v.ownBlock = some k) w v xs := h.row
/-- the row's blocks all lie from base on, where the elements' do -/
theorem Own.slFrom (h : Own d e base (fun k => base ≤ k) w v xs) : Sl d (fun k => base ≤ k) w v xs :=
  h.sl.mono fun k hk => hk.elim id fun e => (h.block_lt k e).1
theorem Own.slAny (h : Own d e base P w v xs) : Sl d (fun _ => True) w v xs := h.sl.mono fun _ _ => trivial
end
end Go.Proofs.YtdchffghgajbfaaDoor
