/- Arguments read as Lean values, with what the bound gives of their size: for the second form's statements. -/
import Derived.Test.YtdchffghgajbfaaDoorR2
import Derived.Test.YtdchffghgajbfaaDoorN12
namespace Go.Proofs.YtdchffghgajbfaaDoor
open Go.ChangeShapes Go.WideShapes Go.ChangeAt Go.RowKit Go.Deep

theorem bulk_append {H : Type} (l r : List (DataW H)) : Rows.uptoBulkAll (l ++ r) = Rows.uptoBulkAll l + Rows.uptoBulkAll r := by
  induction l with
  | nil => simp [Rows.uptoBulkAll]
  | cons x l ih => simp only [List.cons_append, Rows.uptoBulkAll, ih]; omega
theorem bulk_bound {H : Type} {l : List (DataW H)} (hk : Rows.uptoSmall H l = true) : Rows.uptoBulkAll l ≤ 1048576 := of_decide_eq_true hk

/-- what a type's reading gives: a Lean value of the kind, no heavier than what was read -/
structure TDecW {α : Type} (P : Program) (e : TypeId) (d : Kn α) (wt : α → Nat) : Prop where
  cells : P.cellsOf e = d.sz
  dec : ∀ {H : Type} {enc : TypeId × Value → H} {w : World} {base : Nat} {sp : Nat → Bool} {held : Bool} {fuel : Nat} {cs : List Value} {x : DataW H × List MemPlace}, DataW.trod enc P w base sp held fuel e cs = some x → cs.length = d.sz → ∃ y, d.R (fun _ => True) w y cs ∧ wt y ≤ Rows.uptoBulk x.1
def wtL {α : Type} (wt : α → Nat) (l : List α) : Nat := (l.map wt).sum + 1

theorem row_of_cellsW {α H : Type} {d : Kn α} {wt : α → Nat} {w : World} {base : Nat} {D : Nat → DataW H} (a : Addr) (len : Nat) (hi : ∀ i, i < len → ∃ cs' y, w.cells? base (a.add (i * d.sz)) d.sz = some cs' ∧ d.R (fun _ => True) w y cs' ∧ wt y ≤ Rows.uptoBulk (D i)) :
    ∀ n, n ≤ len → ∃ (ys : List α) (cs : List Value), ys.length = n ∧ Flat d (fun _ => True) w ys cs ∧ (∀ j u, cs[j]? = some u → w.cell? (a.add j) = some u) ∧ (ys.map wt).sum ≤ Rows.uptoBulkAll ((List.range n).map D) := by
  intro n
  induction n with
  | zero => exact fun _ => ⟨[], [], rfl, Flat.nil _ _ _, fun j u h => by simp at h, by simp⟩
  | succ n ih =>
    intro hn
    obtain ⟨ys, cs, h1, h2, h3, h8⟩ := ih (by omega)
    obtain ⟨cs', y, h4, h5, h9⟩ := hi n (by omega)
    obtain ⟨_, h6, h7⟩ := World.cells?_some h4
    refine ⟨ys ++ [y], cs ++ cs', by simp [h1], h2.append (Flat.single h5), fun j u hj => ?_, ?_⟩
    · have hl : cs.length = n * d.sz := by rw [h2.1, h1]
      by_cases hlt : j < cs.length
      · rw [List.getElem?_append_left hlt] at hj; exact h3 j u hj
      · rw [List.getElem?_append_right (by omega)] at hj
        have hj' : j - cs.length < d.sz := by have := (List.getElem?_eq_some_iff.1 hj).1; omega
        have := h7 (j - cs.length) hj'
        rw [Go.Deep.add_add, hl, show n * d.sz + (j - n * d.sz) = j by omega, ← hl, hj] at this
        exact this
    · rw [List.range_succ, List.map_append, List.map_append, bulk_append, List.sum_append]
      simp only [List.map_cons, List.map_nil, List.sum_cons, List.sum_nil, Rows.uptoBulkAll]
      omega

theorem TDecW.slice {α : Type} {P : Program} {t e : TypeId} {d : Kn α} {wt : α → Nat} (ht : P.underlying t = some (.slice e)) (hd : TDecW P e d wt) (hc : P.cellsOf t = (Kn.slice d).sz) : TDecW P t (Kn.slice d) (wtL wt) := by
    refine ⟨hc, ?_⟩
    intro H enc w base sp held fuel cs x h hl
    rcases open_slice ht h with ⟨rfl, rfl⟩ | ⟨a, len, cap, m, n, D, Pl, rfl, _, h1, h2, h3, rfl, h4⟩
    · exact ⟨[], ⟨.slice none 0 0, rfl, none, 0, rfl, Nat.le_refl _, Nat.zero_le _, Row.nil _ _ _ _⟩, by simp [wtL, Rows.uptoBulk]⟩
    · have hm : len ≤ m := by rw [h3]; split <;> omega
      obtain ⟨ys, cs, g1, g2, g3, g4⟩ := row_of_cellsW (d := d) (wt := wt) (D := D) a len (fun i hi => by
        obtain ⟨cs', k1, k2⟩ := h4 i (by omega)
        rw [hd.cells] at k1
        obtain ⟨y, hy, hw⟩ := hd.dec k2 (World.cells?_some k1).2.1
        exact ⟨cs', y, k1, hy, hw⟩) len (Nat.le_refl _)
      subst g1
      refine ⟨ys, ⟨.slice (some a) ys.length cap, rfl, some a, cap, rfl, h1, h2, fun _ => ⟨a, rfl, trivial, cs, g2, g3⟩⟩, ?_⟩
      simp only [wtL, Rows.uptoBulk]
      omega

def wtE (e : Ev) : Nat := e.path.size + e.name.size + 6
theorem dec_eventW : TDecW Tryd.prog 41 kEvent wtE :=
  ⟨by kernel_rfl, fun h hl => let ⟨y, hy, hx⟩ := event_of h hl; ⟨y, hy, by rw [hx]; simp only [Rows.uptoBulk, Rows.uptoBulkAll, wtE, data_len]; omega⟩⟩
theorem dec_eventsW : TDecW Tryd.prog 29 (Kn.slice kEvent) (wtL wtE) := dec_eventW.slice Tryd.underlying29 (by kernel_rfl)

def wtO (o : OpV) : Nat := wtL wtE o.l + o.path.size + 5
set_option maxRecDepth 100000 in
theorem dec_op22W : TDecW Tryd.prog 31 kOp wtO := by
    refine ⟨by kernel_rfl, ?_⟩
    intro H enc w base sp held fuel cs x h hl
    obtain ⟨xs, n, _, hx, _, hxl, hf⟩ := DataW.trod_struct Tryd.underlying31 h
    have c2 : Tryd.prog.cellsOf 2 = 1 := by kernel_rfl
    have c3 : Tryd.prog.cellsOf 3 = 1 := by kernel_rfl
    have c4 : Tryd.prog.cellsOf 29 = 1 := by kernel_rfl
    have c9 : Tryd.prog.cellsOf 9 = 1 := by kernel_rfl
    have hxl : xs.length = 5 := hxl
    have hl : cs.length = 5 := hl
    match cs, hl with
    | [v0, v1, v2, v3, v4], _ =>
      have f0 : DataW.trod enc Tryd.prog w base sp held n 3 [v0] = xs[0]? := by
        have q : DataW.trod enc Tryd.prog w base sp held n 3 ((List.drop 0 [v0, v1, v2, v3, v4]).take (Tryd.prog.cellsOf 3)) = xs[0]? := hf 0 _ rfl
        rw [c3] at q; exact q
      have f1 : DataW.trod enc Tryd.prog w base sp held n 29 [v1] = xs[1]? := by
        have q : DataW.trod enc Tryd.prog w base sp held n 29 ((List.drop 1 [v0, v1, v2, v3, v4]).take (Tryd.prog.cellsOf 29)) = xs[1]? := hf 1 _ rfl
        rw [c4] at q; exact q
      have f2 : DataW.trod enc Tryd.prog w base sp held n 2 [v2] = xs[2]? := by
        have q : DataW.trod enc Tryd.prog w base sp held n 2 ((List.drop 2 [v0, v1, v2, v3, v4]).take (Tryd.prog.cellsOf 2)) = xs[2]? := hf 2 _ rfl
        rw [c2] at q; exact q
      have f3 : DataW.trod enc Tryd.prog w base sp held n 9 [v3] = xs[3]? := by
        have q : DataW.trod enc Tryd.prog w base sp held n 9 ((List.drop 3 [v0, v1, v2, v3, v4]).take (Tryd.prog.cellsOf 9)) = xs[3]? := hf 3 _ rfl
        rw [c9] at q; exact q
      have f4 : DataW.trod enc Tryd.prog w base sp held n 3 [v4] = xs[4]? := by
        have q : DataW.trod enc Tryd.prog w base sp held n 3 ((List.drop 4 [v0, v1, v2, v3, v4]).take (Tryd.prog.cellsOf 3)) = xs[4]? := hf 4 _ rfl
        rw [c3] at q; exact q
      obtain ⟨x0, g0⟩ := trod_at f0 (by omega)
      obtain ⟨x1, g1⟩ := trod_at f1 (by omega)
      obtain ⟨x2, g2⟩ := trod_at f2 (by omega)
      obtain ⟨x3, g3⟩ := trod_at f3 (by omega)
      obtain ⟨x4, g4⟩ := trod_at f4 (by omega)
      obtain ⟨n0, e0, z0, _⟩ := DataW.trod_int Tryd.underlying3 g0
      obtain ⟨l1, hl1, b1⟩ := dec_eventsW.dec g1 rfl
      obtain ⟨n2, e2, z2, _⟩ := DataW.trod_int Tryd.underlying2 g2
      obtain ⟨s3, e3, z3, _⟩ := DataW.trod_string Tryd.underlying9 g3
      obtain ⟨n4, e4, z4, _⟩ := DataW.trod_int Tryd.underlying3 g4
      cases e0; cases e2; cases e3; cases e4
      refine ⟨⟨n0, l1, n2, s3, n4⟩, ⟨[.int .i64 n0], [v1, .int .i64 n2, .string s3, .int .i64 n4], rfl, rfl, [v1], [.int .i64 n2, .string s3, .int .i64 n4], rfl, hl1, [.int .i64 n2], [.string s3, .int .i64 n4], rfl, rfl, [.string s3], [.int .i64 n4], rfl, rfl, rfl⟩, ?_⟩
      match xs, hxl with
      | [a0, a1, a2, a3, a4], _ =>
        have i0 : a0 = x0 := Option.some.inj (f0.symm.trans g0)
        have i1 : a1 = x1 := Option.some.inj (f1.symm.trans g1)
        have i2 : a2 = x2 := Option.some.inj (f2.symm.trans g2)
        have i3 : a3 = x3 := Option.some.inj (f3.symm.trans g3)
        have i4 : a4 = x4 := Option.some.inj (f4.symm.trans g4)
        rw [hx, i0, i1, i2, i3, i4]
        simp only [List.map_cons, List.map_nil, z0, z2, z3, z4, Rows.uptoBulk, Rows.uptoBulkAll, wtO, data_len]
        omega
theorem dec_ops22W : TDecW Tryd.prog 22 (Kn.slice kOp) (wtL wtO) := dec_op22W.slice Tryd.underlying22 (by kernel_rfl)

/-- an argument that is a slice, and how heavy it is -/
theorem open_knW {α : Type} {P : Program} {t e : TypeId} {d : Kn α} {wt : List α → Nat} (ht : P.underlying t = some (.slice e)) (hd : TDecW P t (Kn.slice d) wt) {H : Type} {enc : TypeId × Value → H} {w : World} {base b0 : Nat} {r : Reach} {sp : Nat → Bool} {held : Bool} {v : Value} {x : DataW H} {p : List MemPlace}
    (hv : Value.okWide P w r b0 t v) (h : DataW.Trod enc P w base sp held t v x p) : ∃ (ys : List α) (A : Option Addr) (c : Nat), v = .slice A ys.length c ∧ ys.length ≤ 9223372036854775807 ∧ Row d (fun _ => True) w A ys ∧ wt ys ≤ Rows.uptoBulk x := by
  obtain ⟨fuel, hf⟩ := h
  obtain ⟨A, n, c, rfl⟩ := okWide_slice ht hv
  obtain ⟨ys, ⟨v', hR, A', c', hv', h1, h2, h3⟩, hw⟩ := hd.dec hf rfl
  cases hR
  cases hv'
  exact ⟨ys, A, c, rfl, Nat.le_trans h1 (by unfold maxLen at h2; omega), h3, hw⟩
theorem sum_mem {α : Type} (wt : α → Nat) {l : List α} {x : α} (h : x ∈ l) : wt x ≤ (l.map wt).sum := by
  induction l with
  | nil => cases h
  | cons y l ih =>
    rw [List.map_cons, List.sum_cons]
    rcases List.mem_cons.1 h with rfl | h
    · omega
    · have := ih h; omega
theorem wtE_len (l : List Ev) : l.length ≤ (l.map wtE).sum := by
  induction l with
  | nil => simp
  | cons e l ih => rw [List.map_cons, List.sum_cons, List.length_cons]; unfold wtE at *; omega
theorem opSmall_of {xs : List OpV} (h : wtL wtO xs ≤ 1048576) : ∀ o ∈ xs, OpSmall o := fun o ho => by
  have h1 := sum_mem wtO ho
  have h2 : wtO o ≤ 1048576 := by unfold wtL at h; omega
  unfold wtO wtL at h2
  refine ⟨by have := wtE_len o.l; omega, fun e he => ?_, by omega⟩
  have h3 := sum_mem wtE he
  unfold wtE at h2 h3
  omega
end Go.Proofs.YtdchffghgajbfaaDoor
