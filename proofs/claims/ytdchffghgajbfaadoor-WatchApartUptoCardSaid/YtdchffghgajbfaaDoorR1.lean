/- What the rows of this seat want: arguments read as Lean values, the frame, the variables. -/
import Derived.Test.YtdchffghgajbfaaDoorL1
import Derived.Test.YtdchffghgajbfaaDoorR0
namespace Go.Proofs.YtdchffghgajbfaaDoor
open Go.ChangeShapes Go.WideShapes Go.ChangeAt Go.RowKit Go.Deep

/-- what a type's reading gives: a Lean value of the kind -/
structure TDec {α : Type} (P : Program) (e : TypeId) (d : Kn α) : Prop where
  cells : P.cellsOf e = d.sz
  dec : ∀ {H : Type} {enc : TypeId × Value → H} {w : World} {base : Nat} {sp : Nat → Bool} {held : Bool} {fuel : Nat} {cs : List Value} {x : DataW H × List MemPlace}, DataW.trod enc P w base sp held fuel e cs = some x → cs.length = d.sz → ∃ y, d.R (fun _ => True) w y cs

theorem row_of_cells {α : Type} {d : Kn α} {w : World} {base : Nat} (a : Addr) (len : Nat) (hi : ∀ i, i < len → ∃ cs' y, w.cells? base (a.add (i * d.sz)) d.sz = some cs' ∧ d.R (fun _ => True) w y cs') :
    ∀ n, n ≤ len → ∃ (ys : List α) (cs : List Value), ys.length = n ∧ Flat d (fun _ => True) w ys cs ∧ ∀ j u, cs[j]? = some u → w.cell? (a.add j) = some u := by
  intro n
  induction n with
  | zero => exact fun _ => ⟨[], [], rfl, Flat.nil _ _ _, fun j u h => by simp at h⟩
  | succ n ih =>
    intro hn
    obtain ⟨ys, cs, h1, h2, h3⟩ := ih (by omega)
    obtain ⟨cs', y, h4, h5⟩ := hi n (by omega)
    obtain ⟨_, h6, h7⟩ := World.cells?_some h4
    refine ⟨ys ++ [y], cs ++ cs', by simp [h1], h2.append (Flat.single h5), fun j u hj => ?_⟩
    have hl : cs.length = n * d.sz := by rw [h2.1, h1]
    by_cases hlt : j < cs.length
    · rw [List.getElem?_append_left hlt] at hj; exact h3 j u hj
    · rw [List.getElem?_append_right (by omega)] at hj
      have hj' : j - cs.length < d.sz := by have := (List.getElem?_eq_some_iff.1 hj).1; omega
      have := h7 (j - cs.length) hj'
      rw [Go.Deep.add_add, hl, show n * d.sz + (j - n * d.sz) = j by omega, ← hl, hj] at this
      exact this

theorem TDec.slice {α : Type} {P : Program} {t e : TypeId} {d : Kn α} (ht : P.underlying t = some (.slice e)) (hd : TDec P e d) (hc : P.cellsOf t = (Kn.slice d).sz) : TDec P t (Kn.slice d) := by
    refine ⟨hc, ?_⟩
    intro H enc w base sp held fuel cs x h hl
    rcases open_slice ht h with ⟨rfl, _⟩ | ⟨a, len, cap, m, n, D, Pl, rfl, _, h1, h2, h3, _, h4⟩
    · exact ⟨[], .slice none 0 0, rfl, none, 0, rfl, Nat.le_refl _, Nat.zero_le _, Row.nil _ _ _ _⟩
    · have hm : len ≤ m := by rw [h3]; split <;> omega
      obtain ⟨ys, cs, g1, g2, g3⟩ := row_of_cells (d := d) a len (fun i hi => by
        obtain ⟨cs', k1, k2⟩ := h4 i (by omega)
        rw [hd.cells] at k1
        obtain ⟨y, hy⟩ := hd.dec k2 (World.cells?_some k1).2.1
        exact ⟨cs', y, k1, hy⟩) len (Nat.le_refl _)
      subst g1
      exact ⟨ys, .slice (some a) ys.length cap, rfl, some a, cap, rfl, h1, h2, fun _ => ⟨a, rfl, trivial, cs, g2, g3⟩⟩

theorem trod_at {H : Type} {enc : TypeId × Value → H} {P : Program} {w : World} {base : Nat} {sp : Nat → Bool} {held : Bool} {n : Nat} {t : TypeId} {cs : List Value} {xs : List (DataW H × List MemPlace)} {i : Nat} (h : DataW.trod enc P w base sp held n t cs = xs[i]?) (hi : i < xs.length) : ∃ x, DataW.trod enc P w base sp held n t cs = some x :=
  ⟨xs[i], by rw [h]; simp [hi]⟩
set_option maxRecDepth 100000 in
theorem event_of {H : Type} {enc : TypeId × Value → H} {w : World} {base : Nat} {sp : Nat → Bool} {held : Bool} {fuel : Nat} {cs : List Value} {x : DataW H × List MemPlace} (h : DataW.trod enc Tryd.prog w base sp held fuel 41 cs = some x) (hl : cs.length = 5) :
    ∃ y : Ev, cs = y.cells ∧ x.1 = .agg [.lit (.int .i64 y.ver), .lit (.int .i64 y.kind), .lit (.bool y.gone), .lit (.string y.path.data.toList), .lit (.string y.name.data.toList)] := by
    obtain ⟨xs, n, _, hx, _, hxl, hf⟩ := DataW.trod_struct Tryd.underlying41 h
    have c2 : Tryd.prog.cellsOf 2 = 1 := by kernel_rfl
    have c3 : Tryd.prog.cellsOf 3 = 1 := by kernel_rfl
    have c4 : Tryd.prog.cellsOf 4 = 1 := by kernel_rfl
    have c9 : Tryd.prog.cellsOf 9 = 1 := by kernel_rfl
    have hxl : xs.length = 5 := hxl
    match cs, hl with
    | [v0, v1, v2, v3, v4], _ =>
      have f0 : DataW.trod enc Tryd.prog w base sp held n 2 [v0] = xs[0]? := by
        have q : DataW.trod enc Tryd.prog w base sp held n 2 ((List.drop 0 [v0, v1, v2, v3, v4]).take (Tryd.prog.cellsOf 2)) = xs[0]? := hf 0 _ rfl
        rw [c2] at q; exact q
      have f1 : DataW.trod enc Tryd.prog w base sp held n 3 [v1] = xs[1]? := by
        have q : DataW.trod enc Tryd.prog w base sp held n 3 ((List.drop 1 [v0, v1, v2, v3, v4]).take (Tryd.prog.cellsOf 3)) = xs[1]? := hf 1 _ rfl
        rw [c3] at q; exact q
      have f2 : DataW.trod enc Tryd.prog w base sp held n 4 [v2] = xs[2]? := by
        have q : DataW.trod enc Tryd.prog w base sp held n 4 ((List.drop 2 [v0, v1, v2, v3, v4]).take (Tryd.prog.cellsOf 4)) = xs[2]? := hf 2 _ rfl
        rw [c4] at q; exact q
      have f3 : DataW.trod enc Tryd.prog w base sp held n 9 [v3] = xs[3]? := by
        have q : DataW.trod enc Tryd.prog w base sp held n 9 ((List.drop 3 [v0, v1, v2, v3, v4]).take (Tryd.prog.cellsOf 9)) = xs[3]? := hf 3 _ rfl
        rw [c9] at q; exact q
      have f4 : DataW.trod enc Tryd.prog w base sp held n 9 [v4] = xs[4]? := by
        have q : DataW.trod enc Tryd.prog w base sp held n 9 ((List.drop 4 [v0, v1, v2, v3, v4]).take (Tryd.prog.cellsOf 9)) = xs[4]? := hf 4 _ rfl
        rw [c9] at q; exact q
      obtain ⟨x0, g0⟩ := trod_at f0 (by omega)
      obtain ⟨x1, g1⟩ := trod_at f1 (by omega)
      obtain ⟨x2, g2⟩ := trod_at f2 (by omega)
      obtain ⟨x3, g3⟩ := trod_at f3 (by omega)
      obtain ⟨x4, g4⟩ := trod_at f4 (by omega)
      obtain ⟨n0, e0, z0, _⟩ := DataW.trod_int Tryd.underlying2 g0
      obtain ⟨n1, e1, z1, _⟩ := DataW.trod_int Tryd.underlying3 g1
      obtain ⟨b2, e2, z2⟩ := DataW.trod_bool Tryd.underlying4 g2
      obtain ⟨s3, e3, z3, _⟩ := DataW.trod_string Tryd.underlying9 g3
      obtain ⟨s4, e4, z4, _⟩ := DataW.trod_string Tryd.underlying9 g4
      cases e0; cases e1; cases e2; cases e3; cases e4
      refine ⟨⟨n0, n1, b2, s3, s4⟩, rfl, ?_⟩
      match xs, hxl with
      | [a0, a1, a2, a3, a4], _ =>
        have i0 : a0 = x0 := Option.some.inj (f0.symm.trans g0)
        have i1 : a1 = x1 := Option.some.inj (f1.symm.trans g1)
        have i2 : a2 = x2 := Option.some.inj (f2.symm.trans g2)
        have i3 : a3 = x3 := Option.some.inj (f3.symm.trans g3)
        have i4 : a4 = x4 := Option.some.inj (f4.symm.trans g4)
        rw [hx, i0, i1, i2, i3, i4, z0, z1, z2, z3, z4]; rfl
theorem dec_event : TDec Tryd.prog 41 kEvent :=
  ⟨by kernel_rfl, fun h hl => let ⟨y, hy, _⟩ := event_of h hl; ⟨y, hy⟩⟩
theorem dec_events : TDec Tryd.prog 29 (Kn.slice kEvent) := dec_event.slice Tryd.underlying29 (by kernel_rfl)
theorem dec_versions : TDec Tryd.prog 33 (Kn.slice (Kn.slice kEvent)) := dec_events.slice Tryd.underlying33 (by kernel_rfl)

/-- an argument that is a slice -/
theorem open_kn {α : Type} {P : Program} {t e : TypeId} {d : Kn α} (ht : P.underlying t = some (.slice e)) (hd : TDec P t (Kn.slice d)) {H : Type} {enc : TypeId × Value → H} {w : World} {base b0 : Nat} {r : Reach} {sp : Nat → Bool} {held : Bool} {v : Value} {x : DataW H} {p : List MemPlace}
    (hv : Value.okWide P w r b0 t v) (h : DataW.Trod enc P w base sp held t v x p) : ∃ (ys : List α) (A : Option Addr) (c : Nat), v = .slice A ys.length c ∧ ys.length ≤ 9223372036854775807 ∧ Row d (fun _ => True) w A ys := by
  obtain ⟨fuel, hf⟩ := h
  obtain ⟨A, n, c, rfl⟩ := okWide_slice ht hv
  obtain ⟨ys, v', hR, A', c', hv', h1, h2, h3⟩ := hd.dec hf rfl
  cases hR
  cases hv'
  exact ⟨ys, A, c, rfl, Nat.le_trans h1 (by unfold maxLen at h2; omega), h3⟩

/-- what the world's shape gives -/
theorem int_of_shape {P : Program} {w : World} {g : Nat} {t : TypeId} {zero : Array Value} (h : w.ShapedOpen P) (hg : g < P.globals.size)
    (h0 : ((begin P (fun _ _ => 0) default).world.heap[g]?).bind Obj.row? = some (zero, t)) (hz : zero.size = 1)
    (hb : P.buildable t = true) (hc : P.cellTypes P.depth t = some [t]) (hu : P.underlying t = some (.int .i64)) : ∃ m, w.cell? ⟨g, 0, none⟩ = some (.int .i64 m) := by
  obtain ⟨cs, hh, hs, hr⟩ := h.1 g zero t hg h0
  obtain ⟨ts, hts, _, hall⟩ := hr hb
  rw [hc] at hts
  cases hts
  have h1 : 0 < cs.size := by omega
  obtain ⟨u, hu', hok⟩ := hall 0 cs[0] (by simp [h1])
  have : u = t := by simpa using hu'.symm
  subst this
  have hcell : w.cell? ⟨g, 0, none⟩ = some cs[0] := by simp [World.cell?, hh, h1]
  rw [hcell]
  unfold Cell.ok at hok
  rw [hu] at hok
  cases hv : cs[0] with
  | int k n =>
    rw [hv] at hok
    cases k <;> first | exact ⟨_, rfl⟩ | simp at hok
  | _ => rw [hv] at hok; simp at hok
theorem ml_of_shape {W : World} (h : W.ShapedOpen Tryd.prog) : Ml W :=
  int_of_shape h (of_decide_eq_true (by kernel_rfl)) (show _ = some (#[.int .i64 0], 3) by kernel_rfl) rfl (by kernel_rfl) (by kernel_rfl) Tryd.underlying3

theorem bytes_nil {s : ByteArray} (h : s.data.toList = []) : s = ⟨#[]⟩ := bytes_inj h
set_option maxRecDepth 100000 in
/-- what the row's list gives -/
theorem env_of_laid {W : World} (hsh : W.ShapedOpen Tryd.prog) (h : laidMet Tryd.prog [("unicode/utf8.acceptRanges", Rows.laid_unicode_utf8_acceptRanges), ("bursar/bursarlaw22.mark", Rows.laid_bursar_bursarlaw22_mark), ("unicode/utf8.first", Rows.laid_unicode_utf8_first)] W) : Env W := by
  refine ⟨ml_of_shape hsh, ?_⟩
  obtain ⟨ps, ⟨_, _, _, _, _, _, _, _, _, _, ⟨g, t, cs, fuel, p, q, hg, ht, hvar, hd, _, _⟩, _⟩, _⟩ := h
  have hg0 : Tryd.prog.globalNamed "bursar/bursarlaw22.mark" = some 0 := by kernel_rfl
  have ht0 : (Tryd.prog.globals[0]?).map (·.type) = some 41 := by kernel_rfl
  obtain rfl := Option.some.inj (hg0.symm.trans hg)
  obtain rfl := Option.some.inj (ht0.symm.trans ht)
  have hl5 : cs.toList.length = 5 := by
    obtain ⟨_, _, _, _, hl, _⟩ := DataW.trod_struct Tryd.underlying41 hd
    have c5 : Tryd.prog.cellsOf 41 = 5 := by kernel_rfl
    rw [hl, c5]
  obtain ⟨y, hy, hx⟩ := event_of hd hl5
  have hx' : (Rows.laid_bursar_bursarlaw22_mark : DataW Unit) = _ := hx
  unfold Rows.laid_bursar_bursarlaw22_mark at hx'
  have hcell := fun i => World.var?_cell hg0 hvar i
  have hcs : cs = y.cells.toArray := by cases cs; simp at hy; rw [hy]
  obtain ⟨a0, a1, a2, a3, a4⟩ := y
  simp only [DataW.agg.injEq, List.cons.injEq, DataW.lit.injEq, Lit.int.injEq, Lit.bool.injEq, Lit.string.injEq, and_true, true_and] at hx'
  obtain ⟨rfl, rfl, rfl, h3, h4⟩ := hx'
  have e3 : a3 = ⟨#[]⟩ := bytes_inj h3.symm
  have e4 : a4 = ⟨#[109, 97, 114, 107]⟩ := bytes_inj h4.symm
  subst e3; subst e4; subst hcs
  exact ⟨hcell 0, hcell 1, hcell 2, hcell 3, hcell 4⟩

end Go.Proofs.YtdchffghgajbfaaDoor
