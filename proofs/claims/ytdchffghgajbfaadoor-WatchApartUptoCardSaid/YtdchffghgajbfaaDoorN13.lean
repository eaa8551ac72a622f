/- WatchApart: what Since answers is of what was pushed; the answers that are written full, and what stands behind them. -/
import Derived.Test.YtdchffghgajbfaaDoorW1
import Derived.Test.YtdchffghgajbfaaDoorK4
import Derived.Test.YtdchffghgajbfaaDoorM4
namespace Go.Proofs.YtdchffghgajbfaaDoor
open Go.RowKit
/-- event i is written over by the mark, field by field -/
theorem own_mark {base g n c : Nat} {w : World} {M : List Ev} (h : Own kEvent 41 base (fun _ => False) w (.slice (some ⟨g, 0, none⟩) n c) M) (i : Nat) (hi : i < M.length) :
    Own kEvent 41 base (fun _ => False) (((((w.setCell ⟨g, i * 5, none⟩ (.int .i64 77)).setCell ⟨g, i * 5 + 1, none⟩ (.int .i64 0)).setCell ⟨g, i * 5 + 2, none⟩ (.bool false)).setCell ⟨g, i * 5 + 3, none⟩ (.string ⟨#[]⟩)).setCell ⟨g, i * 5 + 4, none⟩ (.string ⟨#[109, 97, 114, 107]⟩)) (.slice (some ⟨g, 0, none⟩) n c) (M.set i markE) := by
  have h0 := Own.setEnc (f := Ev.cells) (n := 5) h i hi 0 (by omega) (.int .i64 77) ⟨77, M[i].kind, M[i].gone, M[i].path, M[i].name⟩ rfl
  have h1 := Own.setMore (f := Ev.cells) (n := 5) h0 hi 1 (by omega) (.int .i64 0) ⟨77, 0, M[i].gone, M[i].path, M[i].name⟩ rfl
  have h2 := Own.setMore (f := Ev.cells) (n := 5) h1 hi 2 (by omega) (.bool false) ⟨77, 0, false, M[i].path, M[i].name⟩ rfl
  have h3 := Own.setMore (f := Ev.cells) (n := 5) h2 hi 3 (by omega) (.string ⟨#[]⟩) ⟨77, 0, false, ⟨#[]⟩, M[i].name⟩ rfl
  exact Own.setMore (f := Ev.cells) (n := 5) h3 hi 4 (by omega) (.string ⟨#[109, 97, 114, 107]⟩) markE rfl
theorem sinceL_sub (high most : Int) (path : ByteArray) : ∀ (ls : List (List Ev)) (told : List Ev), (sinceL high most path told ls).1.length ≤ told.length + ls.flatten.length ∧ ∀ e ∈ (sinceL high most path told ls).1, e ∈ told ∨ ∃ l ∈ ls, e ∈ l
  | [], told => by
    refine ⟨by simp [sinceL], fun e he => .inl ?_⟩
    simpa [sinceL] using he
  | l :: ls, told => by
    unfold sinceL
    split
    · exact ⟨by simp, fun e he => .inl he⟩
    · obtain ⟨h1, h2⟩ := sinceL_sub high most path ls (told ++ l.filter (fun x => underB x.path path))
      refine ⟨?_, fun e he => ?_⟩
      · have := List.length_filter_le (fun x => underB x.path path) l
        rw [List.length_append] at h1
        rw [List.flatten_cons, List.length_append]
        omega
      · rcases h2 e he with h | ⟨l', hl', hel⟩
        · rcases List.mem_append.1 h with h | h
          · exact .inl h
          · exact .inr ⟨l, List.mem_cons_self .., (List.mem_filter.1 h).1⟩
        · exact .inr ⟨l', List.mem_cons_of_mem _ hl', hel⟩
theorem flatten_drop_le (n : Nat) (ls : List (List Ev)) : (ls.drop n).flatten.length ≤ ls.flatten.length := by
  have h : ls.flatten = (ls.take n).flatten ++ (ls.drop n).flatten := by rw [← List.flatten_append, List.take_append_drop]
  rw [h, List.length_append]; omega
theorem hubSince_sub (h : HubS) (v : Int) (path : ByteArray) (most : Int) : (hubSince h v path most).1.length ≤ h.vs.flatten.length ∧ ∀ e ∈ (hubSince h v path most).1, ∃ l ∈ h.vs, e ∈ l := by
  unfold hubSince
  split
  · exact ⟨Nat.zero_le _, fun e he => by simp at he⟩
  split
  · exact ⟨Nat.zero_le _, fun e he => by simp at he⟩
  split
  · exact ⟨Nat.zero_le _, fun e he => by simp at he⟩
  split
  · exact ⟨Nat.zero_le _, fun e he => by simp at he⟩
  obtain ⟨h1, h2⟩ := sinceL_sub h.high most path (h.vs.drop (v - h.low).toNat) []
  refine ⟨Nat.le_trans h1 (by simpa using flatten_drop_le _ h.vs), fun e he => ?_⟩
  rcases h2 e he with h | ⟨l, hl, hel⟩
  · simp at h
  · exact ⟨l, List.mem_of_mem_drop hl, hel⟩
abbrev Wr2 (a b c d : Nat) : Nat → Prop := fun k => (a ≤ k ∧ k < b) ∨ (c ≤ k ∧ k < d)
theorem rowTurn {α : Type} {d : Kn α} {P S : Nat → Prop} {w w' : World} {A : Option Addr} {xs : List α} (h : Row d P w A xs) (ht : Turn S w w') (hs : ∀ k, P k → ¬ S k) : Row d P w' A xs := h.keep fun k hk hl => ht.block k hl (hs k hk)
structure KW (wF : World) (nA nB nC nD : Nat) (wr : World) (av rv : Value) (Ma : List Ev) (Ta : List ByteArray) : Prop where
  oa : Own kEvent 41 nA (fun _ => False) wr av Ma
  orr : Own Kn.str 9 nC (fun _ => False) wr rv Ta
  turn : Turn (Wr2 nA nB nC nD) wF wr
  ba : ∀ k, av.ownBlock = some k → k < nB
  br : ∀ k, rv.ownBlock = some k → k < nD
section
variable {wF wr : World} {nA nB nC nD : Nat} {av rv : Value} {Ma : List Ev} {Ta : List ByteArray}
theorem KW.mark {g n c : Nat} (h : KW wF nA nB nC nD wr (.slice (some ⟨g, 0, none⟩) n c) rv Ma Ta) (hBC : nB ≤ nC) (i : Nat) (hi : i < Ma.length) :
    KW wF nA nB nC nD (((((wr.setCell ⟨g, i * 5, none⟩ (.int .i64 77)).setCell ⟨g, i * 5 + 1, none⟩ (.int .i64 0)).setCell ⟨g, i * 5 + 2, none⟩ (.bool false)).setCell ⟨g, i * 5 + 3, none⟩ (.string ⟨#[]⟩)).setCell ⟨g, i * 5 + 4, none⟩ (.string ⟨#[109, 97, 114, 107]⟩)) (.slice (some ⟨g, 0, none⟩) n c) rv (Ma.set i markE) Ta := by
  have hg := h.oa.block_lt g (by simp [Value.ownBlock])
  have hgb := h.ba g (by simp [Value.ownBlock])
  have hS : Wr2 nA nB nC nD g := .inl ⟨hg.1, hgb⟩
  refine ⟨own_mark h.oa i hi, h.orr.move fun k hk _ => ?_, ((((h.turn.setCell (.inl hS) _).setCell (.inl hS) _).setCell (.inl hS) _).setCell (.inl hS) _).setCell (.inl hS) _, h.ba, h.br⟩
  have hne : k ≠ g := by
    rcases hk with hk | hk
    · have := (h.orr.block_lt k hk).1
      omega
    · exact hk.elim
  rw [Below.heap_setCell _ _ _ _ hne, Below.heap_setCell _ _ _ _ hne, Below.heap_setCell _ _ _ _ hne, Below.heap_setCell _ _ _ _ hne, Below.heap_setCell _ _ _ _ hne]
theorem KW.text {g n c : Nat} (h : KW wF nA nB nC nD wr av (.slice (some ⟨g, 0, none⟩) n c) Ma Ta) (hBC : nB ≤ nC) (i : Nat) (hi : i < Ta.length) (y : ByteArray) :
    KW wF nA nB nC nD (wr.setCell ⟨g, i, none⟩ (.string y)) av (.slice (some ⟨g, 0, none⟩) n c) Ma (Ta.set i y) := by
  have hg := h.orr.block_lt g (by simp [Value.ownBlock])
  have hgb := h.br g (by simp [Value.ownBlock])
  have hS : Wr2 nA nB nC nD g := .inr ⟨hg.1, hgb⟩
  refine ⟨h.oa.move fun k hk _ => ?_, ?_, h.turn.setCell (.inl hS) _, h.ba, h.br⟩
  · have hne : k ≠ g := by
      rcases hk with hk | hk
      · have := h.ba k hk
        omega
      · exact hk.elim
    rw [Below.heap_setCell _ _ _ _ hne]
  · have := Own.setEnc (f := fun s : ByteArray => [Value.string s]) (n := 1) (hl := fun _ => rfl) (h1 := fun x u hu => by rw [List.mem_singleton.1 hu]; rfl) h.orr i hi 0 (by omega) (.string y) y rfl
    rwa [Nat.mul_one, Nat.add_zero] at this
end
theorem marks_set {Ma : List Ev} {k : Nat} (hk : k < Ma.length) (h : ∀ i (hi : i < Ma.length), i < k → Ma[i] = markE) : ∀ i (hi : i < (Ma.set k markE).length), i < k + 1 → (Ma.set k markE)[i] = markE := by
  intro i hi hik
  rw [List.getElem_set]
  split
  · rfl
  · exact h i (by simpa using hi) (by omega)
theorem texts_set {T : List ByteArray} {k : Nat} {y : ByteArray} (hk : k < T.length) (h : ∀ i (hi : i < T.length), i < k → T[i] = y) : ∀ i (hi : i < (T.set k y).length), i < k + 1 → (T.set k y)[i] = y := by
  intro i hi hik
  rw [List.getElem_set]
  split
  · rfl
  · exact h i (by simpa using hi) (by omega)
theorem Row.newTexts (w : World) (xs : List ByteArray) (cs : Array Value) (hc : cs = (xs.map Value.string).toArray) : Row Kn.str (fun _ => True) (w.alloc (.cells cs 9)) (some ⟨w.heap.size, 0, none⟩) xs := fun _ =>
  ⟨_, rfl, trivial, xs.map Value.string, ⟨by simp [Kn.str, Kn.scalar], fun i hi => by
    show ((xs.map Value.string).drop (i * 1)).take 1 = [Value.string xs[i]]
    rw [Nat.mul_one, List.drop_eq_getElem_cons (by simpa using hi)]
    simp⟩, fun j u hu => by
    rw [add_new, cell_of_row _ _ _ _ _ _ (heap_alloc_new w _), hc]; simpa using hu⟩
theorem own_any {α : Type} {d : Kn α} {e base : Nat} {w : World} {A : Option Addr} {n c : Nat} {xs : List α} {P : Nat → Prop} (h : Own d e base P w (.slice A n c) xs) : Row d (fun _ => True) w A xs := h.row'.2.1
section
variable {wF wr w' : World} {nA nB nC nD : Nat} {av rv : Value} {Ma Mg : List Ev} {Ta Th : List ByteArray}
theorem KW.below (h : KW wF nA nB nC nD wr av rv Ma Ta) (hb : Below wr.heap.size wr w') : KW wF nA nB nC nD w' av rv Ma Ta := ⟨h.oa.below hb, h.orr.below hb, h.turn.then_below hb, h.ba, h.br⟩
/-- behind the first append -/
structure KG (wF : World) (nA nB nC nD : Nat) (wr : World) (av rv gv : Value) (Ma Mg : List Ev) (Ta : List ByteArray) : Prop where
  kw : KW wF nA nB nC nD wr av rv Ma Ta
  og : Own kEvent 41 nA (fun _ => False) wr gv Mg
  gb : ∀ k, gv.ownBlock = some k → k < nC ∨ nD ≤ k
theorem KG.below {gv : Value} (h : KG wF nA nB nC nD wr av rv gv Ma Mg Ta) (hb : Below wr.heap.size wr w') : KG wF nA nB nC nD w' av rv gv Ma Mg Ta := ⟨h.kw.below hb, h.og.below hb, h.gb⟩
theorem KW.app {gv : Value} (h : KW wF nA nB nC nD wr av rv Ma Ta) (hBC : nB ≤ nC) (hD : nD ≤ wF.heap.size)
    (ha : Appended kEvent 41 nA (fun _ => False) wr w' av gv Mg) (hk : Own kEvent 41 nA (fun _ => False) w' av Ma) : KG wF nA nB nC nD w' av rv gv Ma Mg Ta := by
  have hsz := h.turn.size
  refine ⟨⟨hk, h.orr.move fun k hk hl => ha.grown.block k hl fun e => ?_, h.turn.grown ha.grown fun k hk => .inl (.inl ⟨(h.oa.block_lt k hk).1, h.ba k hk⟩), h.ba, h.br⟩, ha.own, fun k hk => ?_⟩
  · rcases hk with hk | hk
    · have h1 := (h.orr.block_lt k hk).1
      have h2 := h.ba k e.symm
      omega
    · exact hk.elim
  · rcases ha.at_ with e | e
    · have := h.ba k (e ▸ hk)
      exact .inl (by omega)
    · rw [e] at hk
      have := Option.some.inj hk
      exact .inr (by omega)
/-- behind both -/
structure KH (wF : World) (nA nB nC nD : Nat) (wr : World) (A0 R0 Ag Rg : Option Addr) (Ma Mg : List Ev) (Ta Th : List ByteArray) : Prop where
  turn : Turn (Wr2 nA nB nC nD) wF wr
  ra : Row kEvent (fun _ => True) wr A0 Ma
  rr : Row Kn.str (fun _ => True) wr R0 Ta
  rg : Row kEvent (fun _ => True) wr Ag Mg
  rh : Row Kn.str (fun _ => True) wr Rg Th
theorem KH.below {A0 R0 Ag Rg : Option Addr} (h : KH wF nA nB nC nD wr A0 R0 Ag Rg Ma Mg Ta Th) (hb : Below wr.heap.size wr w') : KH wF nA nB nC nD w' A0 R0 Ag Rg Ma Mg Ta Th :=
  ⟨h.turn.then_below hb, h.ra.below hb, h.rr.below hb, h.rg.below hb, h.rh.below hb⟩
theorem KG.app {A0 R0 Ag Rg : Option Addr} {n0 c0 q0 d0 n1 c1 q1 d1 : Nat} (h : KG wF nA nB nC nD wr (.slice A0 n0 c0) (.slice R0 q0 d0) (.slice Ag n1 c1) Ma Mg Ta) (hBC : nB ≤ nC)
    (ha : Appended Kn.str 9 nC (fun _ => False) wr w' (.slice R0 q0 d0) (.slice Rg q1 d1) Th) (hk : Own Kn.str 9 nC (fun _ => False) w' (.slice R0 q0 d0) Ta) : KH wF nA nB nC nD w' A0 R0 Ag Rg Ma Mg Ta Th := by
  have hr := fun k (e : (Value.slice R0 q0 d0).ownBlock = some k) => (⟨(h.kw.orr.block_lt k e).1, h.kw.br k e⟩ : nC ≤ k ∧ k < nD)
  refine ⟨h.kw.turn.grown ha.grown fun k hk => .inl (.inr (hr k hk)), own_any (h.kw.oa.move fun k hk hl => ha.grown.block k hl fun e => ?_), own_any hk, own_any (h.og.move fun k hk hl => ha.grown.block k hl fun e => ?_), own_any ha.own⟩
  · rcases hk with hk | hk
    · have h1 := hr k e.symm
      have h2 := h.kw.ba k hk
      omega
    · exact hk.elim
  · rcases hk with hk | hk
    · have h1 := hr k e.symm
      have h2 := h.gb k hk
      omega
    · exact hk.elim
end
abbrev vE : Ev := ⟨1, 3, true, ⟨#[47, 118]⟩, ⟨#[118]⟩⟩
theorem markAt {Ma Mb : List Ev} {i : Nat} (hi : i < Ma.length) (h : ∀ i (h : i < Ma.length), Ma[i] = markE) : (Ma ++ Mb)[i]'(by rw [List.length_append]; omega) = markE := by rw [List.getElem_append_left hi, h i hi]
theorem textAt {Ta Tb : List ByteArray} {y : ByteArray} {i : Nat} (hi : i < Ta.length) (h : ∀ i (h : i < Ta.length), Ta[i] = y) : (Ta ++ Tb)[i]'(by rw [List.length_append]; omega) = y := by rw [List.getElem_append_left hi, h i hi]
end Go.Proofs.YtdchffghgajbfaaDoor
