/- The ledger's Rows: the walk. -/
import Derived.Test.YtalkdddeiebfmaaGreatDoorJ19
namespace Go.Proofs.YtalkdddeiebfmaaGreatDoor
open Go.RowKit Go.Maps Go.WideMaps Go.Sort

/-- what the walk over the map has met -/
structure ColS (D : DataW Unit) (S : Pl → Int) (left : Lit → Bool) (M : List Sh) : Prop where
  nod : (M.map Prod.fst).Nodup
  mem : ∀ x, x ∈ M.map Prod.fst ↔ PlOk x ∧ Maps.has D (plLit x) = true ∧ left (plLit x) = false
  val : ∀ s ∈ M, s.2 = S s.1
section
variable {D : DataW Unit} {S : Pl → Int} {left : Lit → Bool} {M : List Sh}
theorem ColS.start (D : DataW Unit) (S : Pl → Int) : ColS D S (Maps.has D) [] := ⟨List.nodup_nil, fun x => by simp, fun s hs => by cases hs⟩
theorem ColS.step (h : ColS D S left M) (hr : ∀ x, PlOk x → D.atKey (plLit x) z64 = i64D (S x)) {x : Pl} {c : Int} (hx : PlOk x) (hlk : left (plLit x) = true) (hat : ∀ zd, D.atKey (plLit x) zd = i64D c) : ColS D S (fun z => left z && !z.sameKey (plLit x)) (M ++ [(x, c)]) := by
  have hc : c = S x := by
    have := (hat z64).symm.trans (hr x hx)
    simpa [i64D] using this
  have hkx : WideAt.IsKeyLit (plLit x) := placeLaw.key (pl_key x hx)
  have hnx : x ∉ M.map Prod.fst := fun hm => by
    have := ((h.mem x).1 hm).2.2
    rw [hlk] at this
    cases this
  refine ⟨?_, fun y => ?_, fun s hs => ?_⟩
  · rw [List.map_append, List.nodup_append]
    refine ⟨h.nod, by simp, fun a ha b hb e => ?_⟩
    simp only [List.map_cons, List.map_nil, List.mem_singleton] at hb
    rw [← e.trans hb] at hnx
    exact hnx ha
  · rw [List.map_append, List.mem_append, h.mem]
    simp only [List.map_cons, List.map_nil, List.mem_singleton]
    by_cases e : y = x
    · subst e
      simp [hx, has_true_of_atKey hat, WideAt.sameKey_self hkx]
    · constructor
      · rintro (⟨h1, h2, h3⟩ | h1)
        · exact ⟨h1, h2, by rw [h3]; rfl⟩
        · exact absurd h1 e
      · rintro ⟨h1, h2, h3⟩
        have h4 : (plLit y).sameKey (plLit x) = false := sameKey_ne fun e2 => e (plLit_inj h1 hx e2)
        rw [h4] at h3
        exact .inl ⟨h1, h2, by simpa using h3⟩
  · rcases List.mem_append.1 hs with hs | hs
    · exact h.val s hs
    · rw [List.mem_singleton.1 hs]; exact hc
theorem ColS.done (h : ColS D S left M) (hh : ∀ x, PlOk x → Maps.has D (plLit x) = decide (S x ≠ 0)) (hl : ∀ kl, left kl = false) (hp : ∀ x, S x ≠ 0 → PlOk x) : M.Nodup ∧ ∀ x : Sh, x ∈ M ↔ S x.1 ≠ 0 ∧ x.2 = S x.1 := by
  have hn := h.nod
  rw [List.nodup_iff_pairwise_ne, List.pairwise_map] at hn
  refine ⟨?_, fun x => ?_⟩
  · rw [List.nodup_iff_pairwise_ne]
    exact hn.imp fun hab e => hab (by rw [e])
  · constructor
    · intro hx
      have h1 := (h.mem x.1).1 (List.mem_map_of_mem hx)
      have h2 := h1.2.1
      rw [hh x.1 h1.1] at h2
      exact ⟨by simpa using h2, h.val x hx⟩
    · rintro ⟨h1, h2⟩
      have h3 := (h.mem x.1).2 ⟨hp x.1 h1, by rw [hh x.1 (hp x.1 h1)]; simpa using h1, hl _⟩
      obtain ⟨y, hy, e⟩ := List.mem_map.1 h3
      have h4 := h.val y hy
      have : y = x := by
        obtain ⟨a, b⟩ := y
        obtain ⟨c, d⟩ := x
        simp only at e h4 h2
        subst e
        rw [h4, h2]
      rw [← this]; exact hy
end
theorem wpList_next_pl (w : World) {ops : Array Oper} {rest : List Oper} {o : Oper} {a : Act} {Q : Exit → Act → World → Prop}
    (hg : o.guard = none) (it : Operand) (hop : o.op = Op.next it false) (b r n : Nat) (D : DataW Unit) (left : Lit → Bool) (cnt : Nat) (hit : a.eval it = .pointer (some ⟨r, 0, none⟩)) (h : w.ranges Tryz.prog 79 (plainElem Tryz.prog 2) b r n D left cnt)
    (hDone : cnt = 0 → (∀ kl, left kl = false) → wpList Tryz.prog ops Q rest (a.put o.dst (.tuple #[.bool false])) w)
    (hMore : ∀ (p : ByteArray) (k g : Int) (t : ByteArray) (c : Int) (w' : World) (cnt' : Nat), PlOk (p, (k, g), t) → left (plLit (p, (k, g), t)) = true → (∀ zd, D.atKey (plLit (p, (k, g), t)) zd = i64D c) → w'.ranges Tryz.prog 79 (plainElem Tryz.prog 2) b r n D (fun z => left z && !z.sameKey (plLit (p, (k, g), t))) cnt' → cnt' < cnt →
      w.grownBy w' (some r) → w'.heap.size = w.heap.size → (Instr.entry (.pointer (some ⟨r, 0, none⟩))).run Tryz.prog w' = .ok (.tuple #[.agg #[.string p, .int .i64 k, .int .i64 g, .string t], .int .i64 c]) w' → wpList Tryz.prog ops Q rest (a.put o.dst (.tuple #[.bool true, .agg #[.string p, .int .i64 k, .int .i64 g, .string t], .int .i64 c])) w') :
    wpList Tryz.prog ops Q (o :: rest) a w :=
  wpList_next_ranges w hg it hop 79 placeLaw (plainElem Tryz.prog 2) plV (Value.int .i64) (fun key kl hkey => by obtain ⟨x, -, rfl, -⟩ := pl_key_inv hkey; exact ⟨x, rfl⟩) (fun v y hv => by obtain ⟨c, rfl, _⟩ := plainElem_int_inv Tryz.underlying2 hv; exact ⟨c, rfl⟩)
    b r n D left cnt hit h hDone (fun x c kl y w' cnt' hkey hlk hv hat hrg hlt hgr hsz hen => by
      obtain ⟨x', hx', ex, rfl⟩ := pl_key_inv hkey
      obtain rfl : x = x' := by
        obtain ⟨a1, ⟨a2, a3⟩, a4⟩ := x
        obtain ⟨c1, ⟨c2, c3⟩, c4⟩ := x'
        simp [plV, plCells] at ex
        obtain ⟨rfl, rfl, rfl, rfl⟩ := ex
        rfl
      obtain ⟨c', ec, rfl, hwc⟩ := plainElem_int_inv Tryz.underlying2 hv
      cases ec
      obtain ⟨p, ⟨k, g⟩, t⟩ := x
      exact hMore p k g t c w' cnt' hx' hlk hat hrg hlt hgr hsz hen)
end Go.Proofs.YtalkdddeiebfmaaGreatDoor
