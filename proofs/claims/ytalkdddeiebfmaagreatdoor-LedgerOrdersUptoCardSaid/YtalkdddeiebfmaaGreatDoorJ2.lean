/- 'm[k] += v': the entry that is laid or found, the look-up on either side of it, the store into it. No program in sight. -/
import Derived.Test.YtalkdddeiebfmaaGreatDoorJ1
namespace Go.Proofs.YtalkdddeiebfmaaGreatDoor
open Go.RowKit Go.Maps Go.WideMaps Go.WideElems Go.ChangeMaps Go.MapKept

theorem ownsMap_same {H : Type} {P : Program} {k : TypeId} {R : Value → Option (DataW H × List MemPlace)} {w w' : World} {b n : Nat} {D : DataW H} (h : w.ownsMap P k R b n D) (hb : w'.heap[b]? = w.heap[b]?) : w'.ownsMap P k R b n D := by
  obtain ⟨es, clock, h1, h2⟩ := h
  exact ⟨es, clock, hb.trans h1, h2⟩
theorem setBlock_grown (w : World) (b : Nat) (o : Obj) {es : Array MapEntry} {clock : Nat} (hb : w.heap[b]? = some (.map es clock)) : w.grownBy (setBlock w b o) (some b) ∧ (setBlock w b o).heap.size = w.heap.size := by
  refine ⟨⟨rfl, rfl, rfl, by simp [setBlock], fun i _ hi => heap_setBlock_other hb _ (fun e => hi (by rw [e]))⟩, by simp [setBlock]⟩
section
variable {H : Type} {P : Program} {w : World} {t k e : TypeId} {R : Value → Option (DataW H × List MemPlace)} {b n : Nat} {D : DataW H}
theorem entry_ways (h : w.ownsMap P k R b n D) (K : KeyLaw P k) (ht : P.underlying t = some (.map k e)) {z : Value} (hz : ∀ u : World, (zeroValue e).run P u = .ok z u) {zd : DataW H} {zp : List MemPlace} (hzd : R z = some (zd, zp))
    {key : Value} {kl : Lit} (hkey : keyOf P k key = some kl) (hn : n < maxLen) :
    ∃ v0 st w1, (Instr.mapEntry t (.map (some b)) key).run P w = .ok (.tuple #[v0, goInt st]) w1 ∧ w.grownBy w1 (some b) ∧ w1.heap.size = w.heap.size ∧
      (w1.ownsMap P k R b (n + 1) D ∨ (Maps.has D kl = false ∧ w1.ownsMap P k R b (n + 1) (D.put kl zd))) ∧
      ∀ (w2 : World) (val : Value) (d : DataW H) (ps : List MemPlace), w2.heap[b]? = w1.heap[b]? → R val = some (d, ps) →
        ∃ w3, (Instr.entryStore t (.map (some b)) (goInt st) val).run P w2 = .ok () w3 ∧ w3.ownsMap P k R b (n + 1) (D.put kl d) ∧ w2.grownBy w3 (some b) ∧ w3.heap.size = w2.heap.size := by
  have hown := h
  obtain ⟨es, clock, hb, F, hs, rfl⟩ := h
  obtain ⟨v0, st, es1, clock1, hrun, hv0, hst⟩ := entry_then_store K ht hz hb F hkey
  obtain ⟨g1, g2⟩ := setBlock_grown w b (.map es1 clock1) hb
  refine ⟨v0, st, _, hrun, g1, g2, ?_, fun w2 val d ps hw2 hval => ?_⟩
  · rcases K.find w hkey es.toList F.keys with ⟨h1, h2⟩ | ⟨j, e0, h1, h2, h3⟩
    · refine .inr ⟨?_, ?_⟩
      · rcases Maps.fit_look false (Keyed.of_law K) ht (hz w) hb F hkey with ⟨_, _, hat⟩ | ⟨e1, y, he1, hk1, _⟩
        · exact Maps.has_false_of_atKey hat
        · exact absurd hk1 (h2 e1 he1)
      · obtain ⟨w', hu, ho, _⟩ := hown.update (Keyed.of_law K) ht hn hkey hzd
        have e1 : (Instr.mapUpdate t (.map (some b)) key z).run P w = .ok () (setBlock w b (.map (es.push ⟨key, z, clock⟩) (clock + 1))) := by
          simp [Instr.mapUpdate, run_underlying ht, MapKept.run_getObj_map hb, K.check w false hkey, h1, MapKept.run_setObj_map _ hb, Result.andThen, setBlock]
        have e2 : (Instr.mapEntry t (.map (some b)) key).run P w = .ok (.tuple #[z, goInt clock]) (setBlock w b (.map (es.push ⟨key, z, clock⟩) (clock + 1))) := by
          simp [Instr.mapEntry, run_underlying ht, MapKept.run_getObj_map hb, K.check w false hkey, h1, hz, MapKept.run_setObj_map _ hb, Result.andThen, setBlock]
        rw [hrun] at e2
        injection e2 with _ e3
        rw [hu] at e1
        injection e1 with _ e4
        rw [e3, ← e4]; exact ho
    · have hj : es[j]? = some e0 := by simpa using h2
      have hsame : es.modify j (fun e => { e with key := key }) = es := by
        apply Array.ext'
        rw [Array.toList_modify, modify_eq_set _ _ _ _ h2]
        have : ({ e0 with key := key } : MapEntry) = e0 := by rw [← h3]
        rw [this]
        exact set_self _ _ _ h2
      have e2 : (Instr.mapEntry t (.map (some b)) key).run P w = .ok (.tuple #[e0.val, goInt e0.born]) (setBlock w b (.map es clock)) := by
        simp [Instr.mapEntry, run_underlying ht, MapKept.run_getObj_map hb, K.check w false hkey, h1, hj, h3, K.stays w hkey, hsame, MapKept.run_setObj_map _ hb, Result.andThen, setBlock]
      rw [hrun] at e2
      injection e2 with _ e3
      rw [e3]
      exact .inl ((ownsMap_same hown (by rw [heap_setBlock_same hb]; exact hb.symm)).mono (Nat.le_succ _))
  · have hw2' : w2.heap[b]? = some (.map es1 clock1) := by rw [hw2, heap_setBlock_same hb]
    obtain ⟨es', clock', hr1, hr2⟩ := hst w2 val hw2'
    obtain ⟨w', hu, ho, _⟩ := hown.update (Keyed.of_law K) ht hn hkey hval
    rw [hr2] at hu
    injection hu with _ hu
    obtain ⟨g3, g4⟩ := setBlock_grown w2 b (.map es' clock') hw2'
    refine ⟨_, hr1, ?_, g3, g4⟩
    rw [← hu] at ho
    exact ownsMap_same ho (by rw [heap_setBlock_same hw2', heap_setBlock_same hb])
end

/-- two places whose texts are one are one -/
theorem plLit_inj {x y : Pl} (hx : PlOk x) (hy : PlOk y) (h : plLit x = plLit y) : x = y := by
  have h1 := pl_key x hx
  rw [h] at h1
  have h2 := placeLaw.inj h1 (pl_key y hy)
  obtain ⟨a, ⟨b, c⟩, d⟩ := x
  obtain ⟨a', ⟨b', c'⟩, d'⟩ := y
  simp [plV, plCells] at h2
  obtain ⟨rfl, rfl, rfl, rfl⟩ := h2
  rfl
theorem wf_in64 {n : Int} (h : (Lit.int .i64 n).wf = true) : in64 n := by
  simp [Lit.wf, IntKind.min, IntKind.max, IntKind.bits, IntKind.signed] at h
  exact ⟨by omega, by omega⟩
theorem lits_str_inv (d : Nat) {a : Value} {l : List Lit} (h : Tryz.prog.keyLits (d + 1) 9 [a] = some l) : ∃ s, a = .string s ∧ s.size ≤ maxLen := by
  cases a <;> unfold Program.keyLits at h <;> simp [Tryz.underlying9] at h
  exact ⟨_, rfl, h.1⟩
theorem lits_int_inv (d : Nat) {a : Value} {l : List Lit} (h : Tryz.prog.keyLits (d + 1) 3 [a] = some l) : ∃ n, a = .int .i64 n ∧ in64 n := by
  cases a <;> unfold Program.keyLits at h <;> simp [Tryz.underlying3] at h
  obtain ⟨⟨rfl, h1⟩, -⟩ := h
  exact ⟨_, rfl, wf_in64 h1⟩
set_option maxRecDepth 100000 in
theorem pl_key_inv {v : Value} {l : Lit} (h : keyOf Tryz.prog 79 v = some l) : ∃ x, PlOk x ∧ v = plV x ∧ l = plLit x := by
  have h0 := h
  unfold keyOf at h
  simp only [Tryz.underlying79] at h
  split at h
  · rename_i hc
    rw [Bool.and_eq_true] at hc
    obtain ⟨ls, hls, -⟩ := Option.map_eq_some_iff.1 h
    cases v with
    | agg cs =>
      have hsz : cs.size = 4 := by
        have := hc.2
        simpa [Value.formed, Tryz.underlying79, placeCells] using this
      obtain ⟨l⟩ := cs
      have hsz' : l.length = 4 := by simpa using hsz
      match l, hsz' with
      | [a, b, c, d], _ =>
        have hs : Tryz.prog.types.size + 1 = (Tryz.prog.types.size - 2) + 3 := by
          have : 2 < Tryz.prog.types.size := of_decide_eq_true (by kernel_rfl)
          omega
        have hls' : Tryz.prog.keyLits ((Tryz.prog.types.size - 2) + 3) 79 [a, b, c, d] = some ls := by rw [← hs]; exact hls
        generalize Tryz.prog.types.size - 2 = n at hls'
        clear hls
        unfold Program.keyLits at hls'
        simp only [Tryz.underlying79, placeCells] at hls'
        rw [if_pos ⟨rfl, by kernel_rfl⟩] at hls'
        simp [strCells, scopeCells, Option.bind_eq_some_iff] at hls'
        obtain ⟨la, ha, -, ⟨lb, hb, -, ⟨ld, hd, -⟩, -⟩, -⟩ := hls'
        unfold Program.keyLits at hb
        simp only [Tryz.underlying47, scopeCells] at hb
        rw [if_pos ⟨rfl, by kernel_rfl⟩] at hb
        simp [intCells, Option.bind_eq_some_iff] at hb
        obtain ⟨l1, hb1, -, ⟨l2, hb2, -⟩, -⟩ := hb
        obtain ⟨s, rfl, h1⟩ := lits_str_inv _ ha
        obtain ⟨r, rfl, h4⟩ := lits_str_inv _ hd
        obtain ⟨m, rfl, h2⟩ := lits_int_inv _ hb1
        obtain ⟨k, rfl, h3⟩ := lits_int_inv _ hb2
        refine ⟨(s, (m, k), r), ⟨h1, h2, h3, h4⟩, rfl, ?_⟩
        have := pl_key (s, (m, k), r) ⟨h1, h2, h3, h4⟩
        exact Option.some.inj (h0.symm.trans this)
    | _ => simp [Value.formed, Tryz.underlying79] at hc
  · cases h

/-- a function turned at one place -/
def upd {α β : Type} [DecidableEq α] (S : α → β) (x : α) (v : β) : α → β := fun y => if y = x then v else S y
theorem upd_same {α β : Type} [DecidableEq α] (S : α → β) (x : α) (v : β) : upd S x v x = v := by simp [upd]
theorem upd_other {α β : Type} [DecidableEq α] (S : α → β) {x y : α} (v : β) (h : y ≠ x) : upd S x v y = S y := by simp [upd, h]
abbrev z64 : DataW Unit := .lit (.int .i64 0)
abbrev i64D (n : Int) : DataW Unit := .lit (.int .i64 n)
/-- a map of sums: at each place S; h: at which places it has an entry -/
structure Sums (w : World) (b n : Nat) (S : Pl → Int) (h : Pl → Bool) : Prop where
  ex : ∃ D : DataW Unit, w.ownsMap Tryz.prog 79 (plainElem Tryz.prog 2) b n D ∧ (∀ x, PlOk x → D.atKey (plLit x) z64 = i64D (S x)) ∧ ∀ x, PlOk x → Maps.has D (plLit x) = h x
theorem Sums.same {w w' : World} {b n : Nat} {S : Pl → Int} {h : Pl → Bool} (k : Sums w b n S h) (hb : w'.heap[b]? = w.heap[b]?) : Sums w' b n S h :=
  let ⟨D, h1, h2, h3⟩ := k.ex; ⟨D, ownsMap_same h1 hb, h2, h3⟩
theorem Sums.lt {w : World} {b n : Nat} {S : Pl → Int} {h : Pl → Bool} (k : Sums w b n S h) : b < w.heap.size := let ⟨_, h1, _⟩ := k.ex; h1.lt
theorem zeroI64' (w : World) : (zeroValue 2).run Tryz.prog w = .ok (.int .i64 0) w := by kernel_rfl
section
variable {w : World} {b n : Nat} {S : Pl → Int} {h : Pl → Bool}
theorem Sums.look (k : Sums w b n S h) {x : Pl} (hx : PlOk x) : (Instr.lookup 74 (.map (some b)) (plV x) false).run Tryz.prog w = .ok (.int .i64 (S x)) w := by
  obtain ⟨D, h1, h2, h3⟩ := k.ex
  obtain ⟨c, hrun, hat, _⟩ := h1.lookup_int placeLaw Tryz.underlying74 Tryz.underlying2 (zeroI64' w) (pl_key x hx)
  have e : c = S x := by
    have := hat.symm.trans (h2 x hx)
    simpa [i64D] using this
  rw [hrun, e]
theorem Sums.put_ {D : DataW Unit} {x : Pl} (hx : PlOk x) (hm : IsMap D) (h2 : ∀ x, PlOk x → D.atKey (plLit x) z64 = i64D (S x)) (h3 : ∀ x, PlOk x → Maps.has D (plLit x) = h x) (v : Int) :
    (∀ y, PlOk y → (D.put (plLit x) (i64D v)).atKey (plLit y) z64 = i64D (upd S x v y)) ∧ ∀ y, PlOk y → Maps.has (D.put (plLit x) (i64D v)) (plLit y) = upd h x true y := by
  refine ⟨fun y hy => ?_, fun y hy => ?_⟩
  · by_cases e : y = x
    · subst e; rw [upd_same, atKey_put_same hm (placeLaw.key (pl_key y hy))]
    · rw [upd_other _ _ e, atKey_put_other (fun e2 => e (plLit_inj hy hx e2)), h2 y hy]
  · by_cases e : y = x
    · subst e; rw [upd_same, has_put_same hm (placeLaw.key (pl_key y hy))]
    · rw [upd_other _ _ e, has_put_other (fun e2 => e (plLit_inj hy hx e2)), h3 y hy]
/-- 'sums[x] += ..': the entry; the look-up stands on either side of it -/
theorem Sums.entry (k : Sums w b n S h) {x : Pl} (hx : PlOk x) (hn : n < maxLen) :
    ∃ v0 st w1, (Instr.mapEntry 74 (.map (some b)) (plV x)).run Tryz.prog w = .ok (.tuple #[v0, goInt st]) w1 ∧ w.grownBy w1 (some b) ∧ w1.heap.size = w.heap.size ∧ (∃ h1, Sums w1 b (n + 1) S h1) ∧
      ∀ (w2 : World) (v : Int), in64 v → w2.heap[b]? = w1.heap[b]? → ∃ w3, (Instr.entryStore 74 (.map (some b)) (goInt st) (.int .i64 v)).run Tryz.prog w2 = .ok () w3 ∧ Sums w3 b (n + 1) (upd S x v) (upd h x true) ∧ w2.grownBy w3 (some b) ∧ w3.heap.size = w2.heap.size := by
  obtain ⟨D, h1, h2, h3⟩ := k.ex
  obtain ⟨v0, st, w1, r1, r2, r3, r4, r5⟩ := entry_ways h1 placeKL Tryz.underlying74 (z := .int .i64 0) (fun u => zeroI64' u) (plainElem_int Tryz.underlying2 (by decide)) (pl_key x hx) hn
  refine ⟨v0, st, w1, r1, r2, r3, ?_, fun w2 v hv hw2 => ?_⟩
  · rcases r4 with r4 | ⟨r4, r6⟩
    · exact ⟨h, D, r4, h2, h3⟩
    · refine ⟨upd h x true, _, r6, fun y hy => ?_, (Sums.put_ hx h1.isMap h2 h3 0).2⟩
      have hS : S x = 0 := by
        have := (h2 x hx).symm.trans (atKey_of_not_has r4 z64)
        simpa [i64D] using this
      rw [(Sums.put_ hx h1.isMap h2 h3 0).1 y hy]
      by_cases e : y = x
      · subst e; rw [upd_same, hS]
      · rw [upd_other _ _ e]
  · obtain ⟨w3, q1, q2, q3, q4⟩ := r5 w2 (.int .i64 v) (i64D v) [] hw2 (plainElem_int Tryz.underlying2 (in64_wf hv))
    exact ⟨w3, q1, ⟨_, q2, (Sums.put_ hx h1.isMap h2 h3 v).1, (Sums.put_ hx h1.isMap h2 h3 v).2⟩, q3, q4⟩
theorem Sums.drop (k : Sums w b n S h) {x : Pl} (hx : PlOk x) (ty : TypeId) : ∃ w', (Builtin.delete_ #[74, 79] ty #[.map (some b), plV x]).run Tryz.prog w = .ok (.tuple #[]) w' ∧ Sums w' b n (upd S x 0) (upd h x false) ∧ w.grownBy w' (some b) ∧ w'.heap.size = w.heap.size := by
  obtain ⟨D, h1, h2, h3⟩ := k.ex
  obtain ⟨w', r1, r2, r3⟩ := h1.drop placeLaw Tryz.underlying74 (pl_key x hx) ty
  refine ⟨w', r1, ⟨_, r2, fun y hy => ?_, fun y hy => ?_⟩, r3.grown, ?_⟩
  · by_cases e : y = x
    · subst e; rw [upd_same, atKey_del_same]
    · rw [upd_other _ _ e, atKey_del_other (fun e2 => e (plLit_inj hy hx e2)), h2 y hy]
  · by_cases e : y = x
    · subst e; rw [upd_same, has_del_same]
    · rw [upd_other _ _ e, has_del_other (fun e2 => e (plLit_inj hy hx e2)), h3 y hy]
  · obtain ⟨es, clock, es', clock', hb, rfl⟩ := r3
    simp [setBlock]
end
end Go.Proofs.YtalkdddeiebfmaaGreatDoor
