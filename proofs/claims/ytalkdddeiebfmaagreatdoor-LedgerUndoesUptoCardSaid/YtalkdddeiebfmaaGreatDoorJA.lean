/- Laid together: J1 J2 J3 J4 J5. -/
import Derived.Test.YtalkdddeiebfmaaGreatDoorBF
import Derived.DeepKeys4
import Derived.WideKeyEntry
import Derived.Maps.RangeWalk
import Derived.Deep.RegionHeld3
import Derived.Deep.RegionLaw
/- The ledger's maps in memory: what a place reads as, two maps behind a pointer. -/
namespace Go.Proofs.YtalkdddeiebfmaaGreatDoor
open Go.RowKit Go.Maps Go.WideMaps

/-- where a sum stands: path, scope (kind, argument), resource -/
abbrev Pl := ByteArray × (Int × Int) × ByteArray
def plCells (x : Pl) : List Value := [.string x.1, .int .i64 x.2.1.1, .int .i64 x.2.1.2, .string x.2.2]
def plV (x : Pl) : Value := .agg (plCells x).toArray
def in64 (n : Int) : Prop := -9223372036854775808 ≤ n ∧ n ≤ 9223372036854775807
structure PlOk (x : Pl) : Prop where
  path : x.1.size ≤ maxLen
  kind : in64 x.2.1.1
  arg : in64 x.2.1.2
  res : x.2.2.size ≤ maxLen
theorem laidOut : laidOutB Tryz.prog = true := by kernel_rfl
theorem placeRow : (79 : TypeId) < Tryz.prog.types.size := of_decide_eq_true (by kernel_rfl)
theorem placeDeep : Tryz.prog.keyTypeAt 3 79 = true := by kernel_rfl
set_option maxRecDepth 100000 in
theorem placeKL : KeyLaw Tryz.prog 79 := deep_law_laid laidOut (m := 3) (Nat.le_of_ble_eq_true rfl) placeRow placeDeep (by kernel_rfl)
theorem placeLaw : Keyed Tryz.prog 79 := Keyed.of_law placeKL
theorem placeKeyType : Tryz.prog.keyType 79 = true := by kernel_rfl
theorem placeCells : Tryz.prog.cellsOf 79 = 4 := by kernel_rfl
theorem scopeCells : Tryz.prog.cellsOf 47 = 2 := by kernel_rfl
theorem strCells : Tryz.prog.cellsOf 9 = 1 := by kernel_rfl
theorem intCells : Tryz.prog.cellsOf 3 = 1 := by kernel_rfl
def plLits (x : Pl) : List Lit := [.string x.1.data.toList, .int .i64 x.2.1.1, .int .i64 x.2.1.2, .string x.2.2.data.toList]
def plLit (x : Pl) : Lit := .string (keyBytes (plLits x))
theorem in64_wf {n : Int} (h : in64 n) : (Lit.int .i64 n).wf = true := wf64 h.1 h.2
theorem lits_str (d : Nat) (s : ByteArray) (h : s.size ≤ maxLen) : Tryz.prog.keyLits (d + 1) 9 [.string s] = some [.string s.data.toList] := by
  unfold Program.keyLits; simp only [Tryz.underlying9]; rw [if_pos h]
theorem lits_int (d : Nat) (n : Int) (h : in64 n) : Tryz.prog.keyLits (d + 1) 3 [.int .i64 n] = some [.int .i64 n] := by
  unfold Program.keyLits; simp only [Tryz.underlying3]; rw [if_pos ⟨trivial, in64_wf h⟩]
theorem lits_scope (d : Nat) (k a : Int) (hk : in64 k) (ha : in64 a) : Tryz.prog.keyLits (d + 2) 47 [.int .i64 k, .int .i64 a] = some [.int .i64 k, .int .i64 a] := by
  unfold Program.keyLits; simp only [Tryz.underlying47, scopeCells]
  rw [if_pos ⟨rfl, by kernel_rfl⟩]
  simp [intCells, lits_int d _ hk, lits_int d _ ha]
theorem lits_place (d : Nat) (x : Pl) (h : PlOk x) : Tryz.prog.keyLits (d + 3) 79 (plCells x) = some (plLits x) := by
  unfold Program.keyLits; simp only [Tryz.underlying79, placeCells]
  rw [if_pos ⟨rfl, by kernel_rfl⟩]
  simp [plCells, plLits, strCells, scopeCells, lits_str (d + 1) _ h.path, lits_scope d _ _ h.kind h.arg, lits_str (d + 1) _ h.res]
theorem pl_key (x : Pl) (h : PlOk x) : keyOf Tryz.prog 79 (plV x) = some (plLit x) := by
  have hs : Tryz.prog.types.size + 1 = (Tryz.prog.types.size - 2) + 3 := by
    have : 2 < Tryz.prog.types.size := of_decide_eq_true (by kernel_rfl)
    omega
  have hf : (plV x).formed Tryz.prog 79 = true := by
    simp [plV, Value.formed, Tryz.underlying79, placeCells, plCells]
  have hl := lits_place (Tryz.prog.types.size - 2) x h
  rw [← hs] at hl
  have hc : (plV x).cells.toList = plCells x := rfl
  unfold keyOf
  simp only [Tryz.underlying79]
  rw [if_pos (by rw [placeKeyType, hf]; rfl), hc, hl]
  rfl
end Go.Proofs.YtalkdddeiebfmaaGreatDoor
/- 'm[k] += v': the entry that is laid or found, the look-up on either side of it, the store into it. No program in sight. -/
namespace Go.Proofs.YtalkdddeiebfmaaGreatDoor
open Go.RowKit Go.Maps Go.WideMaps Go.WideElems Go.ChangeMaps Go.MapKept

theorem ownsMap_same {H : Type} {P : Program} {k : TypeId} {R : Value → Option (DataW H × List MemPlace)} {w w' : World} {b n : Nat} {D : DataW H} (h : w.ownsMap P k R b n D) (hb : w'.heap[b]? = w.heap[b]?) : w'.ownsMap P k R b n D := by
  obtain ⟨es, clock, h1, h2⟩ := h
  exact ⟨es, clock, hb.trans h1, h2⟩
theorem setBlock_grown (w : World) (b : Nat) (o : Obj) {es : Array MapEntry} {clock : Nat} (hb : w.heap[b]? = some (.map es clock)) : w.grownBy (setBlock w b o) (some b) ∧ (setBlock w b o).heap.size = w.heap.size := by
  refine ⟨⟨rfl, rfl, rfl, by simp [setBlock], fun i _ hi => heap_setBlock_other hb _ (fun e => hi (by rw [e]))⟩, by simp [setBlock]⟩
section
variable {H : Type} {P : Program} {w : World} {t k e : TypeId} {R : Value → Option (DataW H × List MemPlace)} {b n : Nat} {D : DataW H}
theorem entry_ways (h : w.ownsMap P k R b n D) (K : KeyLaw P k) (ht : P.underlying t = some (.map k e)) {z : Value} (hz : ∀ u : World, (zeroValue e).run P u = .ok z u) {zd : DataW H} {zp : List MemPlace} (hzd : R z = some (zd, zp))
    {key : Value} {kl : Lit} (hkey : keyOf P k key = some kl) (hn : n < maxLen) :
    ∃ v0 st w1, (Instr.mapEntry t (.map (some b)) key).run P w = .ok (.tuple #[v0, goInt st]) w1 ∧ w.grownBy w1 (some b) ∧ w1.heap.size = w.heap.size ∧
      (w1.ownsMap P k R b (n + 1) D ∨ (Maps.has D kl = false ∧ w1.ownsMap P k R b (n + 1) (D.put kl zd))) ∧
      ∀ (w2 : World) (val : Value) (d : DataW H) (ps : List MemPlace), w2.heap[b]? = w1.heap[b]? → R val = some (d, ps) →
        ∃ w3, (Instr.entryStore t (.map (some b)) (goInt st) val).run P w2 = .ok () w3 ∧ w3.ownsMap P k R b (n + 1) (D.put kl d) ∧ w2.grownBy w3 (some b) ∧ w3.heap.size = w2.heap.size := by
  have hown := h
  obtain ⟨es, clock, hb, F, hs, rfl⟩ := h
  obtain ⟨v0, st, es1, clock1, hrun, hv0, hst⟩ := entry_then_store K ht hz hb F hkey
  obtain ⟨g1, g2⟩ := setBlock_grown w b (.map es1 clock1) hb
  refine ⟨v0, st, _, hrun, g1, g2, ?_, fun w2 val d ps hw2 hval => ?_⟩
  · rcases K.find w hkey es.toList F.keys with ⟨h1, h2⟩ | ⟨j, e0, h1, h2, h3⟩
    · refine .inr ⟨?_, ?_⟩
      · rcases Maps.fit_look false (Keyed.of_law K) ht (hz w) hb F hkey with ⟨_, _, hat⟩ | ⟨e1, y, he1, hk1, _⟩
        · exact Maps.has_false_of_atKey hat
        · exact absurd hk1 (h2 e1 he1)
      · obtain ⟨w', hu, ho, _⟩ := hown.update (Keyed.of_law K) ht hn hkey hzd
        have e1 : (Instr.mapUpdate t (.map (some b)) key z).run P w = .ok () (setBlock w b (.map (es.push ⟨key, z, clock⟩) (clock + 1))) := by
          simp [Instr.mapUpdate, run_underlying ht, MapKept.run_getObj_map hb, K.check w false hkey, h1, MapKept.run_setObj_map _ hb, Result.andThen, setBlock]
        have e2 : (Instr.mapEntry t (.map (some b)) key).run P w = .ok (.tuple #[z, goInt clock]) (setBlock w b (.map (es.push ⟨key, z, clock⟩) (clock + 1))) := by
          simp [Instr.mapEntry, run_underlying ht, MapKept.run_getObj_map hb, K.check w false hkey, h1, hz, MapKept.run_setObj_map _ hb, Result.andThen, setBlock]
        rw [hrun] at e2
        injection e2 with _ e3
        rw [hu] at e1
        injection e1 with _ e4
        rw [e3, ← e4]; exact ho
    · have hj : es[j]? = some e0 := by simpa using h2
      have hsame : es.modify j (fun e => { e with key := key }) = es := by
        apply Array.ext'
        rw [Array.toList_modify, modify_eq_set _ _ _ _ h2]
        have : ({ e0 with key := key } : MapEntry) = e0 := by rw [← h3]
        rw [this]
        exact set_self _ _ _ h2
      have e2 : (Instr.mapEntry t (.map (some b)) key).run P w = .ok (.tuple #[e0.val, goInt e0.born]) (setBlock w b (.map es clock)) := by
        simp [Instr.mapEntry, run_underlying ht, MapKept.run_getObj_map hb, K.check w false hkey, h1, hj, h3, K.stays w hkey, hsame, MapKept.run_setObj_map _ hb, Result.andThen, setBlock]
      rw [hrun] at e2
      injection e2 with _ e3
      rw [e3]
      exact .inl ((ownsMap_same hown (by rw [heap_setBlock_same hb]; exact hb.symm)).mono (Nat.le_succ _))
  · have hw2' : w2.heap[b]? = some (.map es1 clock1) := by rw [hw2, heap_setBlock_same hb]
    obtain ⟨es', clock', hr1, hr2⟩ := hst w2 val hw2'
    obtain ⟨w', hu, ho, _⟩ := hown.update (Keyed.of_law K) ht hn hkey hval
    rw [hr2] at hu
    injection hu with _ hu
    obtain ⟨g3, g4⟩ := setBlock_grown w2 b (.map es' clock') hw2'
    refine ⟨_, hr1, ?_, g3, g4⟩
    rw [← hu] at ho
    exact ownsMap_same ho (by rw [heap_setBlock_same hw2', heap_setBlock_same hb])
end

/-- two places whose texts are one are one -/
theorem plLit_inj {x y : Pl} (hx : PlOk x) (hy : PlOk y) (h : plLit x = plLit y) : x = y := by
  have h1 := pl_key x hx
  rw [h] at h1
  have h2 := placeLaw.inj h1 (pl_key y hy)
  obtain ⟨a, ⟨b, c⟩, d⟩ := x
  obtain ⟨a', ⟨b', c'⟩, d'⟩ := y
  simp [plV, plCells] at h2
  obtain ⟨rfl, rfl, rfl, rfl⟩ := h2
  rfl
theorem wf_in64 {n : Int} (h : (Lit.int .i64 n).wf = true) : in64 n := by
  simp [Lit.wf, IntKind.min, IntKind.max, IntKind.bits, IntKind.signed] at h
  exact ⟨by omega, by omega⟩
theorem lits_str_inv (d : Nat) {a : Value} {l : List Lit} (h : Tryz.prog.keyLits (d + 1) 9 [a] = some l) : ∃ s, a = .string s ∧ s.size ≤ maxLen := by
  cases a <;> unfold Program.keyLits at h <;> simp [Tryz.underlying9] at h
  exact ⟨_, rfl, h.1⟩
theorem lits_int_inv (d : Nat) {a : Value} {l : List Lit} (h : Tryz.prog.keyLits (d + 1) 3 [a] = some l) : ∃ n, a = .int .i64 n ∧ in64 n := by
  cases a <;> unfold Program.keyLits at h <;> simp [Tryz.underlying3] at h
  obtain ⟨⟨rfl, h1⟩, -⟩ := h
  exact ⟨_, rfl, wf_in64 h1⟩
set_option maxRecDepth 100000 in
theorem pl_key_inv {v : Value} {l : Lit} (h : keyOf Tryz.prog 79 v = some l) : ∃ x, PlOk x ∧ v = plV x ∧ l = plLit x := by
  have h0 := h
  unfold keyOf at h
  simp only [Tryz.underlying79] at h
  split at h
  · rename_i hc
    rw [Bool.and_eq_true] at hc
    obtain ⟨ls, hls, -⟩ := Option.map_eq_some_iff.1 h
    cases v with
    | agg cs =>
      have hsz : cs.size = 4 := by
        have := hc.2
        simpa [Value.formed, Tryz.underlying79, placeCells] using this
      obtain ⟨l⟩ := cs
      have hsz' : l.length = 4 := by simpa using hsz
      match l, hsz' with
      | [a, b, c, d], _ =>
        have hs : Tryz.prog.types.size + 1 = (Tryz.prog.types.size - 2) + 3 := by
          have : 2 < Tryz.prog.types.size := of_decide_eq_true (by kernel_rfl)
          omega
        have hls' : Tryz.prog.keyLits ((Tryz.prog.types.size - 2) + 3) 79 [a, b, c, d] = some ls := by rw [← hs]; exact hls
        generalize Tryz.prog.types.size - 2 = n at hls'
        clear hls
        unfold Program.keyLits at hls'
        simp only [Tryz.underlying79, placeCells] at hls'
        rw [if_pos ⟨rfl, by kernel_rfl⟩] at hls'
        simp [strCells, scopeCells, Option.bind_eq_some_iff] at hls'
        obtain ⟨la, ha, -, ⟨lb, hb, -, ⟨ld, hd, -⟩, -⟩, -⟩ := hls'
        unfold Program.keyLits at hb
        simp only [Tryz.underlying47, scopeCells] at hb
        rw [if_pos ⟨rfl, by kernel_rfl⟩] at hb
        simp [intCells, Option.bind_eq_some_iff] at hb
        obtain ⟨l1, hb1, -, ⟨l2, hb2, -⟩, -⟩ := hb
        obtain ⟨s, rfl, h1⟩ := lits_str_inv _ ha
        obtain ⟨r, rfl, h4⟩ := lits_str_inv _ hd
        obtain ⟨m, rfl, h2⟩ := lits_int_inv _ hb1
        obtain ⟨k, rfl, h3⟩ := lits_int_inv _ hb2
        refine ⟨(s, (m, k), r), ⟨h1, h2, h3, h4⟩, rfl, ?_⟩
        have := pl_key (s, (m, k), r) ⟨h1, h2, h3, h4⟩
        exact Option.some.inj (h0.symm.trans this)
    | _ => simp [Value.formed, Tryz.underlying79] at hc
  · cases h

/-- a function turned at one place -/
def upd {α β : Type} [DecidableEq α] (S : α → β) (x : α) (v : β) : α → β := fun y => if y = x then v else S y
theorem upd_same {α β : Type} [DecidableEq α] (S : α → β) (x : α) (v : β) : upd S x v x = v := by simp [upd]
theorem upd_other {α β : Type} [DecidableEq α] (S : α → β) {x y : α} (v : β) (h : y ≠ x) : upd S x v y = S y := by simp [upd, h]
abbrev z64 : DataW Unit := .lit (.int .i64 0)
abbrev i64D (n : Int) : DataW Unit := .lit (.int .i64 n)
/-- a map of sums: at each place S; h: at which places it has an entry -/
structure Sums (w : World) (b n : Nat) (S : Pl → Int) (h : Pl → Bool) : Prop where
  ex : ∃ D : DataW Unit, w.ownsMap Tryz.prog 79 (plainElem Tryz.prog 2) b n D ∧ (∀ x, PlOk x → D.atKey (plLit x) z64 = i64D (S x)) ∧ ∀ x, PlOk x → Maps.has D (plLit x) = h x
theorem Sums.same {w w' : World} {b n : Nat} {S : Pl → Int} {h : Pl → Bool} (k : Sums w b n S h) (hb : w'.heap[b]? = w.heap[b]?) : Sums w' b n S h :=
  let ⟨D, h1, h2, h3⟩ := k.ex; ⟨D, ownsMap_same h1 hb, h2, h3⟩
theorem Sums.lt {w : World} {b n : Nat} {S : Pl → Int} {h : Pl → Bool} (k : Sums w b n S h) : b < w.heap.size := let ⟨_, h1, _⟩ := k.ex; h1.lt
theorem zeroI64' (w : World) : (zeroValue 2).run Tryz.prog w = .ok (.int .i64 0) w := by kernel_rfl
section
variable {w : World} {b n : Nat} {S : Pl → Int} {h : Pl → Bool}
theorem Sums.look (k : Sums w b n S h) {x : Pl} (hx : PlOk x) : (Instr.lookup 74 (.map (some b)) (plV x) false).run Tryz.prog w = .ok (.int .i64 (S x)) w := by
  obtain ⟨D, h1, h2, h3⟩ := k.ex
  obtain ⟨c, hrun, hat, _⟩ := h1.lookup_int placeLaw Tryz.underlying74 Tryz.underlying2 (zeroI64' w) (pl_key x hx)
  have e : c = S x := by
    have := hat.symm.trans (h2 x hx)
    simpa [i64D] using this
  rw [hrun, e]
theorem Sums.put_ {D : DataW Unit} {x : Pl} (hx : PlOk x) (hm : IsMap D) (h2 : ∀ x, PlOk x → D.atKey (plLit x) z64 = i64D (S x)) (h3 : ∀ x, PlOk x → Maps.has D (plLit x) = h x) (v : Int) :
    (∀ y, PlOk y → (D.put (plLit x) (i64D v)).atKey (plLit y) z64 = i64D (upd S x v y)) ∧ ∀ y, PlOk y → Maps.has (D.put (plLit x) (i64D v)) (plLit y) = upd h x true y := by
  refine ⟨fun y hy => ?_, fun y hy => ?_⟩
  · by_cases e : y = x
    · subst e; rw [upd_same, atKey_put_same hm (placeLaw.key (pl_key y hy))]
    · rw [upd_other _ _ e, atKey_put_other (fun e2 => e (plLit_inj hy hx e2)), h2 y hy]
  · by_cases e : y = x
    · subst e; rw [upd_same, has_put_same hm (placeLaw.key (pl_key y hy))]
    · rw [upd_other _ _ e, has_put_other (fun e2 => e (plLit_inj hy hx e2)), h3 y hy]
/-- 'sums[x] += ..': the entry; the look-up stands on either side of it -/
theorem Sums.entry (k : Sums w b n S h) {x : Pl} (hx : PlOk x) (hn : n < maxLen) :
    ∃ v0 st w1, (Instr.mapEntry 74 (.map (some b)) (plV x)).run Tryz.prog w = .ok (.tuple #[v0, goInt st]) w1 ∧ w.grownBy w1 (some b) ∧ w1.heap.size = w.heap.size ∧ (∃ h1, Sums w1 b (n + 1) S h1) ∧
      ∀ (w2 : World) (v : Int), in64 v → w2.heap[b]? = w1.heap[b]? → ∃ w3, (Instr.entryStore 74 (.map (some b)) (goInt st) (.int .i64 v)).run Tryz.prog w2 = .ok () w3 ∧ Sums w3 b (n + 1) (upd S x v) (upd h x true) ∧ w2.grownBy w3 (some b) ∧ w3.heap.size = w2.heap.size := by
  obtain ⟨D, h1, h2, h3⟩ := k.ex
  obtain ⟨v0, st, w1, r1, r2, r3, r4, r5⟩ := entry_ways h1 placeKL Tryz.underlying74 (z := .int .i64 0) (fun u => zeroI64' u) (plainElem_int Tryz.underlying2 (by decide)) (pl_key x hx) hn
  refine ⟨v0, st, w1, r1, r2, r3, ?_, fun w2 v hv hw2 => ?_⟩
  · rcases r4 with r4 | ⟨r4, r6⟩
    · exact ⟨h, D, r4, h2, h3⟩
    · refine ⟨upd h x true, _, r6, fun y hy => ?_, (Sums.put_ hx h1.isMap h2 h3 0).2⟩
      have hS : S x = 0 := by
        have := (h2 x hx).symm.trans (atKey_of_not_has r4 z64)
        simpa [i64D] using this
      rw [(Sums.put_ hx h1.isMap h2 h3 0).1 y hy]
      by_cases e : y = x
      · subst e; rw [upd_same, hS]
      · rw [upd_other _ _ e]
  · obtain ⟨w3, q1, q2, q3, q4⟩ := r5 w2 (.int .i64 v) (i64D v) [] hw2 (plainElem_int Tryz.underlying2 (in64_wf hv))
    exact ⟨w3, q1, ⟨_, q2, (Sums.put_ hx h1.isMap h2 h3 v).1, (Sums.put_ hx h1.isMap h2 h3 v).2⟩, q3, q4⟩
theorem Sums.drop (k : Sums w b n S h) {x : Pl} (hx : PlOk x) (ty : TypeId) : ∃ w', (Builtin.delete_ #[74, 79] ty #[.map (some b), plV x]).run Tryz.prog w = .ok (.tuple #[]) w' ∧ Sums w' b n (upd S x 0) (upd h x false) ∧ w.grownBy w' (some b) ∧ w'.heap.size = w.heap.size := by
  obtain ⟨D, h1, h2, h3⟩ := k.ex
  obtain ⟨w', r1, r2, r3⟩ := h1.drop placeLaw Tryz.underlying74 (pl_key x hx) ty
  refine ⟨w', r1, ⟨_, r2, fun y hy => ?_, fun y hy => ?_⟩, r3.grown, ?_⟩
  · by_cases e : y = x
    · subst e; rw [upd_same, atKey_del_same]
    · rw [upd_other _ _ e, atKey_del_other (fun e2 => e (plLit_inj hy hx e2)), h2 y hy]
  · by_cases e : y = x
    · subst e; rw [upd_same, has_del_same]
    · rw [upd_other _ _ e, has_del_other (fun e2 => e (plLit_inj hy hx e2)), h3 y hy]
  · obtain ⟨es, clock, es', clock', hb, rfl⟩ := r3
    simp [setBlock]
end
end Go.Proofs.YtalkdddeiebfmaaGreatDoor
/- The ledger in memory: both maps behind a pointer; New, Used, Count. -/
namespace Go.Proofs.YtalkdddeiebfmaaGreatDoor
open Go.RowKit Go.Maps Go.WideMaps

def StOk (s : ByteArray) : Prop := s.size ≤ maxLen
theorem st_key (s : ByteArray) (h : StOk s) : keyOf Tryz.prog 9 (.string s) = some (.string s.data.toList) := key_of _ s (data_mkB s).symm (by rw [data_len]; exact h)
theorem stLit_inj {s t : ByteArray} (h : Lit.string s.data.toList = Lit.string t.data.toList) : s = t := bytes_inj (by injection h)
/-- a map of counts -/
structure Cnts (w : World) (b n : Nat) (C : ByteArray → Int) (h : ByteArray → Bool) : Prop where
  ex : ∃ D : DataW Unit, w.ownsMap Tryz.prog 9 (plainElem Tryz.prog 3) b n D ∧ (∀ x, StOk x → D.atKey (.string x.data.toList) z64 = i64D (C x)) ∧ ∀ x, StOk x → Maps.has D (.string x.data.toList) = h x
theorem Cnts.same {w w' : World} {b n : Nat} {S : ByteArray → Int} {h : ByteArray → Bool} (k : Cnts w b n S h) (hb : w'.heap[b]? = w.heap[b]?) : Cnts w' b n S h :=
  let ⟨D, h1, h2, h3⟩ := k.ex; ⟨D, ownsMap_same h1 hb, h2, h3⟩
theorem Cnts.lt {w : World} {b n : Nat} {S : ByteArray → Int} {h : ByteArray → Bool} (k : Cnts w b n S h) : b < w.heap.size := let ⟨_, h1, _⟩ := k.ex; h1.lt
theorem zeroInt' (w : World) : (zeroValue 3).run Tryz.prog w = .ok (.int .i64 0) w := by kernel_rfl
section
variable {w : World} {b n : Nat} {C : ByteArray → Int} {h : ByteArray → Bool}
theorem Cnts.look (k : Cnts w b n C h) {x : ByteArray} (hx : StOk x) : (Instr.lookup 75 (.map (some b)) (.string x) false).run Tryz.prog w = .ok (.int .i64 (C x)) w := by
  obtain ⟨D, h1, h2, h3⟩ := k.ex
  obtain ⟨c, hrun, hat, _⟩ := h1.lookup_int strLaw Tryz.underlying75 Tryz.underlying3 (zeroInt' w) (st_key x hx)
  have e : c = C x := by
    have := hat.symm.trans (h2 x hx)
    simpa [i64D] using this
  rw [hrun, e]
theorem Cnts.store (k : Cnts w b n C h) {x : ByteArray} (hx : StOk x) (hn : n < maxLen) {v : Int} (hv : in64 v) :
    ∃ w', (Instr.mapUpdate 75 (.map (some b)) (.string x) (.int .i64 v)).run Tryz.prog w = .ok () w' ∧ Cnts w' b (n + 1) (upd C x v) (upd h x true) ∧ w.grownBy w' (some b) ∧ w'.heap.size = w.heap.size := by
  obtain ⟨D, h1, h2, h3⟩ := k.ex
  obtain ⟨w', r1, r2, r3⟩ := h1.store strLaw Tryz.underlying75 hn (st_key x hx) (plainElem_int Tryz.underlying3 (in64_wf hv))
  have hk := strLaw.key (st_key x hx)
  refine ⟨w', r1, ⟨_, r2, fun y hy => ?_, fun y hy => ?_⟩, r3.grown, ?_⟩
  · by_cases e : y = x
    · subst e; rw [upd_same, atKey_put_same h1.isMap hk]
    · rw [upd_other _ _ e, atKey_put_other (fun e2 => e (stLit_inj e2)), h2 y hy]
  · by_cases e : y = x
    · subst e; rw [upd_same, has_put_same h1.isMap hk]
    · rw [upd_other _ _ e, has_put_other (fun e2 => e (stLit_inj e2)), h3 y hy]
  · obtain ⟨es, clock, es', clock', hb, rfl⟩ := r3
    simp [Go.ChangeMaps.setBlock]
theorem Cnts.drop (k : Cnts w b n C h) {x : ByteArray} (hx : StOk x) (ty : TypeId) : ∃ w', (Builtin.delete_ #[75, 9] ty #[.map (some b), .string x]).run Tryz.prog w = .ok (.tuple #[]) w' ∧ Cnts w' b n (upd C x 0) (upd h x false) ∧ w.grownBy w' (some b) ∧ w'.heap.size = w.heap.size := by
  obtain ⟨D, h1, h2, h3⟩ := k.ex
  obtain ⟨w', r1, r2, r3⟩ := h1.drop strLaw Tryz.underlying75 (st_key x hx) ty
  refine ⟨w', r1, ⟨_, r2, fun y hy => ?_, fun y hy => ?_⟩, r3.grown, ?_⟩
  · by_cases e : y = x
    · subst e; rw [upd_same, atKey_del_same]
    · rw [upd_other _ _ e, atKey_del_other (fun e2 => e (stLit_inj e2)), h2 y hy]
  · by_cases e : y = x
    · subst e; rw [upd_same, has_del_same]
    · rw [upd_other _ _ e, has_del_other (fun e2 => e (stLit_inj e2)), h3 y hy]
  · obtain ⟨es, clock, es', clock', hb, rfl⟩ := r3
    simp [Go.ChangeMaps.setBlock]
end
/-- a ledger: the blocks of its struct and its two maps; an entry stands just where a sum or count is not 0 -/
structure IsLed (w : World) (g b1 b2 n : Nat) (S : Pl → Int) (C : ByteArray → Int) : Prop where
  box : w.heap[g]? = some (.cells #[.map (some b1), .map (some b2)] 77 (0, 0))
  sums : Sums w b1 n S fun x => decide (S x ≠ 0)
  cnts : Cnts w b2 n C fun x => decide (C x ≠ 0)
  ne12 : b1 ≠ b2
section
variable {w w' : World} {g b1 b2 n : Nat} {S : Pl → Int} {C : ByteArray → Int}
abbrev ledB (g b1 b2 : Nat) : Nat → Prop := fun k => k = g ∨ k = b1 ∨ k = b2
theorem IsLed.move (k : IsLed w g b1 b2 n S C) (hm : ∀ i, ledB g b1 b2 i → i < w.heap.size → w'.heap[i]? = w.heap[i]?) : IsLed w' g b1 b2 n S C :=
  ⟨(hm g (.inl rfl) (Array.getElem?_eq_some_iff.1 k.box).1).trans k.box, k.sums.same (hm b1 (.inr (.inl rfl)) k.sums.lt), k.cnts.same (hm b2 (.inr (.inr rfl)) k.cnts.lt), k.ne12⟩
theorem IsLed.below (k : IsLed w g b1 b2 n S C) (hb : Below w.heap.size w w') : IsLed w' g b1 b2 n S C := k.move fun i _ hi => hb.block i hi
theorem IsLed.lt (k : IsLed w g b1 b2 n S C) : ∀ i, ledB g b1 b2 i → i < w.heap.size := by
  rintro i (rfl | rfl | rfl)
  · exact (Array.getElem?_eq_some_iff.1 k.box).1
  · exact k.sums.lt
  · exact k.cnts.lt
theorem IsLed.turn {T : Nat → Prop} (k : IsLed w g b1 b2 n S C) (ht : Turn T w w') (hs : ∀ i, ledB g b1 b2 i → ¬ T i) : IsLed w' g b1 b2 n S C := k.move fun i hi hl => ht.block i hl (hs i hi)
theorem IsLed.g0 (k : IsLed w g b1 b2 n S C) : w.cell? ⟨g, 0, none⟩ = some (.map (some b1)) := cell_of_row _ _ _ _ _ _ k.box
theorem IsLed.g1 (k : IsLed w g b1 b2 n S C) : w.cell? ⟨g, 1, none⟩ = some (.map (some b2)) := cell_of_row _ _ _ _ _ _ k.box
end
set_option maxRecDepth 100000 in
theorem new_led (w : World) : Calls Tryz.prog 20 #[] w fun e w' => ∃ g b1 b2, e = .returned (.pointer (some ⟨g, 0, none⟩)) ∧ IsLed w' g b1 b2 0 (fun _ => 0) (fun _ => 0) ∧ (∀ i, ledB g b1 b2 i → w.heap.size ≤ i) ∧ Below w.heap.size w w' := by
  have hmm := @run_makeMap Tryz.prog
  have h1 := World.ownsMap_made (H := Unit) w Tryz.prog 79 (plainElem Tryz.prog 2)
  have h2 := World.ownsMap_made (H := Unit) (w.alloc (.map #[] 0)) Tryz.prog 9 (plainElem Tryz.prog 3)
  have HK := Lib.hid (show IsLed (((w.alloc (.map #[] 0)).alloc (.map #[] 0)).alloc (.cells #[.map (some w.heap.size), .map (some (w.heap.size + 1))] 77)) (w.heap.size + 2) w.heap.size (w.heap.size + 1) 0 (fun _ => 0) (fun _ => 0) from by
    refine ⟨?_, ⟨.map [], (h1.alloc _).alloc _, fun x _ => rfl, fun x _ => rfl⟩, ⟨.map [], ?_, fun x _ => rfl, fun x _ => rfl⟩, by omega⟩
    · have := heap_alloc_new ((w.alloc (.map #[] 0)).alloc (.map #[] 0)) (.cells #[.map (some w.heap.size), .map (some (w.heap.size + 1))] 77)
      simpa using this
    · have := h2.alloc (.cells #[.map (some w.heap.size), .map (some (w.heap.size + 1))] 77)
      simpa using this)
  have HB := Lib.hid ((((Below.refl w.heap.size w).alloc (Nat.le_refl _) (.map #[] 0)).alloc (by simp) (.map #[] 0)).alloc (by simp; omega) (.cells #[.map (some w.heap.size), .map (some (w.heap.size + 1))] 77))
  clear h1 h2
  go_enter Tryz.func20, Tryz.ntmps20
  go_wp2
  go_ret
  refine ⟨_, _, _, rfl, HK.out, ?_, HB.out⟩
  rintro i (rfl | rfl | rfl) <;> omega
end Go.Proofs.YtalkdddeiebfmaaGreatDoor
/- The ledger's judges: above, under, judged. -/
namespace Go.Proofs.YtalkdddeiebfmaaGreatDoor
open Go.RowKit Go.Maps Go.WideMaps

/-- a share: where, how much -/
abbrev Sh := Pl × Int
def Sh.cells (s : Sh) : List Value := [.string s.1.1, .int .i64 s.1.2.1.1, .int .i64 s.1.2.1.2, .string s.1.2.2, .int .i64 s.2]
def kSh : Kn Sh := Kn.enc Sh.cells 5 (by omega) (fun _ => rfl) (fun x u hu => by simp [Sh.cells] at hu; rcases hu with rfl | rfl | rfl | rfl | rfl <;> rfl)
theorem kSh_plain : kSh.Plain := Kn.plain_enc
theorem shElem : Elem Tryz.prog 96 137 kSh 56 :=
  Elem.mk_ (z := .agg #[.string ⟨#[]⟩, .int .i64 0, .int .i64 0, .string ⟨#[]⟩, .int .i64 0]) Tryz.underlying96 (by kernel_rfl) rfl (by omega)
structure ShOk (s : Sh) : Prop where
  pl : PlOk s.1
  pos : 0 ≤ s.2
  hi : s.2 ≤ 9223372036854775807
section
variable {g b1 b2 n : Nat} {S : Pl → Int} {C : ByteArray → Int}
theorem IsLed.look1 {w : World} (k : IsLed w g b1 b2 n S C) {x : Pl} (hx : PlOk x) (q : Nat) : (Instr.lookup 74 (.map (some b1)) (.agg #[.string x.1, .int .i64 x.2.1.1, .int .i64 x.2.1.2, .string x.2.2]) false).run Tryz.prog (w.drewN q) = .ok (.int .i64 (S x)) (w.drewN q) :=
  (k.below (below_drewN (Below.refl w.heap.size w) q)).sums.look hx
set_option maxRecDepth 100000 in
theorem above_at (s : Sh) (hs : ShOk s) (w : World) (k : IsLed w g b1 b2 n S C) (z : Int) (hz : Hid (S s.1 = z)) : Calls Tryz.prog 43 #[.pointer (some ⟨g, 0, none⟩), .agg #[.string s.1.1, .int .i64 s.1.2.1.1, .int .i64 s.1.2.1.2, .string s.1.2.2, .int .i64 s.2]] w fun e w' =>
    e = .returned (.int .i64 (if z > 9223372036854775807 - s.2 then 7 else 0)) ∧ Below w.heap.size w w' := by
  have hb0 := (Below.refl w.heap.size w).alloc (Nat.le_refl _) (.cells #[.string s.1.1, .int .i64 s.1.2.1.1, .int .i64 s.1.2.1.2, .string s.1.2.2, .int .i64 s.2] 137)
  have k1 := k.below hb0
  have hlk := fun q => k1.look1 hs.pl q
  rw [hz.out] at hlk
  obtain ⟨⟨p, ⟨a, b⟩, r⟩, v⟩ := s
  have h1 := hs.pos
  have h2 := hs.hi
  simp only at h1 h2 hlk hb0 k1 ⊢
  have g0 := k1.g0
  have hsub : wrap64 (9223372036854775807 - v) = 9223372036854775807 - v := by unfold wrap64; omega
  have hsub2 : IntKind.i64.wrap (9223372036854775807 - v) = 9223372036854775807 - v := by rw [IntKind.wrap_i64]; omega
  have HB0 := Lib.hid hb0
  clear hs k k1 hb0 hz
  by_cases h : z > 9223372036854775807 - v
  · have e1 : decide (z > 9223372036854775807 - v) = true := by simpa using h
    rw [if_pos h]
    clear h
    go_enter Tryz.func43, Tryz.ntmps43
    go_wp2
    go_quiet (fail)
    go_wp2
    go_ret
    exact ⟨rfl, below_drewN HB0.out _⟩
  · have e1 : decide (z > 9223372036854775807 - v) = false := by simpa using h
    rw [if_neg h]
    clear h
    go_enter Tryz.func43, Tryz.ntmps43
    go_wp2
    go_quiet (fail)
    go_wp2
    go_ret
    exact ⟨rfl, below_drewN HB0.out _⟩
set_option maxRecDepth 100000 in
theorem under_at (s : Sh) (hs : ShOk s) (w : World) (k : IsLed w g b1 b2 n S C) (z : Int) (hz : Hid (S s.1 = z)) : Calls Tryz.prog 77 #[.pointer (some ⟨g, 0, none⟩), .agg #[.string s.1.1, .int .i64 s.1.2.1.1, .int .i64 s.1.2.1.2, .string s.1.2.2, .int .i64 s.2]] w fun e w' =>
    e = .returned (.int .i64 (if z < s.2 then 170 else 0)) ∧ Below w.heap.size w w' := by
  have hb0 := (Below.refl w.heap.size w).alloc (Nat.le_refl _) (.cells #[.string s.1.1, .int .i64 s.1.2.1.1, .int .i64 s.1.2.1.2, .string s.1.2.2, .int .i64 s.2] 137)
  have k1 := k.below hb0
  have hlk := fun q => k1.look1 hs.pl q
  rw [hz.out] at hlk
  obtain ⟨⟨p, ⟨a, b⟩, r⟩, v⟩ := s
  have h1 := hs.pos
  have h2 := hs.hi
  simp only at h1 h2 hlk hb0 k1 ⊢
  have g0 := k1.g0
  have HB0 := Lib.hid hb0
  clear hs k k1 hb0 hz
  by_cases h : z < v
  · have e1 : decide (z < v) = true := by simpa using h
    rw [if_pos h]
    clear h
    go_enter Tryz.func77, Tryz.ntmps77
    go_wp2
    go_quiet (fail)
    go_wp2
    go_ret
    exact ⟨rfl, below_drewN HB0.out _⟩
  · have e1 : decide (z < v) = false := by simpa using h
    rw [if_neg h]
    clear h
    go_enter Tryz.func77, Tryz.ntmps77
    go_wp2
    go_quiet (fail)
    go_wp2
    go_ret
    exact ⟨rfl, below_drewN HB0.out _⟩

/-- the first refusal -/
def judgeL (J : Sh → Int) : List Sh → Int
  | [] => 0
  | s :: l => if J s = 0 then judgeL J l else J s
structure ShAt (w : World) (a : Addr) (x : Sh) : Prop where
  c0 : w.cell? a = some (.string x.1.1)
  c1 : w.cell? ⟨a.block, a.off + 1, none⟩ = some (.int .i64 x.1.2.1.1)
  c2 : w.cell? ⟨a.block, a.off + 2, none⟩ = some (.int .i64 x.1.2.1.2)
  c3 : w.cell? ⟨a.block, a.off + 3, none⟩ = some (.string x.1.2.2)
  c4 : w.cell? ⟨a.block, a.off + 4, none⟩ = some (.int .i64 x.2)
theorem sh_at {P : Nat → Prop} {w : World} {A : Option Addr} {xs : List Sh} (h : Row kSh P w A xs) (i : Nat) (hi : i < xs.length) : ∃ a, A = some a ∧ P a.block ∧ ShAt w (a.add (i * 5)) xs[i] := by
  obtain ⟨a, cs, hA, hP, hr, hc⟩ := h.at_ i hi
  obtain rfl : cs = xs[i].cells := hr
  exact ⟨a, hA, hP, hc 0 _ rfl, by rw [← add_off _ _ 1 (by omega)]; exact hc 1 _ rfl, by rw [← add_off _ _ 2 (by omega)]; exact hc 2 _ rfl, by rw [← add_off _ _ 3 (by omega)]; exact hc 3 _ rfl, by rw [← add_off _ _ 4 (by omega)]; exact hc 4 _ rfl⟩
set_option maxRecDepth 100000 in
theorem judged_above0 (J : Sh → Int) (A : Option Addr) (c : Nat) (P : Nat → Prop) (L : List Sh) (w : World) (k : IsLed w g b1 b2 n S C) (hr : Row kSh P w A L) (hl : L.length ≤ 9223372036854775807)
    (hf : ∀ s ∈ L, ∀ W, IsLed W g b1 b2 n S C → Calls Tryz.prog 43 #[.pointer (some ⟨g, 0, none⟩), .agg #[.string s.1.1, .int .i64 s.1.2.1.1, .int .i64 s.1.2.1.2, .string s.1.2.2, .int .i64 s.2]] W fun e w' => e = .returned (.int .i64 (J s)) ∧ Below W.heap.size W w') :
    Calls Tryz.prog 42 #[.pointer (some ⟨g, 0, none⟩), .slice A L.length c, .func (.func 43) #[] #[]] w fun e w' => e = .returned (.int .i64 (judgeL J L)) ∧ Below w.heap.size w w' := by
  have HF := Lib.hid hf
  have HR := Lib.hid hr
  have HK := Lib.hid k
  clear hf hr k
  go_enter Tryz.func42, Tryz.ntmps42
  go_wp2
  go_loopw [12] (fun iv wr => ∃ i : Nat, iv = .int .i64 i ∧ i ≤ L.length ∧ Hid (Below w.heap.size w wr) ∧ Hid (judgeL J L = judgeL J (L.drop i))) (fun iv _ => L.length - (intOf iv).toNat)
  case atStart => exact ⟨0, rfl, Nat.zero_le _, Below.refl _ _, by simp [Hid]⟩
  case round =>
    obtain ⟨i, rfl, hi, hb, hj⟩ := hrel
    obtain ⟨wo, rfl⟩ : ∃ wo, wo = wr := ⟨_, rfl⟩
    by_cases hlt : i < L.length
    · obtain ⟨a, rfl, -, l0, l1, l2, l3, l4⟩ := sh_at (HR.out.below hb.out) i hlt
      obtain ⟨x, hx⟩ : ∃ x, L[i] = x := ⟨_, rfl⟩
      have hxm : x ∈ L := by rw [← hx]; exact List.getElem_mem _
      have HSTEP := Lib.hid (show judgeL J (L.drop i) = if J x = 0 then judgeL J (L.drop (i + 1)) else J x by rw [List.drop_eq_getElem_cons hlt, hx]; rfl)
      rw [hx] at l0 l1 l2 l3 l4
      obtain ⟨⟨p, ⟨m, r⟩, t⟩, v⟩ := x
      simp only at l0 l1 l2 l3 l4
      have hbx := (Below.refl wo.heap.size wo).alloc (Nat.le_refl _) (.cells #[.string p, .int .i64 m, .int .i64 r, .string t, .int .i64 v] 137)
      have HB1 := Lib.hid (hb.out.trans (hbx.mono hb.out.size))
      have HC := Lib.hid (HF.out _ hxm _ (HK.out.below HB1.out))
      obtain ⟨z, hz⟩ : ∃ z, J ((p, (m, r), t), v) = z := ⟨_, rfl⟩
      rw [hz] at HC HSTEP
      have hlti : (i : Int) < (L.length : Int) := by omega
      clear hz hx hxm hbx
      by_cases hz0 : z = 0
      · subst hz0
        rw [if_pos rfl] at HSTEP
        go_wp2_with (go_at_call 43; refine HC.out.mono ?_; rintro e w2 ⟨rfl, hb2⟩; have HB2 := Lib.hid hb2; clear hb2)
        go_roundw
        case rel => exact ⟨i + 1, by go_num, hlt, HB1.out.trans (HB2.out.mono HB1.out.size), hj.out.trans HSTEP.out⟩
        case measure => simp [intOf]; omega
      · rw [if_neg hz0] at HSTEP
        have e1 : (z != 0) = true := by simpa using hz0
        have e2 : (z == 0) = false := by simpa using hz0
        clear hz0
        go_wp2_with (go_at_call 43; refine HC.out.mono ?_; rintro e w2 ⟨rfl, hb2⟩; have HB2 := Lib.hid hb2; clear hb2)
        go_ret
        exact ⟨by rw [hj.out, HSTEP.out]; rfl, HB1.out.trans (HB2.out.mono HB1.out.size)⟩
    · have hge : ¬ ((i : Int) < (L.length : Int)) := by omega
      have HE := Lib.hid (show judgeL J L = 0 by rw [hj.out, List.drop_eq_nil_of_le (by omega)]; rfl)
      have HB := Lib.hid hb.out
      clear hb hj
      go_wp2
      go_ret
      exact ⟨by rw [HE.out]; rfl, HB.out⟩
set_option maxRecDepth 100000 in
theorem judged_under0 (J : Sh → Int) (A : Option Addr) (c : Nat) (P : Nat → Prop) (L : List Sh) (w : World) (k : IsLed w g b1 b2 n S C) (hr : Row kSh P w A L) (hl : L.length ≤ 9223372036854775807)
    (hf : ∀ s ∈ L, ∀ W, IsLed W g b1 b2 n S C → Calls Tryz.prog 77 #[.pointer (some ⟨g, 0, none⟩), .agg #[.string s.1.1, .int .i64 s.1.2.1.1, .int .i64 s.1.2.1.2, .string s.1.2.2, .int .i64 s.2]] W fun e w' => e = .returned (.int .i64 (J s)) ∧ Below W.heap.size W w') :
    Calls Tryz.prog 42 #[.pointer (some ⟨g, 0, none⟩), .slice A L.length c, .func (.func 77) #[] #[]] w fun e w' => e = .returned (.int .i64 (judgeL J L)) ∧ Below w.heap.size w w' := by
  have HF := Lib.hid hf
  have HR := Lib.hid hr
  have HK := Lib.hid k
  clear hf hr k
  go_enter Tryz.func42, Tryz.ntmps42
  go_wp2
  go_loopw [12] (fun iv wr => ∃ i : Nat, iv = .int .i64 i ∧ i ≤ L.length ∧ Hid (Below w.heap.size w wr) ∧ Hid (judgeL J L = judgeL J (L.drop i))) (fun iv _ => L.length - (intOf iv).toNat)
  case atStart => exact ⟨0, rfl, Nat.zero_le _, Below.refl _ _, by simp [Hid]⟩
  case round =>
    obtain ⟨i, rfl, hi, hb, hj⟩ := hrel
    obtain ⟨wo, rfl⟩ : ∃ wo, wo = wr := ⟨_, rfl⟩
    by_cases hlt : i < L.length
    · obtain ⟨a, rfl, -, l0, l1, l2, l3, l4⟩ := sh_at (HR.out.below hb.out) i hlt
      obtain ⟨x, hx⟩ : ∃ x, L[i] = x := ⟨_, rfl⟩
      have hxm : x ∈ L := by rw [← hx]; exact List.getElem_mem _
      have HSTEP := Lib.hid (show judgeL J (L.drop i) = if J x = 0 then judgeL J (L.drop (i + 1)) else J x by rw [List.drop_eq_getElem_cons hlt, hx]; rfl)
      rw [hx] at l0 l1 l2 l3 l4
      obtain ⟨⟨p, ⟨m, r⟩, t⟩, v⟩ := x
      simp only at l0 l1 l2 l3 l4
      have hbx := (Below.refl wo.heap.size wo).alloc (Nat.le_refl _) (.cells #[.string p, .int .i64 m, .int .i64 r, .string t, .int .i64 v] 137)
      have HB1 := Lib.hid (hb.out.trans (hbx.mono hb.out.size))
      have HC := Lib.hid (HF.out _ hxm _ (HK.out.below HB1.out))
      obtain ⟨z, hz⟩ : ∃ z, J ((p, (m, r), t), v) = z := ⟨_, rfl⟩
      rw [hz] at HC HSTEP
      have hlti : (i : Int) < (L.length : Int) := by omega
      clear hz hx hxm hbx
      by_cases hz0 : z = 0
      · subst hz0
        rw [if_pos rfl] at HSTEP
        go_wp2_with (go_at_call 77; refine HC.out.mono ?_; rintro e w2 ⟨rfl, hb2⟩; have HB2 := Lib.hid hb2; clear hb2)
        go_roundw
        case rel => exact ⟨i + 1, by go_num, hlt, HB1.out.trans (HB2.out.mono HB1.out.size), hj.out.trans HSTEP.out⟩
        case measure => simp [intOf]; omega
      · rw [if_neg hz0] at HSTEP
        have e1 : (z != 0) = true := by simpa using hz0
        have e2 : (z == 0) = false := by simpa using hz0
        clear hz0
        go_wp2_with (go_at_call 77; refine HC.out.mono ?_; rintro e w2 ⟨rfl, hb2⟩; have HB2 := Lib.hid hb2; clear hb2)
        go_ret
        exact ⟨by rw [hj.out, HSTEP.out]; rfl, HB1.out.trans (HB2.out.mono HB1.out.size)⟩
    · have hge : ¬ ((i : Int) < (L.length : Int)) := by omega
      have HE := Lib.hid (show judgeL J L = 0 by rw [hj.out, List.drop_eq_nil_of_le (by omega)]; rfl)
      have HB := Lib.hid hb.out
      clear hb hj
      go_wp2
      go_ret
      exact ⟨by rw [HE.out]; rfl, HB.out⟩
end
end Go.Proofs.YtalkdddeiebfmaaGreatDoor
/- The ledger's move: shares are added or taken away. -/
namespace Go.Proofs.YtalkdddeiebfmaaGreatDoor
open Go.RowKit Go.Maps Go.WideMaps

def addC (b : Int) (C : ByteArray → Int) (l : List ByteArray) : ByteArray → Int := l.foldl (fun C p => upd C p (C p + b)) C
def addS (b : Int) (S : Pl → Int) (l : List Sh) : Pl → Int := l.foldl (fun S s => upd S s.1 (S s.1 + b * s.2)) S
theorem addC_snoc (b : Int) (C : ByteArray → Int) (l : List ByteArray) (p : ByteArray) : addC b C (l ++ [p]) = upd (addC b C l) p (addC b C l p + b) := by simp [addC, List.foldl_append]
theorem addS_snoc (b : Int) (S : Pl → Int) (l : List Sh) (s : Sh) : addS b S (l ++ [s]) = upd (addS b S l) s.1 (addS b S l s.1 + b * s.2) := by simp [addS, List.foldl_append]
theorem addS_out (b : Int) : ∀ (l : List Sh) (S : Pl → Int) (x : Pl), x ∉ l.map Prod.fst → addS b S l x = S x
  | [], _, _, _ => rfl
  | s :: l, S, x, h => by
    have h1 : x ≠ s.1 := fun e => h (by simp [e])
    have h2 : x ∉ l.map Prod.fst := fun e => h (by simp at e ⊢; exact .inr e)
    show addS b (upd S s.1 (S s.1 + b * s.2)) l x = S x
    rw [addS_out b l _ x h2, upd_other _ _ h1]
theorem addC_bound (b : Int) (hb : -1 ≤ b ∧ b ≤ 1) : ∀ (l : List ByteArray) (C : ByteArray → Int) (m : Int), (∀ x, -m ≤ C x ∧ C x ≤ m) → ∀ x, -(m + l.length) ≤ addC b C l x ∧ addC b C l x ≤ m + l.length
  | [], C, m, h, x => by simpa [addC] using h x
  | p :: l, C, m, h, x => by
    have := addC_bound b hb l (upd C p (C p + b)) (m + 1) (fun y => by
      unfold upd
      have h1 := h y
      have h2 := h p
      split <;> omega) x
    have e : addC b C (p :: l) = addC b (upd C p (C p + b)) l := rfl
    rw [e]
    simp only [List.length_cons]
    omega
theorem Sums.mono {w : World} {b n m : Nat} {S : Pl → Int} {h : Pl → Bool} (k : Sums w b n S h) (hm : n ≤ m) : Sums w b m S h := let ⟨D, h1, h2⟩ := k.ex; ⟨D, h1.mono hm, h2⟩
theorem Cnts.mono {w : World} {b n m : Nat} {S : ByteArray → Int} {h : ByteArray → Bool} (k : Cnts w b n S h) (hm : n ≤ m) : Cnts w b m S h := let ⟨D, h1, h2⟩ := k.ex; ⟨D, h1.mono hm, h2⟩
theorem Sums.to {w : World} {b n : Nat} {S S' : Pl → Int} {h h' : Pl → Bool} (k : Sums w b n S h) (e1 : S = S') (e2 : h = h') : Sums w b n S' h' := by subst e1; subst e2; exact k
theorem Cnts.to {w : World} {b n : Nat} {S S' : ByteArray → Int} {h h' : ByteArray → Bool} (k : Cnts w b n S h) (e1 : S = S') (e2 : h = h') : Cnts w b n S' h' := by subst e1; subst e2; exact k
theorem upd_put {α : Type} [DecidableEq α] (S : α → Int) (x : α) {v : Int} (hv : v ≠ 0) : upd (fun y => decide (S y ≠ 0)) x true = fun y => decide (upd S x v y ≠ 0) := by
  funext y
  unfold upd
  split
  · simp [hv]
  · rfl
theorem upd_del {α : Type} [DecidableEq α] (S : α → Int) (x : α) : upd (upd (fun y => decide (S y ≠ 0)) x true) x false = fun y => decide (upd S x 0 y ≠ 0) := by
  funext y
  unfold upd
  split
  · simp
  · rfl
theorem upd_upd {α β : Type} [DecidableEq α] (S : α → β) (x : α) (v u : β) : upd (upd S x v) x u = upd S x u := by
  funext y
  unfold upd
  split <;> rfl
section
variable {w w' : World} {g b1 b2 n : Nat} {S : Pl → Int} {C : ByteArray → Int}
abbrev mapB (b1 b2 : Nat) : Nat → Prop := fun k => k = b1 ∨ k = b2
/-- behind a store into the counts -/
theorem IsLed.cnt (k : IsLed w g b1 b2 n S C) {x : ByteArray} (hx : StOk x) {v : Int} (hv : in64 v) (hn : n + 1 < maxLen) (ty : TypeId) : ∃ w1, (Instr.mapUpdate 75 (.map (some b2)) (.string x) (.int .i64 v)).run Tryz.prog w = .ok () w1 ∧ w1.cell? ⟨g, 1, none⟩ = some (.map (some b2)) ∧
    (Instr.lookup 75 (.map (some b2)) (.string x) false).run Tryz.prog w1 = .ok (.int .i64 v) w1 ∧ (v ≠ 0 → IsLed w1 g b1 b2 (n + 1) S (upd C x v)) ∧ Turn (mapB b1 b2) w w1 ∧ (v = 0 → ∃ w2, (Builtin.delete_ #[75, 9] ty #[.map (some b2), .string x]).run Tryz.prog w1 = .ok (.tuple #[]) w2 ∧ IsLed w2 g b1 b2 (n + 1) S (upd C x v) ∧ Turn (mapB b1 b2) w w2) := by
  obtain ⟨w1, r1, r2, r3, r4⟩ := k.cnts.store hx (by omega) hv
  have hg : g ≠ b2 := by
    intro e
    have h1 := k.box
    obtain ⟨D, ⟨es, clock, hb, _⟩, _⟩ := k.cnts.ex
    rw [e, hb] at h1
    cases h1
  have t1 : Turn (mapB b1 b2) w w1 := (Turn.refl _ w).grown r3 fun j hj => by cases hj; exact .inl (.inr rfl)
  have hbx : w1.heap[g]? = some (.cells #[.map (some b1), .map (some b2)] 77 (0, 0)) := (r3.block g (k.lt g (.inl rfl)) (fun e => hg (Option.some.inj e))).trans k.box
  have hs1 : Sums w1 b1 n S fun x => decide (S x ≠ 0) := k.sums.same (r3.block b1 k.sums.lt (fun e => k.ne12 (Option.some.inj e)))
  refine ⟨w1, r1, cell_of_row _ _ _ _ _ _ hbx, by rw [r2.look hx, upd_same], fun hv0 => ⟨hbx, hs1.mono (Nat.le_succ _), r2.to rfl (upd_put C x hv0), k.ne12⟩, t1, fun hv0 => ?_⟩
  obtain ⟨w2, q1, q2, q3, q4⟩ := r2.drop hx ty
  subst hv0
  refine ⟨w2, q1, ⟨(q3.block g (Nat.lt_of_lt_of_le (k.lt g (.inl rfl)) (by omega)) (fun e => hg (Option.some.inj e))).trans hbx, (hs1.same (q3.block b1 hs1.lt (fun e => k.ne12 (Option.some.inj e)))).mono (Nat.le_succ _), q2.to (upd_upd C x 0 0) (upd_del C x), k.ne12⟩, t1.grown q3 fun j hj => by cases hj; exact .inl (.inr rfl)⟩
end

/-- a ledger among whose entries of sums some may be 0 -/
structure LedH (w : World) (g b1 b2 n : Nat) (S : Pl → Int) (C : ByteArray → Int) (h : Pl → Bool) : Prop where
  box : w.heap[g]? = some (.cells #[.map (some b1), .map (some b2)] 77 (0, 0))
  sums : Sums w b1 n S h
  cnts : Cnts w b2 n C fun x => decide (C x ≠ 0)
  ne12 : b1 ≠ b2
section
variable {w w' : World} {g b1 b2 n : Nat} {S : Pl → Int} {C : ByteArray → Int} {h : Pl → Bool}
theorem IsLed.toH (k : IsLed w g b1 b2 n S C) : LedH w g b1 b2 n S C fun x => decide (S x ≠ 0) := ⟨k.box, k.sums, k.cnts, k.ne12⟩
theorem LedH.led {S' : Pl → Int} (k : LedH w g b1 b2 n S C h) (e1 : S = S') (e : h = fun x => decide (S' x ≠ 0)) : IsLed w g b1 b2 n S' C := ⟨k.box, k.sums.to e1 e, k.cnts, k.ne12⟩
theorem LedH.below (k : LedH w g b1 b2 n S C h) (hb : Below w.heap.size w w') : LedH w' g b1 b2 n S C h :=
  ⟨(hb.block g (Array.getElem?_eq_some_iff.1 k.box).1).trans k.box, k.sums.same (hb.block b1 k.sums.lt), k.cnts.same (hb.block b2 k.cnts.lt), k.ne12⟩
theorem LedH.drewN (k : LedH w g b1 b2 n S C h) (q : Nat) : LedH (w.drewN q) g b1 b2 n S C h := k.below (below_drewN (Below.refl w.heap.size w) q)
theorem LedH.g0 (k : LedH w g b1 b2 n S C h) : w.cell? ⟨g, 0, none⟩ = some (.map (some b1)) := cell_of_row _ _ _ _ _ _ k.box
theorem LedH.gne (k : LedH w g b1 b2 n S C h) : g ≠ b1 := by
  intro e
  have h1 := k.box
  obtain ⟨D, ⟨es, clock, hb, _⟩, _⟩ := k.sums.ex
  rw [e, hb] at h1
  cases h1
theorem LedH.look (k : LedH w g b1 b2 n S C h) {x : Pl} (hx : PlOk x) (q : Nat) : (Instr.lookup 74 (.map (some b1)) (.agg #[.string x.1, .int .i64 x.2.1.1, .int .i64 x.2.1.2, .string x.2.2]) false).run Tryz.prog (w.drewN q) = .ok (.int .i64 (S x)) (w.drewN q) := (k.drewN q).sums.look hx
theorem LedH.entry (k : LedH w g b1 b2 n S C h) {x : Pl} (hx : PlOk x) {v : Int} (hv : in64 v) (hn : n < maxLen) :
    ∃ (v0 : Value) (st : Int) (w1 w3 : World), (Instr.mapEntry 74 (.map (some b1)) (.agg #[.string x.1, .int .i64 x.2.1.1, .int .i64 x.2.1.2, .string x.2.2])).run Tryz.prog w = .ok (.tuple #[v0, .int .i64 st]) w1 ∧ w.grownBy w1 (some b1) ∧
      (Instr.lookup 74 (.map (some b1)) (.agg #[.string x.1, .int .i64 x.2.1.1, .int .i64 x.2.1.2, .string x.2.2]) false).run Tryz.prog w1 = .ok (.int .i64 (S x)) w1 ∧ w1.cell? ⟨g, 0, none⟩ = some (.map (some b1)) ∧
      (Instr.entryStore 74 (.map (some b1)) (.int .i64 st) (.int .i64 v)).run Tryz.prog w1 = .ok () w3 ∧ LedH w3 g b1 b2 (n + 1) (upd S x v) C (upd h x true) ∧ w.grownBy w3 (some b1) ∧ Turn (mapB b1 b2) w w3 := by
  obtain ⟨v0, st, w1, r1, r2, r3, ⟨h1, r4⟩, r5⟩ := k.sums.entry hx hn
  obtain ⟨w3, q1, q2, q3, q4⟩ := r5 w1 v hv rfl
  have hg := k.gne
  have hgl : g < w.heap.size := (Array.getElem?_eq_some_iff.1 k.box).1
  have hb1 : w1.heap[g]? = some (.cells #[.map (some b1), .map (some b2)] 77 (0, 0)) := (r2.block g hgl (fun e => hg (Option.some.inj e))).trans k.box
  have hb3 : w3.heap[g]? = some (.cells #[.map (some b1), .map (some b2)] 77 (0, 0)) := (q3.block g (by omega) (fun e => hg (Option.some.inj e))).trans hb1
  have hc1 := k.cnts.same (r2.block b2 k.cnts.lt (fun e => k.ne12 (Option.some.inj e).symm))
  have hc3 := hc1.same (q3.block b2 hc1.lt (fun e => k.ne12 (Option.some.inj e).symm))
  have hgr : w.grownBy w3 (some b1) := r2.andThen q3 fun j hj => by cases hj; exact .inr rfl
  exact ⟨v0, st, w1, w3, r1, r2, r4.look hx, cell_of_row _ _ _ _ _ _ hb1, q1, ⟨hb3, q2, hc3.mono (Nat.le_succ _), k.ne12⟩, hgr, (Turn.refl _ w).grown hgr fun j hj => by cases hj; exact .inl (.inl rfl)⟩
theorem LedH.drop (k : LedH w g b1 b2 n S C h) {x : Pl} (hx : PlOk x) (ty : TypeId) : ∃ w1, (Builtin.delete_ #[74, 79] ty #[.map (some b1), .agg #[.string x.1, .int .i64 x.2.1.1, .int .i64 x.2.1.2, .string x.2.2]]).run Tryz.prog w = .ok (.tuple #[]) w1 ∧
    LedH w1 g b1 b2 n (upd S x 0) C (upd h x false) ∧ Turn (mapB b1 b2) w w1 := by
  obtain ⟨w1, q1, q2, q3, q4⟩ := k.sums.drop hx ty
  have hg := k.gne
  have hgl : g < w.heap.size := (Array.getElem?_eq_some_iff.1 k.box).1
  exact ⟨w1, q1, ⟨(q3.block g hgl (fun e => hg (Option.some.inj e))).trans k.box, q2, k.cnts.same (q3.block b2 k.cnts.lt (fun e => k.ne12 (Option.some.inj e).symm)), k.ne12⟩, (Turn.refl _ w).grown q3 fun j hj => by cases hj; exact .inl (.inl rfl)⟩
end
end Go.Proofs.YtalkdddeiebfmaaGreatDoor
