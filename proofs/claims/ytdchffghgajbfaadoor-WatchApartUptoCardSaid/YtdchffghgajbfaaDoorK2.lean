/- Kinds: append onto a row of the call's own. No program in sight. -/
import Derived.Test.YtdchffghgajbfaaDoorK
import Derived.Lib.SliceRun
import Derived.Laws.Slices
namespace Go.Proofs.YtdchffghgajbfaaDoor
open Go.RowKit

/-- A kind whose reading looks into no block. -/
def Kn.Plain {α : Type} (d : Kn α) : Prop := ∀ (P Q : Nat → Prop) (w w' : World) (x : α) (cs : List Value), d.R P w x cs → d.R Q w' x cs
/-- A kind whose cells are reckoned from the value alone: numbers, texts, structs of these. -/
def Kn.enc {α : Type} (f : α → List Value) (n : Nat) (hn : 0 < n) (hl : ∀ x, (f x).length = n) (h1 : ∀ x, ∀ u ∈ f x, u.oneCell' = true) : Kn α where
  sz := n
  pos := hn
  R := fun _ _ x cs => cs = f x
  len := by rintro _ _ x _ rfl; exact hl x
  one := by rintro _ _ x _ rfl; exact h1 x
  mono := fun _ h => h
  keep := fun _ h => h
  lt := fun h => h
theorem Kn.plain_enc {α : Type} {f : α → List Value} {n : Nat} {hn : 0 < n} {hl : ∀ x, (f x).length = n} {h1 : ∀ x, ∀ u ∈ f x, u.oneCell' = true} : (Kn.enc f n hn hl h1).Plain := fun _ _ _ _ _ _ h => h
theorem Kn.plain_scalar {α : Type} (enc : α → Value) (h1 : ∀ x, (enc x).oneCell' = true) : (Kn.scalar enc h1).Plain := fun _ _ _ _ _ _ h => h
theorem Kn.plain_int (k : IntKind) : (Kn.int k).Plain := fun _ _ _ _ _ _ h => h
theorem Kn.plain_str : Kn.str.Plain := fun _ _ _ _ _ _ h => h
theorem Kn.plain_bool : Kn.bool.Plain := fun _ _ _ _ _ _ h => h
theorem Kn.plain_pair {α β : Type} {a : Kn α} {b : Kn β} (ha : a.Plain) (hb : b.Plain) : (Kn.pair a b).Plain := by
  rintro P Q w w' x cs ⟨c1, c2, rfl, h1, h2⟩
  exact ⟨c1, c2, rfl, ha _ _ _ _ _ _ h1, hb _ _ _ _ _ _ h2⟩
theorem Kn.plain_iso {α β : Type} {d : Kn α} (f : β → α) (h : d.Plain) : (Kn.iso d f).Plain := fun P Q w w' x cs hx => h P Q w w' (f x) cs hx

section
variable {α : Type} {d : Kn α} {e base : Nat} {P Q : Nat → Prop} {w w' : World} {v : Value} {xs : List α}
theorem Flat.plain (hd : d.Plain) {cells : List Value} (h : Flat d P w xs cells) : Flat d Q w' xs cells := ⟨h.1, fun i hi => hd _ _ _ _ _ _ (h.2 i hi)⟩
theorem Own.plain (hd : d.Plain) (h : Own d e base P w v xs) : Own d e base Q w v xs := let ⟨cs, h1, h2⟩ := h; ⟨cs, h1, h2.plain hd⟩
end

section
variable {P : Program} (w : World)
theorem run_append_nil' (base : Nat) (t ty e : TypeId) (i : TypeInfo) (size : Nat) (ht : P.underlying t = some (.slice e)) (hi : P.info? e = some i)
    (v : Value) (n : Nat) (xs : List Value) (hown : w.ownsRow base e size v n xs) (c : Nat) : (Builtin.append_ #[t, t] ty #[v, .slice none 0 c]).run P w = .ok v w := by
  rcases hown.2 with ⟨rfl, rfl⟩ | ⟨g, cap, cur, rfl, _, _, hnc, _⟩
  · simp [Builtin.append_, run_underlying ht, sizeOf, typeInfo, hi, Builtin.lenOf, Builtin.firstCells]
  · simp [Builtin.append_, run_underlying ht, sizeOf, typeInfo, hi, Builtin.lenOf, Builtin.firstCells, hnc, storeCells]

/-- What an append leaves. -/
structure Appended {α : Type} (d : Kn α) (e base : Nat) (R : Nat → Prop) (w w' : World) (v v' : Value) (zs : List α) : Prop where
  own : Own d e base R w' v' zs
  grown : w.grownBy w' v.ownBlock
  at_ : v'.ownBlock = v.ownBlock ∨ v'.ownBlock = some w.heap.size

theorem run_append_kn {α : Type} (d : Kn α) (base : Nat) (t ty e : TypeId) (i : TypeInfo) (z : Value) (bytes : Nat) (ht : P.underlying t = some (.slice e)) (hi : P.info? e = some i) (hz : i.zero = some z)
    (hsize : i.size = d.sz) (hby : i.bytes = bytes) (hzs : z.cells.size = d.sz)
    (R S : Nat → Prop) (v : Value) (xs ys : List α) (hown : Own d e base R w v xs) (hR : ∀ k, R k → v.ownBlock ≠ some k) (hS : ∀ k, S k → v.ownBlock ≠ some k)
    (A : Option Addr) (c : Nat) (hr : Row d (fun k => S k ∨ d.Plain ∨ False) w A ys) (hpl : d.Plain ∨ Row d S w A ys)
    (h63 : xs.length + ys.length ≤ maxLen) (hbytes : (xs.length + ys.length) * bytes ≤ 140737488355328) (hbase : base ≤ w.heap.size) :
    ∃ v' w', (Builtin.append_ #[t, t] ty #[v, .slice A ys.length c]).run P w = .ok v' w' ∧ Appended d e base (fun k => R k ∨ S k) w w' v v' (xs ++ ys) := by
  obtain ⟨cells, ho, hf⟩ := hown
  have keepR : ∀ {w' : World}, w.grownBy w' v.ownBlock → ∀ k, R k → k < w.heap.size → w'.heap[k]? = w.heap[k]? := fun hg k hk hl => hg.block k hl (fun e => hR k hk e.symm)
  have keepS : ∀ {w' : World}, w.grownBy w' v.ownBlock → ∀ k, S k → k < w.heap.size → w'.heap[k]? = w.heap[k]? := fun hg k hk hl => hg.block k hl (fun e => hS k hk e.symm)
  by_cases hy : ys = []
  · subst hy
    rcases A with _ | ad
    · exact ⟨v, w, run_append_nil' w base t ty e i d.sz ht hi v _ _ ho c, by simpa using ⟨cells, ho, hf.mono fun k hk => .inl hk⟩, World.grownBy.refl w _, .inl rfl⟩
    · obtain ⟨v', w', hrun, h2, h3, _, h5⟩ := run_append_own_at (P := P) w base t ty e i z d.sz bytes ht hi hz hsize hby hzs d.pos v xs.length cells ho ad 0 c [] (by simp) (by simp) (by simp) (by simpa using h63) (by simpa using hbytes) hbase
      refine ⟨v', w', hrun, ?_, h3, h5⟩
      rw [List.append_nil]
      exact ⟨cells, by simpa using h2, (hf.keep (keepR h3)).mono fun k hk => .inl hk⟩
  · obtain ⟨ad, news, hA, hnl, hnc, h1, hfl⟩ : ∃ ad news, A = some ad ∧ news.length = ys.length * d.sz ∧ (∀ j u, news[j]? = some u → w.cell? (ad.add j) = some u) ∧ (∀ u ∈ news, u.oneCell' = true) ∧ (∀ w', w.grownBy w' v.ownBlock → Flat d S w' ys news) := by
      rcases hpl with hp | hrow
      · obtain ⟨ad, e, _, news, hf2, hc2⟩ := hr hy
        exact ⟨ad, news, e, hf2.1, hc2, hf2.one, fun w' _ => hf2.plain hp⟩
      · obtain ⟨ad, e, _, news, hf2, hc2⟩ := hrow hy
        exact ⟨ad, news, e, hf2.1, hc2, hf2.one, fun w' hg => hf2.keep (keepS hg)⟩
    subst hA
    obtain ⟨v', w', hrun, h2, h3, _, h5⟩ := run_append_own_at (P := P) w base t ty e i z d.sz bytes ht hi hz hsize hby hzs d.pos v xs.length cells ho ad ys.length c news hnl hnc h1 h63 hbytes hbase
    refine ⟨v', w', hrun, ⟨cells ++ news, by simpa using h2, Flat.append ((hf.keep (keepR h3)).mono fun k hk => .inl hk) ((hfl w' h3).mono fun k hk => .inr hk)⟩, h3, h5⟩
end

/-- What the program's tables say of a slice type's elements. -/
structure Elem {α : Type} (P : Program) (t e : TypeId) (d : Kn α) (bytes : Nat) : Prop where
  pos : 0 < bytes
  und : P.underlying t = some (.slice e)
  info : ∃ i z, P.info? e = some i ∧ i.zero = some z ∧ i.size = d.sz ∧ i.bytes = bytes ∧ z.cells.size = d.sz
theorem Elem.mk_ {α : Type} {P : Program} {t e : TypeId} {d : Kn α} {bytes : Nat} {z : Value} (hu : P.underlying t = some (.slice e)) (h : (P.info? e).map (fun i => (i.zero, i.size, i.bytes)) = some (some z, d.sz, bytes)) (hz : z.cells.size = d.sz) (hp : 0 < bytes) : Elem P t e d bytes := by
  obtain ⟨i, h1, h2, h3, h4⟩ := info_parts h
  exact ⟨hp, hu, i, z, h1, h2, h3, h4, hz⟩

/-- 's[l:]' -/
theorem run_cut_from {α : Type} {P : Program} {t e : TypeId} {d : Kn α} {bytes : Nat} (I : Elem P t e d bytes) (A : Option Addr) (len cap l : Nat) (h : l ≤ len) (w : World) :
    (Instr.slice t (.slice A len cap) (some (.int .i64 l)) none none).run P w = .ok (.slice (if cap = l then A else A.map (·.add (l * d.sz))) (len - l) (cap - l)) w := by
  obtain ⟨i, z, h1, h2, h3, h4, h5⟩ := I.info
  simp [Instr.slice, run_underlying I.und, Instr.sliceBounds, run_sliceBound (P := P) w .i64 (l : Int) len .sliceB (by omega) (by omega), sizeOf, typeInfo, h1, h3]
/-- 's[:m]' -/
theorem run_cut_to {α : Type} {P : Program} {t e : TypeId} {d : Kn α} {bytes : Nat} (I : Elem P t e d bytes) (A : Option Addr) (len cap m : Nat) (h : m ≤ cap) (w : World) :
    (Instr.slice t (.slice A len cap) none (some (.int .i64 m)) none).run P w = .ok (.slice A m cap) w := by
  obtain ⟨i, z, h1, h2, h3, h4, h5⟩ := I.info
  have ha : (if cap = 0 then A else A.map (·.add (0 * i.size))) = A := by
    split
    · rfl
    · cases A <;> simp [Addr.add]
  simp [Instr.slice, run_underlying I.und, Instr.sliceBounds, run_sliceBound (P := P) w .i64 (m : Int) cap .sliceAcap (by omega) (by omega), sizeOf, typeInfo, h1, ← h3]
  cases A <;> simp [Addr.add]
section
variable {P : Program} {w : World} {α : Type} {d : Kn α} {t e : TypeId} {bytes : Nat}
theorem len_ok {n : Nat} (hp : 0 < bytes) (h : n * bytes ≤ 140737488355328) : n ≤ maxLen := by
  have : n * 1 ≤ n * bytes := Nat.mul_le_mul_left n hp
  unfold maxLen; omega
/-- a row of elements that look nowhere -/
theorem run_app_plain (I : Elem P t e d bytes) (hd : d.Plain) (base : Nat) (ty : TypeId) {R S : Nat → Prop} {v : Value} {xs ys : List α} (hown : Own d e base R w v xs)
    {A : Option Addr} {c : Nat} (hr : Row d S w A ys) (hb : (xs.length + ys.length) * bytes ≤ 140737488355328) (hbase : base ≤ w.heap.size) :
    ∃ v' w', (Builtin.append_ #[t, t] ty #[v, .slice A ys.length c]).run P w = .ok v' w' ∧ Appended d e base R w w' v v' (xs ++ ys) := by
  obtain ⟨i, z, h1, h2, h3, h4, h5⟩ := I.info
  obtain ⟨v', w', hrun, ha⟩ := run_append_kn (P := P) w d base t ty e i z bytes I.und h1 h2 h3 h4 h5 (fun _ => False) (fun _ => False) v xs ys (hown.plain hd) (fun _ h => h.elim) (fun _ h => h.elim) A c (hr.mono fun _ _ => .inr (.inl hd)) (.inl hd) (len_ok I.pos hb) hb hbase
  exact ⟨v', w', hrun, ha.own.plain hd, ha.grown, ha.at_⟩
/-- a row of elements that look into other blocks -/
theorem run_app (I : Elem P t e d bytes) (base : Nat) (ty : TypeId) {R S : Nat → Prop} {v : Value} {xs ys : List α} (hown : Own d e base R w v xs) (hR : ∀ k, R k → v.ownBlock ≠ some k) (hS : ∀ k, S k → v.ownBlock ≠ some k)
    {A : Option Addr} {c : Nat} (hr : Row d S w A ys) (hb : (xs.length + ys.length) * bytes ≤ 140737488355328) (hbase : base ≤ w.heap.size) :
    ∃ v' w', (Builtin.append_ #[t, t] ty #[v, .slice A ys.length c]).run P w = .ok v' w' ∧ Appended d e base (fun k => R k ∨ S k) w w' v v' (xs ++ ys) := by
  obtain ⟨i, z, h1, h2, h3, h4, h5⟩ := I.info
  exact run_append_kn (P := P) w d base t ty e i z bytes I.und h1 h2 h3 h4 h5 R S v xs ys hown hR hS A c (hr.mono fun _ h => .inl h) (.inr hr) (len_ok I.pos hb) hb hbase

variable {ops : Array Oper} {rest : List Oper} {o : Oper} {a : Act} {K : Act → World → Prop} {Q : Exit → Act → World → Prop}
theorem wp_of_run (s x : Operand) (ho : o.op = .call { callee := .builtin .append, args := #[s, x], argTypes := #[t, t] }) {v v' u : Value} {w' : World} (hs : a.eval s = v) (hx : a.eval x = u)
    (hrun : (Builtin.append_ #[t, t] o.type #[v, u]).run P w = .ok v' w') (h : K (a.put o.dst v') w') : o.wp P a w K Q := by
  unfold Oper.wp execOp
  simp only [ho, resolve, invoke, builtin, Sem.run_bind, Sem.run_pure, Result.andThen_ok, List.map_toArray, List.map_cons, List.map_nil, hs, hx, hrun]
  exact h
theorem wpList_app_plain (I : Elem P t e d bytes) (hd : d.Plain) (base : Nat) (hgd : o.guard = none) (s x : Operand) (ho : o.op = .call { callee := .builtin .append, args := #[s, x], argTypes := #[t, t] })
    {R S : Nat → Prop} {v : Value} {xs ys : List α} (hs : a.eval s = v) (hown : Own d e base R w v xs) {A : Option Addr} {m c : Nat} (hx : a.eval x = .slice A m c) (hm : m = ys.length) (hr : Row d S w A ys)
    (hb : (xs.length + ys.length) * bytes ≤ 140737488355328) (hbase : base ≤ w.heap.size)
    (h : ∀ A' c' w', Appended d e base R w w' v (.slice A' (xs.length + ys.length) c') (xs ++ ys) → wpList P ops Q rest (a.put o.dst (.slice A' (xs.length + ys.length) c')) w') : wpList P ops Q (o :: rest) a w := by
  subst hm
  obtain ⟨v', w', hrun, ha⟩ := run_app_plain I hd base o.type hown hr hb hbase
  obtain ⟨A', c', hv', _⟩ := ha.own.row
  rw [List.length_append] at hv'
  subst hv'
  exact wpList_plain hgd fun _ hK => wp_of_run s x ho hs hx hrun (hK _ _ (h A' c' w' ha))
theorem wpList_app (I : Elem P t e d bytes) (base : Nat) (hgd : o.guard = none) (s x : Operand) (ho : o.op = .call { callee := .builtin .append, args := #[s, x], argTypes := #[t, t] })
    {R S : Nat → Prop} {v : Value} {xs ys : List α} (hs : a.eval s = v) (hown : Own d e base R w v xs) (hR : ∀ k, R k → v.ownBlock ≠ some k) (hS : ∀ k, S k → v.ownBlock ≠ some k) {A : Option Addr} {m c : Nat} (hx : a.eval x = .slice A m c) (hm : m = ys.length) (hr : Row d S w A ys)
    (hb : (xs.length + ys.length) * bytes ≤ 140737488355328) (hbase : base ≤ w.heap.size)
    (h : ∀ A' c' w', Appended d e base (fun k => R k ∨ S k) w w' v (.slice A' (xs.length + ys.length) c') (xs ++ ys) → wpList P ops Q rest (a.put o.dst (.slice A' (xs.length + ys.length) c')) w') : wpList P ops Q (o :: rest) a w := by
  subst hm
  obtain ⟨v', w', hrun, ha⟩ := run_app I base o.type hown hR hS hr hb hbase
  obtain ⟨A', c', hv', _⟩ := ha.own.row
  rw [List.length_append] at hv'
  subst hv'
  exact wpList_plain hgd fun _ hK => wp_of_run s x ho hs hx hrun (hK _ _ (h A' c' w' ha))
theorem step_app_plain {E : Prop} (I : Elem P t e d bytes) (hd : d.Plain) (base : Nat) (hgd : o.guard = none) (s x : Operand) (ho : o.op = .call { callee := .builtin .append, args := #[s, x], argTypes := #[t, t] })
    {R S : Nat → Prop} {v : Value} {xs ys : List α} (hs : a.eval s = v) (hown : Own d e base R w v xs) {A : Option Addr} {m c : Nat} (hx : a.eval x = .slice A m c) (hm : m = ys.length) (hr : Row d S w A ys)
    (hb : (xs.length + ys.length) * bytes ≤ 140737488355328) (hbase : base ≤ w.heap.size)
    (h : ∀ A' c' w', Appended d e base R w w' v (.slice A' (xs.length + ys.length) c') (xs ++ ys) → K (a.put o.dst (.slice A' (xs.length + ys.length) c')) w') : if Region.wanted o (yielded ops a.tmps) = true then Oper.wp P o a w K Q else E := by
  subst hm
  obtain ⟨v', w', hrun, ha⟩ := run_app_plain I hd base o.type hown hr hb hbase
  have hw : Region.wanted o (yielded ops a.tmps) = true := by simp [Region.wanted, hgd]
  rw [if_pos hw]
  obtain ⟨A', c', hv', _⟩ := ha.own.row
  rw [List.length_append] at hv'
  subst hv'
  exact wp_of_run s x ho hs hx hrun (h A' c' w' ha)

/-- the one-element block that an append lays first -/
theorem Row.newOne {x : α} {cs : List Value} {S : Nat → Prop} (hx : d.R S (w.alloc (.cells cs.toArray e)) x cs) : Row d (fun k => S k ∨ k = w.heap.size) (w.alloc (.cells cs.toArray e)) (some ⟨w.heap.size, 0, none⟩) [x] := fun _ =>
  ⟨_, rfl, .inr rfl, cs, Flat.single (d.mono (fun _ h => .inl h) hx), fun j u hu => by
    rw [add_new, cell_of_row _ _ _ _ _ _ (heap_alloc_new w _)]; simpa using hu⟩
theorem Row.newOnePlain (hd : d.Plain) {x : α} {cs : List Value} (hx : d.R (fun _ => True) w x cs) : Row d (fun _ => True) (w.alloc (.cells cs.toArray e)) (some ⟨w.heap.size, 0, none⟩) [x] :=
  (Row.newOne (S := fun _ => True) (hd _ _ _ _ _ _ hx)).mono fun _ _ => trivial
end

section
variable {α : Type} {d : Kn α} {e base : Nat} {R : Nat → Prop} {w0 w w' : World} {v v' : Value} {zs : List α}
theorem Own.row' {n c : Nat} {A : Option Addr} {P : Nat → Prop} (h : Own d e base P w (.slice A n c) zs) : n = zs.length ∧ Row d (fun _ => True) w A zs ∧ zs.length ≤ c ∧ c ≤ maxLen := by
  obtain ⟨A', c', hv, h1, h2, h3⟩ := h.row
  cases hv
  exact ⟨rfl, h3.mono fun _ _ => trivial, h1, h2⟩
/-- an empty slice made anew (s[:0:0] of a literal, 'make' of nothing) -/
theorem Own.empty (d : Kn α) (e base : Nat) (R : Nat → Prop) (w : World) (hb : base ≤ w.heap.size) : Own d e base R (w.alloc (.cells #[] e)) (.slice (some ⟨w.heap.size, 0, none⟩) 0 0) [] :=
  ⟨[], World.ownsRow_made w #[] 0 hb (by unfold maxLen; omega) (by simp), Flat.nil _ _ _⟩
theorem ownBlock_new {g o n c k : Nat} (h : (Value.slice (some ⟨g, o, none⟩) n c).ownBlock = some k) : g ≤ k := by
  have : g = k := by simpa [Value.ownBlock] using h
  omega
theorem ownBlock_none {n c k : Nat} (h : (Value.slice none n c).ownBlock = some k) : False := by simp [Value.ownBlock] at h
theorem Row.alloc {P : Nat → Prop} {A : Option Addr} {xs : List α} (h : Row d P w A xs) (o : Obj) : Row d P (w.alloc o) A xs := h.below ((Below.refl _ _).alloc (Nat.le_refl _) o)
theorem Appended.below (h : Appended d e base R w w' v v' zs) {B : Nat} (hw : Below B w0 w) (hB : B ≤ w.heap.size) (hv : ∀ k, v.ownBlock = some k → B ≤ k) : Below B w0 w' := hw.grown h.grown hB hv
end

theorem bcell {W w1 : World} (hb : Below W.heap.size W w1) : (∀ b o, b < W.heap.size → w1.cell? ⟨b, o, none⟩ = W.cell? ⟨b, o, none⟩) ∧ (∀ b o, b < W.heap.size → w1.frozen? ⟨b, o, none⟩ = W.frozen? ⟨b, o, none⟩) :=
  ⟨fun b o h => hb.cell (p := ⟨b, o, none⟩) h, fun b o h => hb.frozen (p := ⟨b, o, none⟩) h⟩
/-- Of w's blocks those outside S stand as they stood. -/
structure Turn (S : Nat → Prop) (w w' : World) : Prop where
  os : w'.os = w.os
  tape : w'.tape = w.tape
  output : w'.output = w.output
  size : w.heap.size ≤ w'.heap.size
  block : ∀ k, k < w.heap.size → ¬ S k → w'.heap[k]? = w.heap[k]?
section
variable {S S' : Nat → Prop} {w0 w w' : World}
theorem Turn.refl (S : Nat → Prop) (w : World) : Turn S w w := ⟨rfl, rfl, rfl, Nat.le_refl _, fun _ _ _ => rfl⟩
theorem Turn.trans {S : Nat → Prop} {a b c : World} (h : Turn S a b) (k : Turn (fun i => S i ∨ a.heap.size ≤ i) b c) : Turn S a c :=
  ⟨k.os.trans h.os, k.tape.trans h.tape, k.output.trans h.output, Nat.le_trans h.size k.size, fun i hi hs => (k.block i (Nat.lt_of_lt_of_le hi h.size) (fun hh => hh.elim hs (fun h2 => by omega))).trans (h.block i hi hs)⟩
theorem Turn.mono (h : Turn S w w') (hs : ∀ k, k < w.heap.size → S k → S' k) : Turn S' w w' := ⟨h.os, h.tape, h.output, h.size, fun k hk hn => h.block k hk (fun hh => hn (hs k hk hh))⟩
theorem Turn.of_below (h : Below w.heap.size w w') : Turn S w w' := ⟨h.os, h.tape, h.output, h.size, fun k hk _ => h.block k hk⟩
theorem Turn.then_below (h : Turn S w0 w) (hb : Below w.heap.size w w') : Turn S w0 w' := h.trans (Turn.of_below hb)
theorem Turn.alloc (h : Turn S w0 w) (o : Obj) : Turn S w0 (w.alloc o) := h.then_below ((Below.refl _ _).alloc (Nat.le_refl _) o)
theorem Turn.drew (h : Turn S w0 w) : Turn S w0 w.drew := ⟨h.os, h.tape, h.output, h.size, h.block⟩
theorem Turn.drewN (h : Turn S w0 w) (n : Nat) : Turn S w0 (w.drewN n) := h.then_below ((Below.refl _ _).trans ⟨rfl, rfl, rfl, Nat.le_refl _, fun _ _ => rfl⟩)
theorem Turn.setCell (h : Turn S w0 w) {p : Addr} (hp : S p.block ∨ w0.heap.size ≤ p.block) (u : Value) : Turn S w0 (w.setCell p u) :=
  h.trans ⟨rfl, rfl, rfl, by simp [World.setCell], fun k hk hn => Below.heap_setCell _ _ _ _ (fun e => hn (by subst e; exact hp))⟩
theorem Turn.grown {row : Option Nat} (h : Turn S w0 w) (hg : w.grownBy w' row) (hr : ∀ k, row = some k → S k ∨ w0.heap.size ≤ k) : Turn S w0 w' :=
  h.trans ⟨hg.os, hg.tape, hg.output, hg.size, fun k hk hn => hg.block k hk (fun e => hn (hr k e.symm))⟩
theorem Turn.below (h : Turn S w w') {B : Nat} (hB : B ≤ w.heap.size) (hs : ∀ k, S k → B ≤ k) : Below B w w' := ⟨h.os, h.tape, h.output, h.size, fun k hk => h.block k (by omega) (fun hh => by have := hs k hh; omega)⟩
theorem Turn.cell (h : Turn S w w') {p : Addr} {u : Value} (hc : w.cell? p = some u) (hs : ¬ S p.block) : w'.cell? p = some u :=
  (World.cell?_of_block (w := w) (h.block _ (World.block_lt_of_cell? w _ hc) hs)).trans hc
end

/-- a row of the call's own at a known block: its cells, none frozen -/
structure OwnAt {α : Type} (d : Kn α) (e : TypeId) (g c : Nat) (w : World) (xs : List α) : Prop where
  le : xs.length ≤ c
  mx : c ≤ maxLen
  ex : ∃ cur : Array Value, w.heap[g]? = some (.cells cur e (0, 0)) ∧ cur.size = c * d.sz ∧ Flat d (fun _ => True) w xs (cur.toList.take (xs.length * d.sz))
section
variable {α : Type} {d : Kn α} {e g c : Nat} {w w' : World} {xs : List α}
theorem OwnAt.of_own {base n : Nat} {P : Nat → Prop} (h : Own d e base P w (.slice (some ⟨g, 0, none⟩) n c) xs) : OwnAt d e g c w xs := by
  obtain ⟨cells, hown, hf⟩ := h
  rcases hown.2 with ⟨h0, _⟩ | ⟨g', cap, cur, hv, hb, hg, h1, h2, h3, h4⟩
  · cases h0
  · cases hv
    exact ⟨h1, h2, cur, hg, h3, by rw [h4]; exact hf.mono fun _ _ => trivial⟩
theorem OwnAt.own (h : OwnAt d e g c w xs) {base : Nat} (hb : base ≤ g) : Own d e base (fun _ => True) w (.slice (some ⟨g, 0, none⟩) xs.length c) xs := by
  obtain ⟨cur, hg, h3, hf⟩ := h.ex
  exact ⟨_, ⟨by rw [List.length_take]; apply Nat.min_eq_left; rw [Array.length_toList (xs := cur), h3]; exact Nat.mul_le_mul_right _ h.le, .inr ⟨g, c, cur, rfl, hb, hg, h.le, h.mx, h3, rfl⟩⟩, hf⟩
theorem OwnAt.frozen (h : OwnAt d e g c w xs) (j : Nat) : w.frozen? ⟨g, j, none⟩ = false := by
  obtain ⟨cur, hg, _⟩ := h.ex
  simp [World.frozen?, hg]
theorem OwnAt.lt (h : OwnAt d e g c w xs) : g < w.heap.size := by
  obtain ⟨cur, hg, _⟩ := h.ex
  exact (Array.getElem?_eq_some_iff.1 hg).1
theorem OwnAt.row (h : OwnAt d e g c w xs) : Row d (fun _ => True) w (some ⟨g, 0, none⟩) xs := fun _ => by
  obtain ⟨cur, hg, h3, hf⟩ := h.ex
  refine ⟨_, rfl, trivial, _, hf, fun j u hu => ?_⟩
  have hj := (List.getElem?_eq_some_iff.1 hu).1
  rw [List.length_take] at hj
  rw [List.getElem?_take_of_lt (by omega)] at hu
  rw [add_new, cell_of_row _ _ _ _ _ _ hg]; simpa using hu
theorem OwnAt.rowIn (h : OwnAt d e g c w xs) (hd : d.Plain) : Row d (fun k => k = g) w (some ⟨g, 0, none⟩) xs := fun hx => by
  obtain ⟨a, ha, _, cells, hf, hc⟩ := h.row hx
  cases ha
  exact ⟨_, rfl, rfl, cells, hf.plain hd, hc⟩
theorem OwnAt.move (hd : d.Plain) (h : OwnAt d e g c w xs) (hb : w'.heap[g]? = w.heap[g]?) : OwnAt d e g c w' xs := by
  obtain ⟨cur, hg, h3, hf⟩ := h.ex
  exact ⟨h.le, h.mx, cur, hb.trans hg, h3, hf.plain hd⟩
theorem OwnAt.take (hd : d.Plain) (h : OwnAt d e g c w xs) (n : Nat) (hn : n ≤ xs.length) : OwnAt d e g c w (xs.take n) := by
  obtain ⟨cur, hg, h3, hf⟩ := h.ex
  have hl : (xs.take n).length = n := by rw [List.length_take, Nat.min_eq_left hn]
  refine ⟨by rw [hl]; exact Nat.le_trans hn h.le, h.mx, cur, hg, h3, ?_⟩
  have := hf.take n hn
  rw [List.take_take, Nat.min_eq_left (Nat.mul_le_mul_right _ hn)] at this
  rw [hl]; exact this
end

theorem setCells_other (g : Nat) {b : Nat} (hb : b ≠ g) : ∀ (l : List Value) (w : World) (k : Nat), (w.setCells g k l).heap[b]? = w.heap[b]?
  | [], _, _ => rfl
  | u :: l, w, k => (setCells_other g hb l _ _).trans (Below.heap_setCell _ _ _ _ hb)
theorem setCells_at {g : Nat} {e : TypeId} : ∀ (l : List Value) (w : World) (k : Nat) (cur : Array Value), w.heap[g]? = some (.cells cur e (0, 0)) → k + l.length ≤ cur.size →
    ∃ cur' : Array Value, (w.setCells g k l).heap[g]? = some (.cells cur' e (0, 0)) ∧ cur'.size = cur.size ∧ ∀ j, cur'[j]? = if k ≤ j ∧ j < k + l.length then l[j - k]? else cur[j]?
  | [], w, k, cur, h, _ => ⟨cur, h, rfl, fun j => by rw [if_neg (by simp only [List.length_nil]; omega)]⟩
  | u :: l, w, k, cur, h, hk => by
    have h1 : (w.setCell ⟨g, k, none⟩ u).heap[g]? = some (.cells (cur.setIfInBounds k u) e (0, 0)) := by
      simp [World.setCell, Array.getElem?_modify, h]
    simp only [List.length_cons] at hk
    obtain ⟨cur', h2, h3, h4⟩ := setCells_at l _ (k + 1) _ h1 (by simp; omega)
    refine ⟨cur', h2, by simpa using h3, fun j => ?_⟩
    rw [h4 j]
    simp only [List.length_cons]
    by_cases hj : j = k
    · subst hj
      rw [if_neg (by omega), if_pos (by omega), Nat.sub_self, List.getElem?_cons_zero, Array.getElem?_setIfInBounds_self_of_lt (by omega)]
    · by_cases h5 : k + 1 ≤ j ∧ j < k + 1 + l.length
      · rw [if_pos h5, if_pos (by omega)]
        obtain ⟨m, rfl⟩ : ∃ m, j = k + 1 + m := ⟨j - k - 1, by omega⟩
        rw [show k + 1 + m - (k + 1) = m by omega, show k + 1 + m - k = m + 1 by omega, List.getElem?_cons_succ]
      · rw [if_neg h5, if_neg (by omega), Array.getElem?_setIfInBounds_ne (by omega)]
theorem setCells_turn {S : Nat → Prop} {w0 : World} {g : Nat} (hg : S g ∨ w0.heap.size ≤ g) : ∀ (l : List Value) (w : World) (k : Nat), Turn S w0 w → Turn S w0 (w.setCells g k l)
  | [], _, _, h => h
  | u :: l, w, k, h => setCells_turn hg l _ _ (h.setCell (p := ⟨g, k, none⟩) hg u)
theorem OwnAt.setEnc {α : Type} {f : α → List Value} {n : Nat} {hn : 0 < n} {hl : ∀ x, (f x).length = n} {h1 : ∀ x, ∀ u ∈ f x, u.oneCell' = true} {e g c : Nat} {w : World} {xs : List α}
    (h : OwnAt (Kn.enc f n hn hl h1) e g c w xs) (i : Nat) (hi : i < xs.length) (x : α) : OwnAt (Kn.enc f n hn hl h1) e g c (w.setCells g (i * n) (f x)) (xs.set i x) := by
  obtain ⟨cur, hg, h3, hf⟩ := h.ex
  have hle := h.le
  have hin : i * n + n ≤ xs.length * n := by rw [← Nat.succ_mul]; exact Nat.mul_le_mul_right _ hi
  have hcn : xs.length * n ≤ c * n := Nat.mul_le_mul_right _ hle
  have hsz : cur.size = c * n := h3
  obtain ⟨cur', hg', hs', hat⟩ := setCells_at (f x) w (i * n) cur hg (by rw [hl, hsz]; omega)
  refine ⟨by rw [List.length_set]; exact hle, h.mx, cur', hg', by rw [hs']; exact h3, ?_⟩
  rw [List.length_set]
  have hlen : (cur'.toList.take (xs.length * n)).length = xs.length * n := by
    rw [List.length_take]; apply Nat.min_eq_left; rw [Array.length_toList (xs := cur'), hs', hsz]; exact hcn
  refine ⟨by rw [List.length_set]; exact hlen, fun m hm => ?_⟩
  rw [List.length_set] at hm
  show ((cur'.toList.take (xs.length * n)).drop (m * n)).take n = f (xs.set i x)[m]
  have hmn : m * n + n ≤ xs.length * n := by rw [← Nat.succ_mul]; exact Nat.mul_le_mul_right _ hm
  apply List.ext_getElem?
  intro j
  by_cases hj : j < n
  · rw [List.getElem?_take_of_lt hj, List.getElem?_drop, List.getElem?_take_of_lt (by omega), Array.getElem?_toList, hat]
    by_cases hmi : m = i
    · subst hmi
      rw [if_pos (by rw [hl]; omega), List.getElem_set_self, show m * n + j - m * n = j by omega]
    · rw [List.getElem_set_ne (by omega)]
      have hne : ¬ (i * n ≤ m * n + j ∧ m * n + j < i * n + (f x).length) := by
        rw [hl]
        rintro ⟨h5, h6⟩
        rcases Nat.lt_or_gt_of_ne hmi with hlt | hgt
        · have : m * n + n ≤ i * n := by rw [← Nat.succ_mul]; exact Nat.mul_le_mul_right _ hlt
          omega
        · have : i * n + n ≤ m * n := by rw [← Nat.succ_mul]; exact Nat.mul_le_mul_right _ hgt
          omega
      rw [if_neg hne]
      have hold : ((cur.toList.take (xs.length * n)).drop (m * n)).take n = f xs[m] := hf.2 m hm
      rw [← hold, List.getElem?_take_of_lt hj, List.getElem?_drop, List.getElem?_take_of_lt (by omega), Array.getElem?_toList]
  · rw [List.getElem?_eq_none (by rw [List.length_take]; omega), List.getElem?_eq_none (by rw [hl]; omega)]

theorem zeroCells_one {z : Value} (h : ∀ u ∈ z.cells.toList, u.oneCell' = true) (n : Nat) : ∀ v ∈ (Builtin.zeroCells z.cells n).toList, v.oneCell' = true := by
  intro v hv
  have hv' : v ∈ (Builtin.zeroCells z.cells n) := Array.mem_toList_iff.1 hv
  simp only [Builtin.zeroCells, Array.mem_map] at hv'
  obtain ⟨i, _, rfl⟩ := hv'
  by_cases hi : i % z.cells.size < z.cells.size
  · rw [getElem!_pos z.cells _ hi]
    exact h _ (Array.mem_toList_iff.2 (Array.getElem_mem hi))
  · rw [getElem!_neg z.cells _ hi]
    rfl
/-- 'clear(s)': the cells hold the element type's zero; nothing else turns. -/
theorem run_clear_kn {P : Program} (w : World) (t e ty : TypeId) (z : Value) (ht : P.underlying t = some (.slice e)) (hv : ∀ w, (zeroValue e).run P w = .ok z w) (h1 : ∀ u ∈ z.cells.toList, u.oneCell' = true) (b o n c : Nat) (hn : 0 < n)
    (hc : ∀ j, j < (Builtin.zeroCells z.cells n).size → (w.cell? ⟨b, o + j, none⟩).isSome = true) (hf : ∀ j, j < (Builtin.zeroCells z.cells n).size → w.frozen? ⟨b, o + j, none⟩ = false) :
    (Builtin.clear_ #[t] ty #[.slice (some ⟨b, o, none⟩) n c]).run P w = .ok (.tuple #[]) (w.setCells b o (Builtin.zeroCells z.cells n).toList) := by
  have hst := run_storeCells_cells (P := P) b o (Builtin.zeroCells z.cells n).toList 0 w (by simpa using hc) (by simpa using hf) (zeroCells_one h1 n)
  simp only [Nat.add_zero] at hst
  obtain ⟨m, rfl⟩ : ∃ m, n = m + 1 := ⟨n - 1, by omega⟩
  simp [Builtin.clear_, run_underlying ht, hv, hst]
theorem run_clear_empty {P : Program} (w : World) (t ty : TypeId) (e : TypeId) (ht : P.underlying t = some (.slice e)) (a : Option Addr) (c : Nat) :
    (Builtin.clear_ #[t] ty #[.slice a 0 c]).run P w = .ok (.tuple #[]) w := by
  cases a <;> simp [Builtin.clear_, run_underlying ht]
theorem OwnAt.clear {α : Type} {d : Kn α} {P : Program} {e g c : Nat} {w : World} {xs : List α} (hd : d.Plain) (h : OwnAt d e g c w xs) (i : Nat) (hi : i < xs.length) (t ty : TypeId) (z : Value) (ht : P.underlying t = some (.slice e)) (hv : ∀ w, (zeroValue e).run P w = .ok z w) (hz : z.cells.size = d.sz) (h1 : ∀ u ∈ z.cells.toList, u.oneCell' = true) (c' : Nat) :
    ∃ w', (Builtin.clear_ #[t] ty #[.slice (some ⟨g, i * d.sz, none⟩) (xs.length - i) c']).run P w = .ok (.tuple #[]) w' ∧ OwnAt d e g c w' (xs.take i) ∧ Turn (fun k => k = g) w w' := by
  obtain ⟨cur, hg, h3, hf⟩ := h.ex
  have hzs : (Builtin.zeroCells z.cells (xs.length - i)).size = (xs.length - i) * d.sz := by simp [Builtin.zeroCells, hz]
  have hin : i * d.sz + (xs.length - i) * d.sz = xs.length * d.sz := by rw [← Nat.add_mul]; congr 1; omega
  have hcn : xs.length * d.sz ≤ c * d.sz := Nat.mul_le_mul_right _ h.le
  refine ⟨_, run_clear_kn w t e ty z ht hv h1 g (i * d.sz) (xs.length - i) c' (by omega) (fun j hj => ?_) (fun j _ => h.frozen _), ?_, ?_⟩
  · rw [cell_of_row _ _ _ _ _ _ hg, Array.getElem?_eq_getElem (by rw [h3]; omega)]; rfl
  · obtain ⟨cur', hg', hs', hat⟩ := setCells_at (Builtin.zeroCells z.cells (xs.length - i)).toList w (i * d.sz) cur hg (by rw [Array.length_toList (xs := Builtin.zeroCells z.cells (xs.length - i)), hzs, h3]; omega)
    have hl : (xs.take i).length = i := by rw [List.length_take, Nat.min_eq_left (by omega)]
    refine ⟨by rw [hl]; exact Nat.le_trans (Nat.le_of_lt hi) h.le, h.mx, cur', hg', by rw [hs']; exact h3, ?_⟩
    rw [hl]
    have he : cur'.toList.take (i * d.sz) = cur.toList.take (i * d.sz) := by
      apply List.ext_getElem?
      intro j
      by_cases hj : j < i * d.sz
      · rw [List.getElem?_take_of_lt hj, List.getElem?_take_of_lt hj, Array.getElem?_toList, Array.getElem?_toList, hat, if_neg (by omega)]
      · rw [List.getElem?_eq_none (by rw [List.length_take]; omega), List.getElem?_eq_none (by rw [List.length_take]; omega)]
    rw [he]
    have := hf.take i (Nat.le_of_lt hi)
    rw [List.take_take, Nat.min_eq_left (by omega)] at this
    exact this.plain hd
  · exact setCells_turn (S := fun k => k = g) (.inl rfl) _ _ _ (Turn.refl _ _)
end Go.Proofs.YtdchffghgajbfaaDoor
