/- The ledger's move: shares are added or taken away. -/
import Derived.Test.YtalkdddeiebfmaaGreatDoorJ4
namespace Go.Proofs.YtalkdddeiebfmaaGreatDoor
open Go.RowKit Go.Maps Go.WideMaps

def addC (b : Int) (C : ByteArray → Int) (l : List ByteArray) : ByteArray → Int := l.foldl (fun C p => upd C p (C p + b)) C
def addS (b : Int) (S : Pl → Int) (l : List Sh) : Pl → Int := l.foldl (fun S s => upd S s.1 (S s.1 + b * s.2)) S
theorem addC_snoc (b : Int) (C : ByteArray → Int) (l : List ByteArray) (p : ByteArray) : addC b C (l ++ [p]) = upd (addC b C l) p (addC b C l p + b) := by simp [addC, List.foldl_append]
theorem addS_snoc (b : Int) (S : Pl → Int) (l : List Sh) (s : Sh) : addS b S (l ++ [s]) = upd (addS b S l) s.1 (addS b S l s.1 + b * s.2) := by simp [addS, List.foldl_append]
theorem addS_out (b : Int) : ∀ (l : List Sh) (S : Pl → Int) (x : Pl), x ∉ l.map Prod.fst → addS b S l x = S x
  | [], _, _, _ => rfl
  | s :: l, S, x, h => by
    have h1 : x ≠ s.1 := fun e => h (by simp [e])
    have h2 : x ∉ l.map Prod.fst := fun e => h (by simp at e ⊢; exact .inr e)
    show addS b (upd S s.1 (S s.1 + b * s.2)) l x = S x
    rw [addS_out b l _ x h2, upd_other _ _ h1]
theorem addC_bound (b : Int) (hb : -1 ≤ b ∧ b ≤ 1) : ∀ (l : List ByteArray) (C : ByteArray → Int) (m : Int), (∀ x, -m ≤ C x ∧ C x ≤ m) → ∀ x, -(m + l.length) ≤ addC b C l x ∧ addC b C l x ≤ m + l.length
  | [], C, m, h, x => by simpa [addC] using h x
  | p :: l, C, m, h, x => by
    have := addC_bound b hb l (upd C p (C p + b)) (m + 1) (fun y => by
      unfold upd
      have h1 := h y
      have h2 := h p
      split <;> omega) x
    have e : addC b C (p :: l) = addC b (upd C p (C p + b)) l := rfl
    rw [e]
    simp only [List.length_cons]
    omega
theorem Sums.mono {w : World} {b n m : Nat} {S : Pl → Int} {h : Pl → Bool} (k : Sums w b n S h) (hm : n ≤ m) : Sums w b m S h := let ⟨D, h1, h2⟩ := k.ex; ⟨D, h1.mono hm, h2⟩
theorem Cnts.mono {w : World} {b n m : Nat} {S : ByteArray → Int} {h : ByteArray → Bool} (k : Cnts w b n S h) (hm : n ≤ m) : Cnts w b m S h := let ⟨D, h1, h2⟩ := k.ex; ⟨D, h1.mono hm, h2⟩
theorem Sums.to {w : World} {b n : Nat} {S S' : Pl → Int} {h h' : Pl → Bool} (k : Sums w b n S h) (e1 : S = S') (e2 : h = h') : Sums w b n S' h' := by subst e1; subst e2; exact k
theorem Cnts.to {w : World} {b n : Nat} {S S' : ByteArray → Int} {h h' : ByteArray → Bool} (k : Cnts w b n S h) (e1 : S = S') (e2 : h = h') : Cnts w b n S' h' := by subst e1; subst e2; exact k
theorem upd_put {α : Type} [DecidableEq α] (S : α → Int) (x : α) {v : Int} (hv : v ≠ 0) : upd (fun y => decide (S y ≠ 0)) x true = fun y => decide (upd S x v y ≠ 0) := by
  funext y
  unfold upd
  split
  · simp [hv]
  · rfl
theorem upd_del {α : Type} [DecidableEq α] (S : α → Int) (x : α) : upd (upd (fun y => decide (S y ≠ 0)) x true) x false = fun y => decide (upd S x 0 y ≠ 0) := by
  funext y
  unfold upd
  split
  · simp
  · rfl
theorem upd_upd {α β : Type} [DecidableEq α] (S : α → β) (x : α) (v u : β) : upd (upd S x v) x u = upd S x u := by
  funext y
  unfold upd
  split <;> rfl
section
variable {w w' : World} {g b1 b2 n : Nat} {S : Pl → Int} {C : ByteArray → Int}
abbrev mapB (b1 b2 : Nat) : Nat → Prop := fun k => k = b1 ∨ k = b2
/-- behind a store into the counts -/
theorem IsLed.cnt (k : IsLed w g b1 b2 n S C) {x : ByteArray} (hx : StOk x) {v : Int} (hv : in64 v) (hn : n + 1 < maxLen) (ty : TypeId) : ∃ w1, (Instr.mapUpdate 75 (.map (some b2)) (.string x) (.int .i64 v)).run Tryz.prog w = .ok () w1 ∧ w1.cell? ⟨g, 1, none⟩ = some (.map (some b2)) ∧
    (Instr.lookup 75 (.map (some b2)) (.string x) false).run Tryz.prog w1 = .ok (.int .i64 v) w1 ∧ (v ≠ 0 → IsLed w1 g b1 b2 (n + 1) S (upd C x v)) ∧ Turn (mapB b1 b2) w w1 ∧ (v = 0 → ∃ w2, (Builtin.delete_ #[75, 9] ty #[.map (some b2), .string x]).run Tryz.prog w1 = .ok (.tuple #[]) w2 ∧ IsLed w2 g b1 b2 (n + 1) S (upd C x v) ∧ Turn (mapB b1 b2) w w2) := by
  obtain ⟨w1, r1, r2, r3, r4⟩ := k.cnts.store hx (by omega) hv
  have hg : g ≠ b2 := by
    intro e
    have h1 := k.box
    obtain ⟨D, ⟨es, clock, hb, _⟩, _⟩ := k.cnts.ex
    rw [e, hb] at h1
    cases h1
  have t1 : Turn (mapB b1 b2) w w1 := (Turn.refl _ w).grown r3 fun j hj => by cases hj; exact .inl (.inr rfl)
  have hbx : w1.heap[g]? = some (.cells #[.map (some b1), .map (some b2)] 77 (0, 0)) := (r3.block g (k.lt g (.inl rfl)) (fun e => hg (Option.some.inj e))).trans k.box
  have hs1 : Sums w1 b1 n S fun x => decide (S x ≠ 0) := k.sums.same (r3.block b1 k.sums.lt (fun e => k.ne12 (Option.some.inj e)))
  refine ⟨w1, r1, cell_of_row _ _ _ _ _ _ hbx, by rw [r2.look hx, upd_same], fun hv0 => ⟨hbx, hs1.mono (Nat.le_succ _), r2.to rfl (upd_put C x hv0), k.ne12⟩, t1, fun hv0 => ?_⟩
  obtain ⟨w2, q1, q2, q3, q4⟩ := r2.drop hx ty
  subst hv0
  refine ⟨w2, q1, ⟨(q3.block g (Nat.lt_of_lt_of_le (k.lt g (.inl rfl)) (by omega)) (fun e => hg (Option.some.inj e))).trans hbx, (hs1.same (q3.block b1 hs1.lt (fun e => k.ne12 (Option.some.inj e)))).mono (Nat.le_succ _), q2.to (upd_upd C x 0 0) (upd_del C x), k.ne12⟩, t1.grown q3 fun j hj => by cases hj; exact .inl (.inr rfl)⟩
end

/-- a ledger among whose entries of sums some may be 0 -/
structure LedH (w : World) (g b1 b2 n : Nat) (S : Pl → Int) (C : ByteArray → Int) (h : Pl → Bool) : Prop where
  box : w.heap[g]? = some (.cells #[.map (some b1), .map (some b2)] 77 (0, 0))
  sums : Sums w b1 n S h
  cnts : Cnts w b2 n C fun x => decide (C x ≠ 0)
  ne12 : b1 ≠ b2
section
variable {w w' : World} {g b1 b2 n : Nat} {S : Pl → Int} {C : ByteArray → Int} {h : Pl → Bool}
theorem IsLed.toH (k : IsLed w g b1 b2 n S C) : LedH w g b1 b2 n S C fun x => decide (S x ≠ 0) := ⟨k.box, k.sums, k.cnts, k.ne12⟩
theorem LedH.led {S' : Pl → Int} (k : LedH w g b1 b2 n S C h) (e1 : S = S') (e : h = fun x => decide (S' x ≠ 0)) : IsLed w g b1 b2 n S' C := ⟨k.box, k.sums.to e1 e, k.cnts, k.ne12⟩
theorem LedH.below (k : LedH w g b1 b2 n S C h) (hb : Below w.heap.size w w') : LedH w' g b1 b2 n S C h :=
  ⟨(hb.block g (Array.getElem?_eq_some_iff.1 k.box).1).trans k.box, k.sums.same (hb.block b1 k.sums.lt), k.cnts.same (hb.block b2 k.cnts.lt), k.ne12⟩
theorem LedH.drewN (k : LedH w g b1 b2 n S C h) (q : Nat) : LedH (w.drewN q) g b1 b2 n S C h := k.below (below_drewN (Below.refl w.heap.size w) q)
theorem LedH.g0 (k : LedH w g b1 b2 n S C h) : w.cell? ⟨g, 0, none⟩ = some (.map (some b1)) := cell_of_row _ _ _ _ _ _ k.box
theorem LedH.gne (k : LedH w g b1 b2 n S C h) : g ≠ b1 := by
  intro e
  have h1 := k.box
  obtain ⟨D, ⟨es, clock, hb, _⟩, _⟩ := k.sums.ex
  rw [e, hb] at h1
  cases h1
theorem LedH.look (k : LedH w g b1 b2 n S C h) {x : Pl} (hx : PlOk x) (q : Nat) : (Instr.lookup 74 (.map (some b1)) (.agg #[.string x.1, .int .i64 x.2.1.1, .int .i64 x.2.1.2, .string x.2.2]) false).run Tryz.prog (w.drewN q) = .ok (.int .i64 (S x)) (w.drewN q) := (k.drewN q).sums.look hx
theorem LedH.entry (k : LedH w g b1 b2 n S C h) {x : Pl} (hx : PlOk x) {v : Int} (hv : in64 v) (hn : n < maxLen) :
    ∃ (v0 : Value) (st : Int) (w1 w3 : World), (Instr.mapEntry 74 (.map (some b1)) (.agg #[.string x.1, .int .i64 x.2.1.1, .int .i64 x.2.1.2, .string x.2.2])).run Tryz.prog w = .ok (.tuple #[v0, .int .i64 st]) w1 ∧ w.grownBy w1 (some b1) ∧
      (Instr.lookup 74 (.map (some b1)) (.agg #[.string x.1, .int .i64 x.2.1.1, .int .i64 x.2.1.2, .string x.2.2]) false).run Tryz.prog w1 = .ok (.int .i64 (S x)) w1 ∧ w1.cell? ⟨g, 0, none⟩ = some (.map (some b1)) ∧
      (Instr.entryStore 74 (.map (some b1)) (.int .i64 st) (.int .i64 v)).run Tryz.prog w1 = .ok () w3 ∧ LedH w3 g b1 b2 (n + 1) (upd S x v) C (upd h x true) ∧ w.grownBy w3 (some b1) ∧ Turn (mapB b1 b2) w w3 := by
  obtain ⟨v0, st, w1, r1, r2, r3, ⟨h1, r4⟩, r5⟩ := k.sums.entry hx hn
  obtain ⟨w3, q1, q2, q3, q4⟩ := r5 w1 v hv rfl
  have hg := k.gne
  have hgl : g < w.heap.size := (Array.getElem?_eq_some_iff.1 k.box).1
  have hb1 : w1.heap[g]? = some (.cells #[.map (some b1), .map (some b2)] 77 (0, 0)) := (r2.block g hgl (fun e => hg (Option.some.inj e))).trans k.box
  have hb3 : w3.heap[g]? = some (.cells #[.map (some b1), .map (some b2)] 77 (0, 0)) := (q3.block g (by omega) (fun e => hg (Option.some.inj e))).trans hb1
  have hc1 := k.cnts.same (r2.block b2 k.cnts.lt (fun e => k.ne12 (Option.some.inj e).symm))
  have hc3 := hc1.same (q3.block b2 hc1.lt (fun e => k.ne12 (Option.some.inj e).symm))
  have hgr : w.grownBy w3 (some b1) := r2.andThen q3 fun j hj => by cases hj; exact .inr rfl
  exact ⟨v0, st, w1, w3, r1, r2, r4.look hx, cell_of_row _ _ _ _ _ _ hb1, q1, ⟨hb3, q2, hc3.mono (Nat.le_succ _), k.ne12⟩, hgr, (Turn.refl _ w).grown hgr fun j hj => by cases hj; exact .inl (.inl rfl)⟩
theorem LedH.drop (k : LedH w g b1 b2 n S C h) {x : Pl} (hx : PlOk x) (ty : TypeId) : ∃ w1, (Builtin.delete_ #[74, 79] ty #[.map (some b1), .agg #[.string x.1, .int .i64 x.2.1.1, .int .i64 x.2.1.2, .string x.2.2]]).run Tryz.prog w = .ok (.tuple #[]) w1 ∧
    LedH w1 g b1 b2 n (upd S x 0) C (upd h x false) ∧ Turn (mapB b1 b2) w w1 := by
  obtain ⟨w1, q1, q2, q3, q4⟩ := k.sums.drop hx ty
  have hg := k.gne
  have hgl : g < w.heap.size := (Array.getElem?_eq_some_iff.1 k.box).1
  exact ⟨w1, q1, ⟨(q3.block g hgl (fun e => hg (Option.some.inj e))).trans k.box, q2, k.cnts.same (q3.block b2 k.cnts.lt (fun e => k.ne12 (Option.some.inj e).symm)), k.ne12⟩, (Turn.refl _ w).grown q3 fun j hj => by cases hj; exact .inl (.inl rfl)⟩
end
end Go.Proofs.YtalkdddeiebfmaaGreatDoor
