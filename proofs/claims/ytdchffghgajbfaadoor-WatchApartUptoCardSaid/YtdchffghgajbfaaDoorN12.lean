/- Layer 22's law: a script's step; two pairs of hubs. -/
import Derived.Test.YtdchffghgajbfaaDoorN11
import Derived.Test.YtdchffghgajbfaaDoorL5
namespace Go.Proofs.YtdchffghgajbfaaDoor
open Go.RowKit

structure OpV where
  kind : Int
  l : List Ev
  n : Int
  path : ByteArray
  most : Int
def kOp : Kn OpV := Kn.iso (Kn.pair (Kn.int .i64) (Kn.pair (Kn.slice kEvent) (Kn.pair (Kn.int .i64) (Kn.pair Kn.str (Kn.int .i64))))) (fun o : OpV => (o.kind, o.l, o.n, o.path, o.most))
theorem kOp_sz : kOp.sz = 5 := rfl
structure OpAt (w : World) (a : Addr) (o : OpV) (B : Option Addr) (cb : Nat) : Prop where
  c0 : w.cell? a = some (.int .i64 o.kind)
  c1 : w.cell? ⟨a.block, a.off + 1, none⟩ = some (.slice B o.l.length cb)
  c2 : w.cell? ⟨a.block, a.off + 2, none⟩ = some (.int .i64 o.n)
  c3 : w.cell? ⟨a.block, a.off + 3, none⟩ = some (.string o.path)
  c4 : w.cell? ⟨a.block, a.off + 4, none⟩ = some (.int .i64 o.most)
theorem op_at {P : Nat → Prop} {w : World} {A : Option Addr} {xs : List OpV} (h : Row kOp P w A xs) (i : Nat) (hi : i < xs.length) : ∃ a B cb, A = some a ∧ OpAt w (a.add (i * 5)) xs[i] B cb ∧ Row kEvent P w B xs[i].l := by
  obtain ⟨a, cs, hA, hP, hr, hc⟩ := h.at_ i hi
  obtain ⟨c1, c2, rfl, h1, c3, c4, rfl, ⟨v, rfl, B, cb, rfl, _, _, hrow⟩, c5, c6, rfl, h5, c7, c8, rfl, h7, h8⟩ := hr
  obtain rfl : c1 = [.int .i64 xs[i].kind] := h1
  obtain rfl : c5 = [.int .i64 xs[i].n] := h5
  obtain rfl : c7 = [.string xs[i].path] := h7
  obtain rfl : c8 = [.int .i64 xs[i].most] := h8
  exact ⟨a, B, cb, hA, ⟨hc 0 _ rfl, by rw [← add_off _ _ 1 (by omega)]; exact hc 1 _ rfl, by rw [← add_off _ _ 2 (by omega)]; exact hc 2 _ rfl, by rw [← add_off _ _ 3 (by omega)]; exact hc 3 _ rfl, by rw [← add_off _ _ 4 (by omega)]; exact hc 4 _ rfl⟩, hrow⟩

/-- what the walk wants of a step's size -/
structure OpSmall (o : OpV) : Prop where
  len : o.l.length ≤ 1099511627776
  texts : ∀ e ∈ o.l, e.path.size ≤ 1073741824
  path : o.path.size ≤ 1073741824
theorem played_any {F G : Nat → Prop} {gh gr d : Nat} {first : Int} {ps : List (List Ev)} (o : OpV) (A : Option Addr) (c : Nat) (P : Nat → Prop) (w : World) (he : Env w) (k : PairOf F G w gh gr first ps d) (hr : Row kEvent P w A o.l) (hs : OpSmall o) (hout : ∀ b, (F b ∨ G b) → b ≠ 2 ∧ b ≠ 0) :
    Calls Tryd.prog 17 #[.pointer (some ⟨gh, 0, none⟩), .pointer (some ⟨gr, 0, none⟩), .agg #[.int .i64 o.kind, .slice A o.l.length c, .int .i64 o.n, .string o.path, .int .i64 o.most]] w (PlayedPost F G gh gr first w) := by
  by_cases h1 : o.kind = 1
  · rw [h1]; exact played_push o.n o.most A c P o.l o.path w he k hr hs.len hs.texts hout
  · by_cases h2 : o.kind = 2
    · rw [h2]; exact played_since o.n o.most A o.l.length c o.path w he.ml k hs.path
    · exact played_none o.kind o.n o.most A o.l.length c o.path w k h1 h2

/-- two pairs of hubs, all of this call's own; none has the block z -/
structure Two (w wr : World) (z a x b y : Nat) (f1 f2 : Int) : Prop where
  ex : ∃ F1 G1 p1 d1 F2 G2 p2 d2, PairOf F1 G1 wr a x f1 p1 d1 ∧ PairOf F2 G2 wr b y f2 p2 d2 ∧ (∀ t, (F1 t ∨ G1 t) → ¬ (F2 t ∨ G2 t)) ∧ (∀ t, ((F1 t ∨ G1 t) ∨ (F2 t ∨ G2 t)) → w.heap.size ≤ t ∧ t < wr.heap.size ∧ t ≠ z)
  bel : Below w.heap.size w wr
section
variable {w wr w' : World} {z a x b y : Nat} {f1 f2 : Int}
theorem Two.swap (h : Two w wr z a x b y f1 f2) : Two w wr z b y a x f2 f1 :=
  let ⟨F1, G1, p1, d1, F2, G2, p2, d2, h1, h2, h3, h4⟩ := h.ex
  ⟨⟨F2, G2, p2, d2, F1, G1, p1, d1, h2, h1, fun t ht1 ht2 => h3 t ht2 ht1, fun t ht => h4 t ht.symm⟩, h.bel⟩
theorem Two.below (h : Two w wr z a x b y f1 f2) (hb : Below wr.heap.size wr w') : Two w w' z a x b y f1 f2 :=
  let ⟨F1, G1, p1, d1, F2, G2, p2, d2, h1, h2, h3, h4⟩ := h.ex
  ⟨⟨F1, G1, p1, d1, F2, G2, p2, d2, h1.below hb, h2.below hb, h3, fun t ht => let h := h4 t ht; ⟨h.1, Nat.lt_of_lt_of_le h.2.1 hb.size, h.2.2⟩⟩, h.bel.trans (hb.mono h.bel.size)⟩
theorem Two.write (h : Two w wr z a x b y f1 f2) (j : Nat) (u : Value) (hz : w.heap.size ≤ z) : Two w (wr.setCell ⟨z, j, none⟩ u) z a x b y f1 f2 :=
  let ⟨F1, G1, p1, d1, F2, G2, p2, d2, h1, h2, h3, h4⟩ := h.ex
  ⟨⟨F1, G1, p1, d1, F2, G2, p2, d2, h1.move fun t ht _ => Below.heap_setCell _ _ _ _ (h4 t (.inl ht)).2.2, h2.move fun t ht _ => Below.heap_setCell _ _ _ _ (h4 t (.inr ht)).2.2, h3, fun t ht => let h := h4 t ht; ⟨h.1, by simpa [World.setCell] using h.2.1, h.2.2⟩⟩, h.bel.setCell hz _⟩
theorem Two.fresh (h : Two w wr z a x b y f1 f2) (o : Obj) : Two w (wr.alloc o) wr.heap.size a x b y f1 f2 :=
  let ⟨F1, G1, p1, d1, F2, G2, p2, d2, h1, h2, h3, h4⟩ := (h.below ((Below.refl _ _).alloc (Nat.le_refl _) o)).ex
  let ⟨F1, G1, p1, d1, F2, G2, p2, d2, h1, h2, h3, h4⟩ := h.ex
  have hb : Below wr.heap.size wr (wr.alloc o) := (Below.refl _ _).alloc (Nat.le_refl _) o
  ⟨⟨F1, G1, p1, d1, F2, G2, p2, d2, h1.below hb, h2.below hb, h3, fun t ht => let h := h4 t ht; ⟨h.1, Nat.lt_of_lt_of_le h.2.1 hb.size, by have := h.2.1; omega⟩⟩, h.bel.trans (hb.mono h.bel.size)⟩
end
def TwoPost (w wr : World) (z a x b y : Nat) (f1 f2 : Int) (e : Ending) (w' : World) : Prop := e = .returned (.bool true) ∧ Two w w' z a x b y f1 f2 ∧ w'.heap[z]? = wr.heap[z]?
theorem two_play1 {w wr : World} {z a x b y : Nat} {f1 f2 : Int} (h : Two w wr z a x b y f1 f2) (he : Env w) (hz : z < wr.heap.size) (o : OpV) (A : Option Addr) (c : Nat) (P : Nat → Prop) (hr : Row kEvent P wr A o.l) (hs : OpSmall o) :
    Calls Tryd.prog 17 #[.pointer (some ⟨a, 0, none⟩), .pointer (some ⟨x, 0, none⟩), .agg #[.int .i64 o.kind, .slice A o.l.length c, .int .i64 o.n, .string o.path, .int .i64 o.most]] wr (TwoPost w wr z a x b y f1 f2) := by
  obtain ⟨F1, G1, p1, d1, F2, G2, p2, d2, h1, h2, h3, h4⟩ := h.ex
  have hlow := he.low
  refine (played_any o A c P wr (he.below h.bel) h1 hr hs fun t ht => ?_).mono fun e w' hp => ?_
  · have := (h4 t (.inl ht)).1; omega
  · obtain ⟨he2, F', G', ps', d', k1, k2, ht⟩ := hp
    have hsz := ht.size
    refine ⟨he2, ⟨⟨_, _, ps', d', F2, G2, p2, d2, k1.bound, h2.turn ht fun t ht2 ht1 => h3 t ht1 ht2, ?_, ?_⟩, ?_⟩, ?_⟩
    · intro t ht1 ht2
      have q := (h4 t (.inr ht2)).2.1
      rcases k2 t (ht1.imp (fun h => h.1) (fun h => h.1)) with h5 | h5
      · exact h3 t h5.1 ht2
      · omega
    · rintro t (ht1 | ht2)
      · have hl : t < w'.heap.size := ht1.elim (fun h => h.2) (fun h => h.2)
        rcases k2 t (ht1.imp (fun h => h.1) (fun h => h.1)) with h5 | h5
        · have := h4 t (.inl h5.1); exact ⟨this.1, hl, this.2.2⟩
        · have := h.bel.size; exact ⟨by omega, hl, by omega⟩
      · have := h4 t (.inr ht2); exact ⟨this.1, by omega, this.2.2⟩
    · exact h.bel.trans (ht.below h.bel.size fun t ht1 => (h4 t (.inl ht1)).1)
    · exact ht.block z hz fun ht1 => (h4 z (.inl ht1)).2.2 rfl
theorem two_play2 {w wr : World} {z a x b y : Nat} {f1 f2 : Int} (h : Two w wr z a x b y f1 f2) (he : Env w) (hz : z < wr.heap.size) (o : OpV) (A : Option Addr) (c : Nat) (P : Nat → Prop) (hr : Row kEvent P wr A o.l) (hs : OpSmall o) :
    Calls Tryd.prog 17 #[.pointer (some ⟨b, 0, none⟩), .pointer (some ⟨y, 0, none⟩), .agg #[.int .i64 o.kind, .slice A o.l.length c, .int .i64 o.n, .string o.path, .int .i64 o.most]] wr (TwoPost w wr z a x b y f1 f2) :=
  (two_play1 h.swap he hz o A c P hr hs).mono fun e w' hp => ⟨hp.1, hp.2.1.swap, hp.2.2⟩

/-- two hubs that New and the document's New made of one version -/
theorem clamp_hub (v : Int) : hubNew v = hubOf (clampV v) [] 0 ∧ HistOk (clampV v) [] 0 := by
  refine ⟨?_, by unfold clampV; omega, by unfold clampV; simp; omega, by simp, by simp, by simp, by simp [sumL], by simp⟩
  unfold hubNew hubOf clampV
  simp [sumL]
theorem two_start {w w1 w2 w3 w4 : World} {a b x y : Nat} {v1 v2 : Int} (hm : Env w)
    (ha : w.heap.size ≤ a) (h1 : IsHub (fun t => t = a) w1 a (hubNew v1)) (b1 : Below w.heap.size w w1)
    (hb : w1.heap.size ≤ b) (h2 : IsHub (fun t => t = b) w2 b (hubNew v2)) (b2 : Below w1.heap.size w1 w2)
    (hx : w2.heap.size ≤ x) (h3 : IsRH (fun t => t = x) w3 x (clampV v1) (clampV v1) [] none 0) (b3 : Below w2.heap.size w2 w3)
    (hy : w3.heap.size ≤ y) (h4 : IsRH (fun t => t = y) w4 y (clampV v2) (clampV v2) [] none 0) (b4 : Below w3.heap.size w3 w4) :
    Two w w4 0 a x b y (clampV v1) (clampV v2) := by
  have hla := h1.bound.1.2
  have hlb := h2.bound.1.2
  have hlx := h3.lt
  have hly := h4.lt
  have s1 := b1.size
  have s2 := b2.size
  have s3 := b3.size
  have s4 := b4.size
  have hlow := hm.low
  obtain ⟨c1, c2⟩ := clamp_hub v1
  obtain ⟨d1, d2⟩ := clamp_hub v2
  rw [c1] at h1
  rw [d1] at h2
  refine ⟨⟨_, _, [], 0, _, _, [], 0, ⟨((h1.below b2).below b3).below b4, ⟨⟨none, 0, by simpa using h3.below b4⟩, c2, by simp⟩, ?_⟩, ⟨(h2.below b3).below b4, ⟨⟨none, 0, by simpa using h4⟩, d2, by simp⟩, ?_⟩, ?_, ?_⟩, b1.trans ((b2.trans ((b3.trans (b4.mono s3)).mono s2)).mono s1)⟩
  · rintro t rfl h; omega
  · rintro t rfl h; omega
  · rintro t (rfl | rfl) (h | h) <;> omega
  · rintro t ((rfl | rfl) | (rfl | rfl)) <;> omega
end Go.Proofs.YtdchffghgajbfaaDoor
