/- Laid together: J57 J58. -/
import Derived.Test.YtalkdddeiebfmaaGreatDoorJJ
/- A step of a script on ledgers: in memory, in plain words. -/
namespace Go.Proofs.YtalkdddeiebfmaaGreatDoor
open Go.RowKit

structure OpM where
  two : Bool
  kind : Int
  o : ObjM
  p : ObjM
  s : ScV
  r : ByteArray
def kOp17 : Kn OpM := Kn.iso (Kn.pair kBool (Kn.pair (Kn.int .i64) (Kn.pair kObj (Kn.pair kObj (Kn.pair kSc Kn.str))))) (fun x : OpM => (x.two, x.kind, x.o, x.p, x.s, x.r))
theorem kOp17_sz : kOp17.sz = 19 := rfl
theorem kObj_cells {P : Nat → Prop} {w : World} {o : ObjM} {cs : List Value} (h : kObj.R P w o cs) : ∃ (L : Option Addr) (m : Nat) (B : Option Addr) (c : Nat), cs = [.string o.path, .string o.name, .slice L o.ls.length m, .int .i64 o.prio, .int .i64 o.dl, .slice B o.parts.length c, .int .i64 o.ver] ∧ Row kLab P w L o.ls ∧ Row kPart P w B o.parts := by
  obtain ⟨c1, c2, rfl, h1, c3, c4, rfl, h3, c5, c6, rfl, ⟨L, m, rfl, hrow⟩, c7, c8, rfl, h7, c9, c10, rfl, h9, c11, c12, rfl, ⟨v2, rfl, B, c, rfl, _, _, hrow2⟩, h11⟩ := h
  obtain rfl : c1 = [.string o.path] := h1
  obtain rfl : c3 = [.string o.name] := h3
  obtain rfl : c7 = [.int .i64 o.prio] := h7
  obtain rfl : c9 = [.int .i64 o.dl] := h9
  obtain rfl : c12 = [.int .i64 o.ver] := h11
  exact ⟨L, m, B, c, rfl, hrow, hrow2⟩
/-- where a step's lists lie -/
structure OpAd where
  L : Option Addr
  m : Nat
  B : Option Addr
  c : Nat
  L' : Option Addr
  m' : Nat
  B' : Option Addr
  c' : Nat
structure OpRows (P : Nat → Prop) (w : World) (x : OpM) (d : OpAd) : Prop where
  l1 : Row kLab P w d.L x.o.ls
  p1 : Row kPart P w d.B x.o.parts
  l2 : Row kLab P w d.L' x.p.ls
  p2 : Row kPart P w d.B' x.p.parts
section
variable {P T : Nat → Prop} {w w' : World} {x : OpM} {d : OpAd}
theorem OpRows.below (h : OpRows P w x d) (hb : Below w.heap.size w w') : OpRows P w' x d := ⟨h.l1.below hb, h.p1.below hb, h.l2.below hb, h.p2.below hb⟩
theorem OpRows.turn (h : OpRows P w x d) (ht : Turn T w w') (hT : ∀ k, P k → ¬ T k) : OpRows P w' x d := ⟨h.l1.turn ht hT, h.p1.turn ht hT, h.l2.turn ht hT, h.p2.turn ht hT⟩
end
/-- a step's cells -/
structure OpCells (w : World) (a : Addr) (x : OpM) (d : OpAd) : Prop where
  c0 : w.cell? a = some (.bool x.two)
  c1 : w.cell? ⟨a.block, a.off + 1, none⟩ = some (.int .i64 x.kind)
  c2 : w.cell? ⟨a.block, a.off + 2, none⟩ = some (.string x.o.path)
  c3 : w.cell? ⟨a.block, a.off + 3, none⟩ = some (.string x.o.name)
  c4 : w.cell? ⟨a.block, a.off + 4, none⟩ = some (.slice d.L x.o.ls.length d.m)
  c5 : w.cell? ⟨a.block, a.off + 5, none⟩ = some (.int .i64 x.o.prio)
  c6 : w.cell? ⟨a.block, a.off + 6, none⟩ = some (.int .i64 x.o.dl)
  c7 : w.cell? ⟨a.block, a.off + 7, none⟩ = some (.slice d.B x.o.parts.length d.c)
  c8 : w.cell? ⟨a.block, a.off + 8, none⟩ = some (.int .i64 x.o.ver)
  c9 : w.cell? ⟨a.block, a.off + 9, none⟩ = some (.string x.p.path)
  c10 : w.cell? ⟨a.block, a.off + 10, none⟩ = some (.string x.p.name)
  c11 : w.cell? ⟨a.block, a.off + 11, none⟩ = some (.slice d.L' x.p.ls.length d.m')
  c12 : w.cell? ⟨a.block, a.off + 12, none⟩ = some (.int .i64 x.p.prio)
  c13 : w.cell? ⟨a.block, a.off + 13, none⟩ = some (.int .i64 x.p.dl)
  c14 : w.cell? ⟨a.block, a.off + 14, none⟩ = some (.slice d.B' x.p.parts.length d.c')
  c15 : w.cell? ⟨a.block, a.off + 15, none⟩ = some (.int .i64 x.p.ver)
  c16 : w.cell? ⟨a.block, a.off + 16, none⟩ = some (.int .i64 x.s.kind)
  c17 : w.cell? ⟨a.block, a.off + 17, none⟩ = some (.int .i64 x.s.arg)
  c18 : w.cell? ⟨a.block, a.off + 18, none⟩ = some (.string x.r)
theorem op_at {P : Nat → Prop} {w : World} {A : Option Addr} {xs : List OpM} (h : Row kOp17 P w A xs) (i : Nat) (hi : i < xs.length) : ∃ a d, A = some a ∧ P a.block ∧ OpCells w (a.add (i * 19)) xs[i] d ∧ OpRows P w xs[i] d := by
  obtain ⟨a, cs, hA, hP, hr, hc⟩ := h.at_ i hi
  obtain ⟨c1, c2, rfl, h1, c3, c4, rfl, h3, c5, c6, rfl, h5, c7, c8, rfl, h7, c9, c10, rfl, h9, h11⟩ := hr
  obtain rfl : c1 = [.bool xs[i].two] := h1
  obtain rfl : c3 = [.int .i64 xs[i].kind] := h3
  obtain ⟨L, m, B, c, rfl, hl1, hp1⟩ := kObj_cells h5
  obtain ⟨L', m', B', c', rfl, hl2, hp2⟩ := kObj_cells h7
  obtain rfl : c9 = [.int .i64 xs[i].s.kind, .int .i64 xs[i].s.arg] := h9
  obtain rfl : c10 = [.string xs[i].r] := h11
  have hk : ∀ (j : Nat) (v : Value), ([Value.bool xs[i].two] ++ ([Value.int .i64 xs[i].kind] ++ ([.string xs[i].o.path, .string xs[i].o.name, .slice L xs[i].o.ls.length m, .int .i64 xs[i].o.prio, .int .i64 xs[i].o.dl, .slice B xs[i].o.parts.length c, .int .i64 xs[i].o.ver] ++ ([.string xs[i].p.path, .string xs[i].p.name, .slice L' xs[i].p.ls.length m', .int .i64 xs[i].p.prio, .int .i64 xs[i].p.dl, .slice B' xs[i].p.parts.length c', .int .i64 xs[i].p.ver] ++ ([.int .i64 xs[i].s.kind, .int .i64 xs[i].s.arg] ++ [.string xs[i].r])))))[j]? = some v → 1 ≤ j →
      w.cell? ⟨(a.add (i * 19)).block, (a.add (i * 19)).off + j, none⟩ = some v := fun j v hv hj => by
    rw [← add_off _ _ j (by omega)]; exact hc j _ hv
  exact ⟨a, ⟨L, m, B, c, L', m', B', c'⟩, hA, hP, ⟨hc 0 _ rfl, hk 1 _ rfl (by decide), hk 2 _ rfl (by decide), hk 3 _ rfl (by decide), hk 4 _ rfl (by decide), hk 5 _ rfl (by decide), hk 6 _ rfl (by decide), hk 7 _ rfl (by decide), hk 8 _ rfl (by decide), hk 9 _ rfl (by decide), hk 10 _ rfl (by decide), hk 11 _ rfl (by decide), hk 12 _ rfl (by decide), hk 13 _ rfl (by decide), hk 14 _ rfl (by decide), hk 15 _ rfl (by decide), hk 16 _ rfl (by decide), hk 17 _ rfl (by decide), hk 18 _ rfl (by decide)⟩, hl1, hp1, hl2, hp2⟩
/-- a step's own box -/
structure OpBox (w : World) (b : Nat) (x : OpM) (d : OpAd) : Prop where
  blk : w.heap[b]? = some (.cells #[.bool x.two, .int .i64 x.kind, .string x.o.path, .string x.o.name, .slice d.L x.o.ls.length d.m, .int .i64 x.o.prio, .int .i64 x.o.dl, .slice d.B x.o.parts.length d.c, .int .i64 x.o.ver, .string x.p.path, .string x.p.name, .slice d.L' x.p.ls.length d.m', .int .i64 x.p.prio, .int .i64 x.p.dl, .slice d.B' x.p.parts.length d.c', .int .i64 x.p.ver, .int .i64 x.s.kind, .int .i64 x.s.arg, .string x.r] 58 (0, 0))
section
variable {T : Nat → Prop} {w w' : World} {b : Nat} {x : OpM} {d : OpAd}
theorem OpBox.below (h : OpBox w b x d) (hb : Below w.heap.size w w') : OpBox w' b x d := ⟨(hb.block b (Array.getElem?_eq_some_iff.1 h.blk).1).trans h.blk⟩
theorem OpBox.turn (h : OpBox w b x d) (ht : Turn T w w') (hT : ¬ T b) : OpBox w' b x d := ⟨(ht.block b (Array.getElem?_eq_some_iff.1 h.blk).1 hT).trans h.blk⟩
theorem OpBox.lit (h : OpBox w b x d) : w.cell? ⟨b, 0, none⟩ = some (.bool x.two) ∧ w.cell? ⟨b, 1, none⟩ = some (.int .i64 x.kind) ∧ w.cell? ⟨b, 2, none⟩ = some (.string x.o.path) ∧ w.cell? ⟨b, 3, none⟩ = some (.string x.o.name) ∧ w.cell? ⟨b, 4, none⟩ = some (.slice d.L x.o.ls.length d.m) ∧ w.cell? ⟨b, 5, none⟩ = some (.int .i64 x.o.prio) ∧ w.cell? ⟨b, 6, none⟩ = some (.int .i64 x.o.dl) ∧ w.cell? ⟨b, 7, none⟩ = some (.slice d.B x.o.parts.length d.c) ∧ w.cell? ⟨b, 8, none⟩ = some (.int .i64 x.o.ver) ∧ w.cell? ⟨b, 9, none⟩ = some (.string x.p.path) ∧ w.cell? ⟨b, 10, none⟩ = some (.string x.p.name) ∧ w.cell? ⟨b, 11, none⟩ = some (.slice d.L' x.p.ls.length d.m') ∧ w.cell? ⟨b, 12, none⟩ = some (.int .i64 x.p.prio) ∧ w.cell? ⟨b, 13, none⟩ = some (.int .i64 x.p.dl) ∧ w.cell? ⟨b, 14, none⟩ = some (.slice d.B' x.p.parts.length d.c') ∧ w.cell? ⟨b, 15, none⟩ = some (.int .i64 x.p.ver) ∧ w.cell? ⟨b, 16, none⟩ = some (.int .i64 x.s.kind) ∧ w.cell? ⟨b, 17, none⟩ = some (.int .i64 x.s.arg) ∧ w.cell? ⟨b, 18, none⟩ = some (.string x.r) := by
  have hk : ∀ (j : Nat), w.cell? ⟨b, j, none⟩ = _ := fun j => cell_of_row _ _ _ _ _ _ h.blk
  exact ⟨(hk 0).trans rfl, (hk 1).trans rfl, (hk 2).trans rfl, (hk 3).trans rfl, (hk 4).trans rfl, (hk 5).trans rfl, (hk 6).trans rfl, (hk 7).trans rfl, (hk 8).trans rfl, (hk 9).trans rfl, (hk 10).trans rfl, (hk 11).trans rfl, (hk 12).trans rfl, (hk 13).trans rfl, (hk 14).trans rfl, (hk 15).trans rfl, (hk 16).trans rfl, (hk 17).trans rfl, (hk 18).trans rfl⟩
end
/-- what the walks want of a step -/
structure OpFit (x : OpM) : Prop where
  o : ObjMFit x.o
  p : ObjMFit x.p
  po : x.o.path.size ≤ 1073741824
  pp : x.p.path.size ≤ 1073741824
  sk : in64 x.s.kind
  sa : in64 x.s.arg
  rs : StOk x.r
def opWt (x : OpM) : Nat := objWt x.o + objWt x.p
def opUs (x : OpM) : Nat := (usesU x.o.v).length + (usesU x.p.v).length
theorem releaseV_ok {m : Nat} {S : Pl → Int} {C : ByteArray → Int} {o : ObjV} (k : LedOk m S C) (ho : UseOk o) : LedOk m (releaseV S C o).2.1 (releaseV S C o).2.2 := by
  by_cases h : (releaseV S C o).1 = 0
  · exact k.rel ho h
  · have hg : ¬ (goneV S C o).2.2 = 0 := by rw [gone_release]; exact h
    unfold releaseV
    rw [if_neg hg]
    exact k
theorem changeV_ok {m : Nat} {S : Pl → Int} {C : ByteArray → Int} {o p : ObjM} (k : LedOk m S C) (ho : ObjMOk o) (hp : ObjMOk p) : LedOk (m + objWt p) (changeV S C o.v p.v).2.1 (changeV S C o.v p.v).2.2 := by
  have h1 := chargeV_ok (releaseV_ok k ho.use) hp
  unfold changeV
  split
  · exact k.mono (by omega)
  · split
    · exact k.mono (by omega)
    · exact h1
/-- the program's ledger and the document's, of one history -/
structure Both (w : World) (N g b1 b2 gr m a b : Nat) (S : Pl → Int) (C : ByteArray → Int) (es : List EntV) : Prop where
  led : IsLed w g b1 b2 m S C
  ok : LedOk m S C
  rl : IsRL w gr (fun k => N ≤ k) es
  rel : Rel es S C
  esz : ESz es a b
  glo : gr < N
  llo : ∀ i, ledB g b1 b2 i → i < N ∧ i ≠ gr
abbrev bothB (g b1 b2 gr : Nat) : Nat → Prop := fun i => ledB g b1 b2 i ∨ i = gr
section
variable {w w' : World} {N g b1 b2 gr m a b : Nat} {S : Pl → Int} {C : ByteArray → Int} {es : List EntV}
theorem Both.below (k : Both w N g b1 b2 gr m a b S C es) (hb : Below w.heap.size w w') : Both w' N g b1 b2 gr m a b S C es := ⟨k.led.below hb, k.ok, k.rl.below hb, k.rel, k.esz, k.glo, k.llo⟩
theorem Both.turn {T : Nat → Prop} (k : Both w N g b1 b2 gr m a b S C es) (ht : Turn T w w') (h1 : ∀ i, T i → i < N ∧ ¬ bothB g b1 b2 gr i) : Both w' N g b1 b2 gr m a b S C es :=
  ⟨k.led.turn ht fun i hi hT => (h1 i hT).2 (.inl hi), k.ok, k.rl.turn ht fun i hT => ⟨fun e => (h1 i hT).2 (.inr e), by have := (h1 i hT).1; omega⟩, k.rel, k.esz, k.glo, k.llo⟩
theorem Both.mono (k : Both w N g b1 b2 gr m a b S C es) {m' a' b' : Nat} (h1 : m ≤ m') (h2 : a ≤ a') (h3 : b ≤ b') : Both w N g b1 b2 gr m' a' b' S C es := ⟨k.led.mono h1, k.ok.mono h1, k.rl, k.rel, k.esz.mono h2 h3, k.glo, k.llo⟩
end
end Go.Proofs.YtalkdddeiebfmaaGreatDoor
/- One step on both ledgers: the walks of bursarlaw17.plays (printed by mkplays.py). -/
namespace Go.Proofs.YtalkdddeiebfmaaGreatDoor
open Go.RowKit

/-- what a step on both is asked of -/
structure PlayIn (w : World) (x : OpM) (d : OpAd) (P : Nat → Prop) (N g b1 b2 gr m a b : Nat) (S : Pl → Int) (C : ByteArray → Int) (es : List EntV) : Prop where
  ml : Ml w
  tx : TextsAt w
  rows : OpRows P w x d
  fit : OpFit x
  both : Both w N g b1 b2 gr m a b S C es
  far : ∀ i, P i → ¬ bothB g b1 b2 gr i
  low : N ≤ w.heap.size
  sg : ¬ bothB g b1 b2 gr 1
  st : ¬ bothB g b1 b2 gr 0
  hm : m ≤ 1099511627776
  ha : a ≤ 100000000
  hb : b ≤ 1073741823
def PlaysPost (N g b1 b2 gr m a b : Nat) (w : World) (e : Ending) (w' : World) : Prop := e = .returned (.bool true) ∧ (∃ S C es, Both w' N g b1 b2 gr m a b S C es) ∧ Turn (bothB g b1 b2 gr) w w'
section
variable {w w' : World} {x : OpM} {d : OpAd} {P : Nat → Prop} {N g b1 b2 gr m a b : Nat} {S : Pl → Int} {C : ByteArray → Int} {es : List EntV}
theorem PlayIn.below (h : PlayIn w x d P N g b1 b2 gr m a b S C es) (hb : Below w.heap.size w w') : PlayIn w' x d P N g b1 b2 gr m a b S C es :=
  ⟨h.ml.below hb, h.tx.below hb, h.rows.below hb, h.fit, h.both.below hb, h.far, Nat.le_trans h.low hb.size, h.sg, h.st, h.hm, h.ha, h.hb⟩
theorem PlayIn.fo (h : PlayIn w x d P N g b1 b2 gr m a b S C es) : ObjFit w (x.o.at_ d.L d.m) d.B x.o.ls := ⟨h.rows.p1.mono fun _ _ => trivial, ⟨d.L, d.m, rfl, h.rows.l1.mono fun _ _ => trivial⟩, h.fit.o.n64, h.fit.o.n24, h.fit.o.n32⟩
theorem PlayIn.fp (h : PlayIn w x d P N g b1 b2 gr m a b S C es) : ObjFit w (x.p.at_ d.L' d.m') d.B' x.p.ls := ⟨h.rows.p2.mono fun _ _ => trivial, ⟨d.L', d.m', rfl, h.rows.l2.mono fun _ _ => trivial⟩, h.fit.p.n64, h.fit.p.n24, h.fit.p.n32⟩
theorem PlayIn.ro (h : PlayIn w x d P N g b1 b2 gr m a b S C es) : RArg w x.o.v d.B P := ⟨h.rows.p1, by have := h.fit.o.n64; show x.o.parts.length ≤ _; omega, h.fit.o.ok.small, h.fit.o.ok.use, h.fit.po⟩
theorem PlayIn.rp (h : PlayIn w x d P N g b1 b2 gr m a b S C es) : RArg w x.p.v d.B' P := ⟨h.rows.p2, by have := h.fit.p.n64; show x.p.parts.length ≤ _; omega, h.fit.p.ok.small, h.fit.p.ok.use, h.fit.pp⟩
theorem PlayIn.new (h : PlayIn w x d P N g b1 b2 gr m a b S C es) {i : Nat} (hi : w.heap.size ≤ i) : ¬ bothB g b1 b2 gr i := fun e => by
  have h1 := h.low
  rcases e with e | e
  · have := (h.both.llo i e).1; omega
  · have := h.both.glo; omega
theorem Both.step (k : Both w N g b1 b2 gr m a b S C es) {n m' a' b' : Nat} {S' : Pl → Int} {C' : ByteArray → Int} {es' : List EntV} (hled : IsLed w' g b1 b2 n S' C') (hok : LedOk m' S' C') (hrl : IsRL w' gr (fun k => N ≤ k) es') (hrel : Rel es' S' C') (hesz : ESz es' a' b') : Both w' N g b1 b2 gr m' a' b' S' C' es' :=
  ⟨hled.tight hok, hok, hrl, hrel, hesz, k.glo, k.llo⟩
theorem RArg.turn {T : Nat → Prop} {o : ObjV} {B : Option Addr} (h : RArg w o B P) (ht : Turn T w w') (hP : ∀ k, P k → ¬ T k) : RArg w' o B P := ⟨h.row.turn ht hP, h.len, h.small, h.use, h.path⟩
theorem BJp {w0 w1 w2 : World} (h : Below w1.heap.size w1 w2) (k : Below w0.heap.size w0 w1) : Below w0.heap.size w0 w2 := k.trans (h.mono k.size)
theorem TJ {T T' : Nat → Prop} {w0 w1 w2 : World} (h : Turn T' w1 w2) (h0 : Turn T w0 w1) (hT : ∀ i, T' i → T i) : Turn T w0 w2 := h0.trans (h.mono fun i _ hi => .inl (hT i hi))
end
theorem oarg_row {P : Nat → Prop} {w : World} {o : ObjM} {B : Option Addr} (L : Option Addr) (m : Nat) (h : Row kPart P w B o.parts) (f : ObjMOk o) (hm : Ml w) (ht : TextsAt w) : OArg w o.v L o.ls.length m B P :=
  ⟨hm, ht, ⟨⟨L, _, m, rfl⟩, h, f.len, f.small⟩, f.use⟩
end Go.Proofs.YtalkdddeiebfmaaGreatDoor
