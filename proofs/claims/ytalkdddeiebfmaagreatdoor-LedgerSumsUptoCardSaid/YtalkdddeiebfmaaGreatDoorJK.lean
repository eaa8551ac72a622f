/- Laid together: J57 J58. -/
import Derived.Test.YtalkdddeiebfmaaGreatDoorJJ
/- A step of a script on ledgers: in memory, in plain words. -/
namespace Go.Proofs.YtalkdddeiebfmaaGreatDoor
open Go.RowKit

structure OpM where
  two : Bool
  kind : Int
  o : ObjM
  p : ObjM
  s : ScV
  r : ByteArray
def kOp17 : Kn OpM := Kn.iso (Kn.pair kBool (Kn.pair (Kn.int .i64) (Kn.pair kObj (Kn.pair kObj (Kn.pair kSc Kn.str))))) (fun x : OpM => (x.two, x.kind, x.o, x.p, x.s, x.r))
theorem kOp17_sz : kOp17.sz = 19 := rfl
theorem kObj_cells {P : Nat → Prop} {w : World} {o : ObjM} {cs : List Value} (h : kObj.R P w o cs) : ∃ (L : Option Addr) (m : Nat) (B : Option Addr) (c : Nat), cs = [.string o.path, .string o.name, .slice L o.ls.length m, .int .i64 o.prio, .int .i64 o.dl, .slice B o.parts.length c, .int .i64 o.ver] ∧ Row kLab P w L o.ls ∧ Row kPart P w B o.parts := by
  obtain ⟨c1, c2, rfl, h1, c3, c4, rfl, h3, c5, c6, rfl, ⟨L, m, rfl, hrow⟩, c7, c8, rfl, h7, c9, c10, rfl, h9, c11, c12, rfl, ⟨v2, rfl, B, c, rfl, _, _, hrow2⟩, h11⟩ := h
  obtain rfl : c1 = [.string o.path] := h1
  obtain rfl : c3 = [.string o.name] := h3
  obtain rfl : c7 = [.int .i64 o.prio] := h7
  obtain rfl : c9 = [.int .i64 o.dl] := h9
  obtain rfl : c12 = [.int .i64 o.ver] := h11
  exact ⟨L, m, B, c, rfl, hrow, hrow2⟩
/-- where a step's lists lie -/
structure OpAd where
  L : Option Addr
  m : Nat
  B : Option Addr
  c : Nat
  L' : Option Addr
  m' : Nat
  B' : Option Addr
  c' : Nat
structure OpRows (P : Nat → Prop) (w : World) (x : OpM) (d : OpAd) : Prop where
  l1 : Row kLab P w d.L x.o.ls
  p1 : Row kPart P w d.B x.o.parts
  l2 : Row kLab P w d.L' x.p.ls
  p2 : Row kPart P w d.B' x.p.parts
section
variable {P T : Nat → Prop} {w w' : World} {x : OpM} {d : OpAd}
theorem OpRows.below (h : OpRows P w x d) (hb : Below w.heap.size w w') : OpRows P w' x d := ⟨h.l1.below hb, h.p1.below hb, h.l2.below hb, h.p2.below hb⟩
theorem OpRows.turn (h : OpRows P w x d) (ht : Turn T w w') (hT : ∀ k, P k → ¬ T k) : OpRows P w' x d := ⟨h.l1.turn ht hT, h.p1.turn ht hT, h.l2.turn ht hT, h.p2.turn ht hT⟩
end
/-- a step's cells -/
structure OpCells (w : World) (a : Addr) (x : OpM) (d : OpAd) : Prop where
  c0 : w.cell? a = some (.bool x.two)
  c1 : w.cell? ⟨a.block, a.off + 1, none⟩ = some (.int .i64 x.kind)
  c2 : w.cell? ⟨a.block, a.off + 2, none⟩ = some (.string x.o.path)
  c3 : w.cell? ⟨a.block, a.off + 3, none⟩ = some (.string x.o.name)
  c4 : w.cell? ⟨a.block, a.off + 4, none⟩ = some (.slice d.L x.o.ls.length d.m)
  c5 : w.cell? ⟨a.block, a.off + 5, none⟩ = some (.int .i64 x.o.prio)
  c6 : w.cell? ⟨a.block, a.off + 6, none⟩ = some (.int .i64 x.o.dl)
  c7 : w.cell? ⟨a.block, a.off + 7, none⟩ = some (.slice d.B x.o.parts.length d.c)
  c8 : w.cell? ⟨a.block, a.off + 8, none⟩ = some (.int .i64 x.o.ver)
  c9 : w.cell? ⟨a.block, a.off + 9, none⟩ = some (.string x.p.path)
  c10 : w.cell? ⟨a.block, a.off + 10, none⟩ = some (.string x.p.name)
  c11 : w.cell? ⟨a.block, a.off + 11, none⟩ = some (.slice d.L' x.p.ls.length d.m')
  c12 : w.cell? ⟨a.block, a.off + 12, none⟩ = some (.int .i64 x.p.prio)
  c13 : w.cell? ⟨a.block, a.off + 13, none⟩ = some (.int .i64 x.p.dl)
  c14 : w.cell? ⟨a.block, a.off + 14, none⟩ = some (.slice d.B' x.p.parts.length d.c')
  c15 : w.cell? ⟨a.block, a.off + 15, none⟩ = some (.int .i64 x.p.ver)
  c16 : w.cell? ⟨a.block, a.off + 16, none⟩ = some (.int .i64 x.s.kind)
  c17 : w.cell? ⟨a.block, a.off + 17, none⟩ = some (.int .i64 x.s.arg)
  c18 : w.cell? ⟨a.block, a.off + 18, none⟩ = some (.string x.r)
theorem op_at {P : Nat → Prop} {w : World} {A : Option Addr} {xs : List OpM} (h : Row kOp17 P w A xs) (i : Nat) (hi : i < xs.length) : ∃ a d, A = some a ∧ P a.block ∧ OpCells w (a.add (i * 19)) xs[i] d ∧ OpRows P w xs[i] d := by
  obtain ⟨a, cs, hA, hP, hr, hc⟩ := h.at_ i hi
  obtain ⟨c1, c2, rfl, h1, c3, c4, rfl, h3, c5, c6, rfl, h5, c7, c8, rfl, h7, c9, c10, rfl, h9, h11⟩ := hr
  obtain rfl : c1 = [.bool xs[i].two] := h1
  obtain rfl : c3 = [.int .i64 xs[i].kind] := h3
  obtain ⟨L, m, B, c, rfl, hl1, hp1⟩ := kObj_cells h5
  obtain ⟨L', m', B', c', rfl, hl2, hp2⟩ := kObj_cells h7
  obtain rfl : c9 = [.int .i64 xs[i].s.kind, .int .i64 xs[i].s.arg] := h9
  obtain rfl : c10 = [.string xs[i].r] := h11
  have hk : ∀ (j : Nat) (v : Value), ([Value.bool xs[i].two] ++ ([Value.int .i64 xs[i].kind] ++ ([.string xs[i].o.path, .string xs[i].o.name, .slice L xs[i].o.ls.length m, .int .i64 xs[i].o.prio, .int .i64 xs[i].o.dl, .slice B xs[i].o.parts.length c, .int .i64 xs[i].o.ver] ++ ([.string xs[i].p.path, .string xs[i].p.name, .slice L' xs[i].p.ls.length m', .int .i64 xs[i].p.prio, .int .i64 xs[i].p.dl, .slice B' xs[i].p.parts.length c', .int .i64 xs[i].p.ver] ++ ([.int .i64 xs[i].s.kind, .int .i64 xs[i].s.arg] ++ [.string xs[i].r])))))[j]? = some v → 1 ≤ j →
      w.cell? ⟨(a.add (i * 19)).block, (a.add (i * 19)).off + j, none⟩ = some v := fun j v hv hj => by
    rw [← add_off _ _ j (by omega)]; exact hc j _ hv
  exact ⟨a, ⟨L, m, B, c, L', m', B', c'⟩, hA, hP, ⟨hc 0 _ rfl, hk 1 _ rfl (by decide), hk 2 _ rfl (by decide), hk 3 _ rfl (by decide), hk 4 _ rfl (by decide), hk 5 _ rfl (by decide), hk 6 _ rfl (by decide), hk 7 _ rfl (by decide), hk 8 _ rfl (by decide), hk 9 _ rfl (by decide), hk 10 _ rfl (by decide), hk 11 _ rfl (by decide), hk 12 _ rfl (by decide), hk 13 _ rfl (by decide), hk 14 _ rfl (by decide), hk 15 _ rfl (by decide), hk 16 _ rfl (by decide), hk 17 _ rfl (by decide), hk 18 _ rfl (by decide)⟩, hl1, hp1, hl2, hp2⟩
/-- a step's own box -/
structure OpBox (w : World) (b : Nat) (x : OpM) (d : OpAd) : Prop where
  blk : w.heap[b]? = some (.cells #[.bool x.two, .int .i64 x.kind, .string x.o.path, .string x.o.name, .slice d.L x.o.ls.length d.m, .int .i64 x.o.prio, .int .i64 x.o.dl, .slice d.B x.o.parts.length d.c, .int .i64 x.o.ver, .string x.p.path, .string x.p.name, .slice d.L' x.p.ls.length d.m', .int .i64 x.p.prio, .int .i64 x.p.dl, .slice d.B' x.p.parts.length d.c', .int .i64 x.p.ver, .int .i64 x.s.kind, .int .i64 x.s.arg, .string x.r] 58 (0, 0))
section
variable {T : Nat → Prop} {w w' : World} {b : Nat} {x : OpM} {d : OpAd}
theorem OpBox.below (h : OpBox w b x d) (hb : Below w.heap.size w w') : OpBox w' b x d := ⟨(hb.block b (Array.getElem?_eq_some_iff.1 h.blk).1).trans h.blk⟩
theorem OpBox.turn (h : OpBox w b x d) (ht : Turn T w w') (hT : ¬ T b) : OpBox w' b x d := ⟨(ht.block b (Array.getElem?_eq_some_iff.1 h.blk).1 hT).trans h.blk⟩
theorem OpBox.lit (h : OpBox w b x d) : w.cell? ⟨b, 0, none⟩ = some (.bool x.two) ∧ w.cell? ⟨b, 1, none⟩ = some (.int .i64 x.kind) ∧ w.cell? ⟨b, 2, none⟩ = some (.string x.o.path) ∧ w.cell? ⟨b, 3, none⟩ = some (.string x.o.name) ∧ w.cell? ⟨b, 4, none⟩ = some (.slice d.L x.o.ls.length d.m) ∧ w.cell? ⟨b, 5, none⟩ = some (.int .i64 x.o.prio) ∧ w.cell? ⟨b, 6, none⟩ = some (.int .i64 x.o.dl) ∧ w.cell? ⟨b, 7, none⟩ = some (.slice d.B x.o.parts.length d.c) ∧ w.cell? ⟨b, 8, none⟩ = some (.int .i64 x.o.ver) ∧ w.cell? ⟨b, 9, none⟩ = some (.string x.p.path) ∧ w.cell? ⟨b, 10, none⟩ = some (.string x.p.name) ∧ w.cell? ⟨b, 11, none⟩ = some (.slice d.L' x.p.ls.length d.m') ∧ w.cell? ⟨b, 12, none⟩ = some (.int .i64 x.p.prio) ∧ w.cell? ⟨b, 13, none⟩ = some (.int .i64 x.p.dl) ∧ w.cell? ⟨b, 14, none⟩ = some (.slice d.B' x.p.parts.length d.c') ∧ w.cell? ⟨b, 15, none⟩ = some (.int .i64 x.p.ver) ∧ w.cell? ⟨b, 16, none⟩ = some (.int .i64 x.s.kind) ∧ w.cell? ⟨b, 17, none⟩ = some (.int .i64 x.s.arg) ∧ w.cell? ⟨b, 18, none⟩ = some (.string x.r) := by
  have hk : ∀ (j : Nat), w.cell? ⟨b, j, none⟩ = _ := fun j => cell_of_row _ _ _ _ _ _ h.blk
  exact ⟨(hk 0).trans rfl, (hk 1).trans rfl, (hk 2).trans rfl, (hk 3).trans rfl, (hk 4).trans rfl, (hk 5).trans rfl, (hk 6).trans rfl, (hk 7).trans rfl, (hk 8).trans rfl, (hk 9).trans rfl, (hk 10).trans rfl, (hk 11).trans rfl, (hk 12).trans rfl, (hk 13).trans rfl, (hk 14).trans rfl, (hk 15).trans rfl, (hk 16).trans rfl, (hk 17).trans rfl, (hk 18).trans rfl⟩
end
/-- what the walks want of a step -/
structure OpFit (x : OpM) : Prop where
  o : ObjMFit x.o
  p : ObjMFit x.p
  po : x.o.path.size ≤ 1073741824
  pp : x.p.path.size ≤ 1073741824
  sk : in64 x.s.kind
  sa : in64 x.s.arg
  rs : StOk x.r
def opWt (x : OpM) : Nat := objWt x.o + objWt x.p
def opUs (x : OpM) : Nat := (usesU x.o.v).length + (usesU x.p.v).length
theorem releaseV_ok {m : Nat} {S : Pl → Int} {C : ByteArray → Int} {o : ObjV} (k : LedOk m S C) (ho : UseOk o) : LedOk m (releaseV S C o).2.1 (releaseV S C o).2.2 := by
  by_cases h : (releaseV S C o).1 = 0
  · exact k.rel ho h
  · have hg : ¬ (goneV S C o).2.2 = 0 := by rw [gone_release]; exact h
    unfold releaseV
    rw [if_neg hg]
    exact k
theorem changeV_ok {m : Nat} {S : Pl → Int} {C : ByteArray → Int} {o p : ObjM} (k : LedOk m S C) (ho : ObjMOk o) (hp : ObjMOk p) : LedOk (m + objWt p) (changeV S C o.v p.v).2.1 (changeV S C o.v p.v).2.2 := by
  have h1 := chargeV_ok (releaseV_ok k ho.use) hp
  unfold changeV
  split
  · exact k.mono (by omega)
  · split
    · exact k.mono (by omega)
    · exact h1
/-- the program's ledger and the document's, of one history -/
structure Both (w : World) (N g b1 b2 gr m a b : Nat) (S : Pl → Int) (C : ByteArray → Int) (es : List EntV) : Prop where
  led : IsLed w g b1 b2 m S C
  ok : LedOk m S C
  rl : IsRL w gr (fun k => N ≤ k) es
  rel : Rel es S C
  esz : ESz es a b
  glo : gr < N
  llo : ∀ i, ledB g b1 b2 i → i < N ∧ i ≠ gr
abbrev bothB (g b1 b2 gr : Nat) : Nat → Prop := fun i => ledB g b1 b2 i ∨ i = gr
section
variable {w w' : World} {N g b1 b2 gr m a b : Nat} {S : Pl → Int} {C : ByteArray → Int} {es : List EntV}
theorem Both.below (k : Both w N g b1 b2 gr m a b S C es) (hb : Below w.heap.size w w') : Both w' N g b1 b2 gr m a b S C es := ⟨k.led.below hb, k.ok, k.rl.below hb, k.rel, k.esz, k.glo, k.llo⟩
theorem Both.turn {T : Nat → Prop} (k : Both w N g b1 b2 gr m a b S C es) (ht : Turn T w w') (h1 : ∀ i, T i → i < N ∧ ¬ bothB g b1 b2 gr i) : Both w' N g b1 b2 gr m a b S C es :=
  ⟨k.led.turn ht fun i hi hT => (h1 i hT).2 (.inl hi), k.ok, k.rl.turn ht fun i hT => ⟨fun e => (h1 i hT).2 (.inr e), by have := (h1 i hT).1; omega⟩, k.rel, k.esz, k.glo, k.llo⟩
theorem Both.mono (k : Both w N g b1 b2 gr m a b S C es) {m' a' b' : Nat} (h1 : m ≤ m') (h2 : a ≤ a') (h3 : b ≤ b') : Both w N g b1 b2 gr m' a' b' S C es := ⟨k.led.mono h1, k.ok.mono h1, k.rl, k.rel, k.esz.mono h2 h3, k.glo, k.llo⟩
end
end Go.Proofs.YtalkdddeiebfmaaGreatDoor
/- One step on both ledgers: the walks of bursarlaw17.plays (printed by mkplays.py). -/
namespace Go.Proofs.YtalkdddeiebfmaaGreatDoor
open Go.RowKit

/-- what a step on both is asked of -/
structure PlayIn (w : World) (x : OpM) (d : OpAd) (P : Nat → Prop) (N g b1 b2 gr m a b : Nat) (S : Pl → Int) (C : ByteArray → Int) (es : List EntV) : Prop where
  ml : Ml w
  tx : TextsAt w
  rows : OpRows P w x d
  fit : OpFit x
  both : Both w N g b1 b2 gr m a b S C es
  far : ∀ i, P i → ¬ bothB g b1 b2 gr i
  low : N ≤ w.heap.size
  sg : ¬ bothB g b1 b2 gr 1
  st : ¬ bothB g b1 b2 gr 0
  hm : m ≤ 1099511627776
  ha : a ≤ 100000000
  hb : b ≤ 1073741823
def PlaysPost (N g b1 b2 gr m a b : Nat) (w : World) (e : Ending) (w' : World) : Prop := e = .returned (.bool true) ∧ (∃ S C es, Both w' N g b1 b2 gr m a b S C es) ∧ Turn (bothB g b1 b2 gr) w w'
section
variable {w w' : World} {x : OpM} {d : OpAd} {P : Nat → Prop} {N g b1 b2 gr m a b : Nat} {S : Pl → Int} {C : ByteArray → Int} {es : List EntV}
theorem PlayIn.below (h : PlayIn w x d P N g b1 b2 gr m a b S C es) (hb : Below w.heap.size w w') : PlayIn w' x d P N g b1 b2 gr m a b S C es :=
  ⟨h.ml.below hb, h.tx.below hb, h.rows.below hb, h.fit, h.both.below hb, h.far, Nat.le_trans h.low hb.size, h.sg, h.st, h.hm, h.ha, h.hb⟩
theorem PlayIn.fo (h : PlayIn w x d P N g b1 b2 gr m a b S C es) : ObjFit w (x.o.at_ d.L d.m) d.B x.o.ls := ⟨h.rows.p1.mono fun _ _ => trivial, ⟨d.L, d.m, rfl, h.rows.l1.mono fun _ _ => trivial⟩, h.fit.o.n64, h.fit.o.n24, h.fit.o.n32⟩
theorem PlayIn.fp (h : PlayIn w x d P N g b1 b2 gr m a b S C es) : ObjFit w (x.p.at_ d.L' d.m') d.B' x.p.ls := ⟨h.rows.p2.mono fun _ _ => trivial, ⟨d.L', d.m', rfl, h.rows.l2.mono fun _ _ => trivial⟩, h.fit.p.n64, h.fit.p.n24, h.fit.p.n32⟩
theorem PlayIn.ro (h : PlayIn w x d P N g b1 b2 gr m a b S C es) : RArg w x.o.v d.B P := ⟨h.rows.p1, by have := h.fit.o.n64; show x.o.parts.length ≤ _; omega, h.fit.o.ok.small, h.fit.o.ok.use, h.fit.po⟩
theorem PlayIn.rp (h : PlayIn w x d P N g b1 b2 gr m a b S C es) : RArg w x.p.v d.B' P := ⟨h.rows.p2, by have := h.fit.p.n64; show x.p.parts.length ≤ _; omega, h.fit.p.ok.small, h.fit.p.ok.use, h.fit.pp⟩
theorem PlayIn.new (h : PlayIn w x d P N g b1 b2 gr m a b S C es) {i : Nat} (hi : w.heap.size ≤ i) : ¬ bothB g b1 b2 gr i := fun e => by
  have h1 := h.low
  rcases e with e | e
  · have := (h.both.llo i e).1; omega
  · have := h.both.glo; omega
theorem Both.step (k : Both w N g b1 b2 gr m a b S C es) {n m' a' b' : Nat} {S' : Pl → Int} {C' : ByteArray → Int} {es' : List EntV} (hled : IsLed w' g b1 b2 n S' C') (hok : LedOk m' S' C') (hrl : IsRL w' gr (fun k => N ≤ k) es') (hrel : Rel es' S' C') (hesz : ESz es' a' b') : Both w' N g b1 b2 gr m' a' b' S' C' es' :=
  ⟨hled.tight hok, hok, hrl, hrel, hesz, k.glo, k.llo⟩
theorem RArg.turn {T : Nat → Prop} {o : ObjV} {B : Option Addr} (h : RArg w o B P) (ht : Turn T w w') (hP : ∀ k, P k → ¬ T k) : RArg w' o B P := ⟨h.row.turn ht hP, h.len, h.small, h.use, h.path⟩
theorem BJp {w0 w1 w2 : World} (h : Below w1.heap.size w1 w2) (k : Below w0.heap.size w0 w1) : Below w0.heap.size w0 w2 := k.trans (h.mono k.size)
theorem TJ {T T' : Nat → Prop} {w0 w1 w2 : World} (h : Turn T' w1 w2) (h0 : Turn T w0 w1) (hT : ∀ i, T' i → T i) : Turn T w0 w2 := h0.trans (h.mono fun i _ hi => .inl (hT i hi))
end
theorem oarg_row {P : Nat → Prop} {w : World} {o : ObjM} {B : Option Addr} (L : Option Addr) (m : Nat) (h : Row kPart P w B o.parts) (f : ObjMOk o) (hm : Ml w) (ht : TextsAt w) : OArg w o.v L o.ls.length m B P :=
  ⟨hm, ht, ⟨⟨L, _, m, rfl⟩, h, f.len, f.small⟩, f.use⟩
set_option maxRecDepth 100000 in
set_option maxHeartbeats 2000000 in
theorem plays_1 {w : World} {x : OpM} {d : OpAd} {P : Nat → Prop} {N g b1 b2 gr m a b : Nat} {S : Pl → Int} {C : ByteArray → Int} {es : List EntV} (h : PlayIn w x d P N g b1 b2 gr m a b S C es) (hk : x.kind = 1) :
    Calls Tryz.prog 22 #[.pointer (some ⟨g, 0, none⟩), .pointer (some ⟨gr, 0, none⟩), .agg #[.bool x.two, .int .i64 x.kind, .string x.o.path, .string x.o.name, .slice d.L x.o.ls.length d.m, .int .i64 x.o.prio, .int .i64 x.o.dl, .slice d.B x.o.parts.length d.c, .int .i64 x.o.ver, .string x.p.path, .string x.p.name, .slice d.L' x.p.ls.length d.m', .int .i64 x.p.prio, .int .i64 x.p.dl, .slice d.B' x.p.parts.length d.c', .int .i64 x.p.ver, .int .i64 x.s.kind, .int .i64 x.s.arg, .string x.r]] w (PlaysPost N g b1 b2 gr (m + opWt x) (a + 2) (b + opUs x) w) := by
  have hb0 : Below w.heap.size w (w.alloc (.cells #[.bool x.two, .int .i64 x.kind, .string x.o.path, .string x.o.name, .slice d.L x.o.ls.length d.m, .int .i64 x.o.prio, .int .i64 x.o.dl, .slice d.B x.o.parts.length d.c, .int .i64 x.o.ver, .string x.p.path, .string x.p.name, .slice d.L' x.p.ls.length d.m', .int .i64 x.p.prio, .int .i64 x.p.dl, .slice d.B' x.p.parts.length d.c', .int .i64 x.p.ver, .int .i64 x.s.kind, .int .i64 x.s.arg, .string x.r] 58)) := (Below.refl _ _).alloc (Nat.le_refl _) _
  have hx := OpBox.mk (heap_alloc_new w (.cells #[.bool x.two, .int .i64 x.kind, .string x.o.path, .string x.o.name, .slice d.L x.o.ls.length d.m, .int .i64 x.o.prio, .int .i64 x.o.dl, .slice d.B x.o.parts.length d.c, .int .i64 x.o.ver, .string x.p.path, .string x.p.name, .slice d.L' x.p.ls.length d.m', .int .i64 x.p.prio, .int .i64 x.p.dl, .slice d.B' x.p.parts.length d.c', .int .i64 x.p.ver, .int .i64 x.s.kind, .int .i64 x.s.arg, .string x.r] 58))
  obtain ⟨w0, hw0⟩ : ∃ w0, w.alloc (.cells #[.bool x.two, .int .i64 x.kind, .string x.o.path, .string x.o.name, .slice d.L x.o.ls.length d.m, .int .i64 x.o.prio, .int .i64 x.o.dl, .slice d.B x.o.parts.length d.c, .int .i64 x.o.ver, .string x.p.path, .string x.p.name, .slice d.L' x.p.ls.length d.m', .int .i64 x.p.prio, .int .i64 x.p.dl, .slice d.B' x.p.parts.length d.c', .int .i64 x.p.ver, .int .i64 x.s.kind, .int .i64 x.s.arg, .string x.r] 58) = w0 := ⟨_, rfl⟩
  rw [hw0] at hb0 hx
  have HB0 := Lib.hid hb0
  have HX := Lib.hid hx
  obtain ⟨t5, ht5⟩ : ∃ t, w.heap.size = t := ⟨_, rfl⟩
  have HNT := Lib.hid (show ∀ i, t5 ≤ i → ¬ bothB g b1 b2 gr i from fun i hi => h.new (by omega))
  have h := h.below hb0
  have HH := Lib.hid h
  have HOW1 := Lib.hid (own_objM x.o d.L d.m d.B d.c w0 h.fo)
  have HOW2 := Lib.hid (fun W (hb : Below w0.heap.size w0 W) => own_objM x.p d.L' d.m' d.B' d.c' W (h.below hb).fp)
  have HLT := Lib.hid (show t5 < w0.heap.size from by rw [← ht5]; exact (Array.getElem?_eq_some_iff.1 hx.blk).1)
  have HKI := Lib.hid hk
  clear h hb0 hx hk
  go_enter Tryz.func22, Tryz.ntmps22
  go_upto_region 1 with fail
  clear hw0
  rw [ht5] at HX
  obtain ⟨-, -, y2, y3, y4, y5, y6, y7, y8, -⟩ := HX.out.lit
  go_upto_region 2 with (go_at_call 10; refine HOW1.out.mono ?_; rintro e w1 ⟨L1, m1, B1, c1, rfl, hr1, hb1⟩; have HR1 := Lib.hid hr1; have HB1 := Lib.hid hb1; clear hr1 hb1)
  clear y2 y3 y4 y5 y6 y7 y8
  have HX7 := Lib.hid (OBox.of (heap_alloc_new w1 (.cells #[.string x.o.path, .string x.o.name, .slice L1 x.o.ls.length m1, .int .i64 x.o.prio, .int .i64 x.o.dl, .slice B1 x.o.parts.length c1, .int .i64 x.o.ver] 26)))
  have HBA := Lib.hid (show Below w0.heap.size w0 (w1.alloc (.cells #[.string x.o.path, .string x.o.name, .slice L1 x.o.ls.length m1, .int .i64 x.o.prio, .int .i64 x.o.dl, .slice B1 x.o.parts.length c1, .int .i64 x.o.ver] 26)) from HB1.out.alloc HB1.out.size _)
  have HO1 := Lib.hid (kObj.keep (w' := w1.alloc (.cells #[.string x.o.path, .string x.o.name, .slice L1 x.o.ls.length m1, .int .i64 x.o.prio, .int .i64 x.o.dl, .slice B1 x.o.parts.length c1, .int .i64 x.o.ver] 26)) (fun k _ hk => heap_alloc_old _ _ hk) HR1.out)
  have HL7 := Lib.hid (show w0.heap.size ≤ w1.heap.size ∧ w1.heap.size < (w1.alloc (.cells #[.string x.o.path, .string x.o.name, .slice L1 x.o.ls.length m1, .int .i64 x.o.prio, .int .i64 x.o.dl, .slice B1 x.o.parts.length c1, .int .i64 x.o.ver] 26)).heap.size from ⟨HB1.out.size, by simp⟩)
  obtain ⟨q7, hq7⟩ : ∃ q, w1.heap.size = q := ⟨_, rfl⟩
  rw [hq7] at HX7 HL7 ⊢
  generalize hw2 : w1.alloc (.cells #[.string x.o.path, .string x.o.name, .slice L1 x.o.ls.length m1, .int .i64 x.o.prio, .int .i64 x.o.dl, .slice B1 x.o.parts.length c1, .int .i64 x.o.ver] 26) = w2 at HX7 HBA HO1 HL7 ⊢
  clear hw2 hq7 HR1 HB1 HOW1
  obtain ⟨-, -, -, -, -, -, -, -, -, z9, z10, z11, z12, z13, z14, z15, -⟩ := (HX.out.below HBA.out).lit
  go_upto_region 3 with (go_at_call 10; refine (HOW2.out _ HBA.out).mono ?_; rintro e w3 ⟨L2, m2, B2, c2, rfl, hr3, hb3⟩; have HR3 := Lib.hid hr3; have HB3 := Lib.hid hb3; clear hr3 hb3)
  clear z9 z10 z11 z12 z13 z14 z15
  have HX8 := Lib.hid (OBox.of (heap_alloc_new w3 (.cells #[.string x.p.path, .string x.p.name, .slice L2 x.p.ls.length m2, .int .i64 x.p.prio, .int .i64 x.p.dl, .slice B2 x.p.parts.length c2, .int .i64 x.p.ver] 26)))
  have HB24 := Lib.hid (show Below w2.heap.size w2 (w3.alloc (.cells #[.string x.p.path, .string x.p.name, .slice L2 x.p.ls.length m2, .int .i64 x.p.prio, .int .i64 x.p.dl, .slice B2 x.p.parts.length c2, .int .i64 x.p.ver] 26)) from HB3.out.alloc HB3.out.size _)
  have HO2 := Lib.hid (kObj_parts (kObj.keep (w' := w3.alloc (.cells #[.string x.p.path, .string x.p.name, .slice L2 x.p.ls.length m2, .int .i64 x.p.prio, .int .i64 x.p.dl, .slice B2 x.p.parts.length c2, .int .i64 x.p.ver] 26)) (fun k _ hk => heap_alloc_old _ _ hk) HR3.out)).1
  have HL8 := Lib.hid (show w0.heap.size ≤ w3.heap.size ∧ w3.heap.size < (w3.alloc (.cells #[.string x.p.path, .string x.p.name, .slice L2 x.p.ls.length m2, .int .i64 x.p.prio, .int .i64 x.p.dl, .slice B2 x.p.parts.length c2, .int .i64 x.p.ver] 26)).heap.size from ⟨Nat.le_trans HBA.out.size HB3.out.size, by simp⟩)
  obtain ⟨q8, hq8⟩ : ∃ q, w3.heap.size = q := ⟨_, rfl⟩
  rw [hq8] at HX8 HL8 ⊢
  generalize hw4 : w3.alloc (.cells #[.string x.p.path, .string x.p.name, .slice L2 x.p.ls.length m2, .int .i64 x.p.prio, .int .i64 x.p.dl, .slice B2 x.p.parts.length c2, .int .i64 x.p.ver] 26) = w4 at HX8 HB24 HO2 HL8 ⊢
  clear hw4 hq8
  have HBW := Lib.hid (HBA.out.trans (HB24.out.mono HBA.out.size))
  have HO1' := Lib.hid (((kObj_parts HO1.out).1.below HB24.out).mono fun k (hk : w0.heap.size ≤ k ∧ k < w1.heap.size) => show t5 ≤ k from by have := HLT.out; omega)
  have HO2' := Lib.hid (HO2.out.mono fun k (hk : w2.heap.size ≤ k ∧ k < w3.heap.size) => show t5 ≤ k from by have := HLT.out; have := HBA.out.size; omega)
  have HX5 := Lib.hid (HX.out.below HBW.out)
  have HX7' := Lib.hid (HX7.out.below HB24.out)
  have HQ7 := Lib.hid (show t5 ≤ q7 from by have := HLT.out; have := HL7.out; omega)
  have HQ8 := Lib.hid (show t5 ≤ q8 from by have := HLT.out; have := HL8.out; omega)
  have HHW := Lib.hid (HH.out.below HBW.out)
  have HEND := Lib.hid (HB0.out.trans (HBW.out.mono HB0.out.size))
  clear HR3 HB3 HOW2 HO1 HO2 HX7 HX HBA HB24 HL7 HL8 HH HB0
  clear HBW HLT
  have k1 := HX5.out.lit.2.1
  have hk := HKI.out
  rw [hk] at k1
  clear hk HKI
  obtain ⟨⟨z, S', C'⟩, hcv⟩ : ∃ v, chargeV S C x.o.v = v := ⟨_, rfl⟩
  have hh := HHW.out
  obtain ⟨es', hes, hrel', -⟩ := rel_charge hh.both.rel hh.both.ok hcv
  have hok' := chargeV_ok hh.both.ok hh.fit.o.ok
  rw [hcv] at hok'
  have HFIN := Lib.hid (show ∀ W n', IsLed W g b1 b2 n' S' C' → IsRL W gr (fun k => N ≤ k) es' → Both W N g b1 b2 gr (m + opWt x) (a + 2) (b + opUs x) S' C' es' from fun W n' h1 h2 =>
    (hh.both.step h1 hok' h2 hrel' (hh.both.esz.rad hes)).mono (by unfold opWt; omega) (by omega) (by unfold opUs; omega))
  have HC1 := Lib.hid (fun W (hb : Below w4.heap.size w4 W) => (show Calls Tryz.prog 17 #[.pointer (some ⟨g, 0, none⟩), .agg #[.string x.o.path, .string x.o.name, .slice L1 x.o.ls.length m1, .int .i64 x.o.prio, .int .i64 x.o.dl, .slice B1 x.o.parts.length c1, .int .i64 x.o.ver]] W (fun e w' => e = .returned (.int .i64 z) ∧ IsLed w' g b1 b2 (m + 60000000000) S' C' ∧ Turn (mapB b1 b2) W w') from by
    have q := charge_any (g := g) (b1 := b1) (b2 := b2) (n := m) (S := S) (C := C) x.o.v m L1 x.o.ls.length m1 B1 c1 _ W (oarg_row L1 m1 (HO1'.out.below hb) hh.fit.o.ok (hh.ml.below hb) (hh.tx.below hb)) (hh.both.led.below hb) hh.both.ok (by have := hh.hm; omega) (m + 60000000000) (Nat.le_refl _) (by have := hh.hm; unfold maxLen; omega)
    rw [hcv] at q
    exact q))
  have HC2 := Lib.hid (fun W (ht : Turn (mapB b1 b2) w4 W) => (show Calls Tryz.prog 30 #[.pointer (some ⟨gr, 0, none⟩), .agg #[.string x.o.path, .string x.o.name, .slice d.L x.o.ls.length d.m, .int .i64 x.o.prio, .int .i64 x.o.dl, .slice d.B x.o.parts.length d.c, .int .i64 x.o.ver]] W (fun e w' => e = .returned (.int .i64 z) ∧ IsRL w' gr (fun k => N ≤ k) es' ∧ Turn (fun k => k = gr) W w') from
    rcharge_any gr (fun k => N ≤ k) es es.length rfl x.o.v d.L x.o.ls.length d.m d.B d.c P W (hh.ro.turn ht (fun i hp hT => hh.far i hp (.inl (.inr hT)))) (hh.both.rl.turn ht fun i hT => ⟨(hh.both.llo i (.inr hT)).2, by have := (hh.both.llo i (.inr hT)).1; omega⟩) (fun i hi => Nat.le_trans (Nat.le_trans hh.low ht.size) hi) (by have := hh.both.esz.len; have := hh.ha; omega) z es' (Lib.hid hes)))
  have HC3 := Lib.hid (fun W (ht : Turn (bothB g b1 b2 gr) w4 W) => (show Calls Tryz.prog 46 #[.agg #[.string x.o.path, .string x.o.name, .slice L1 x.o.ls.length m1, .int .i64 x.o.prio, .int .i64 x.o.dl, .slice B1 x.o.parts.length c1, .int .i64 x.o.ver], .agg #[.string x.o.path, .string x.o.name, .slice d.L x.o.ls.length d.m, .int .i64 x.o.prio, .int .i64 x.o.dl, .slice d.B x.o.parts.length d.c, .int .i64 x.o.ver]] W (fun e w' => e = .returned (.bool true) ∧ Below W.heap.size W w') from
    sameParts_val x.o.v L1 x.o.ls.length m1 B1 c1 d.L x.o.ls.length d.m d.B d.c _ P W (HO1'.out.turn ht fun i hi => HNT.out i hi) (hh.rows.p1.turn ht hh.far) (by have := hh.fit.o.n64; show x.o.parts.length ≤ _; omega) hh.fit.o.ok.small))
  have HLG := Lib.hid (show ∀ i, ledB g b1 b2 i → i ≠ gr from fun i hi => (hh.both.llo i hi).2)
  have HS := Lib.hid (show ∀ W, Turn (bothB g b1 b2 gr) w4 W → (W.cell? ⟨q7, 0, none⟩ = some (.string x.o.path) ∧ W.cell? ⟨q7, 1, none⟩ = some (.string x.o.name) ∧ W.cell? ⟨q7, 2, none⟩ = some (.slice L1 x.o.ls.length m1) ∧ W.cell? ⟨q7, 3, none⟩ = some (.int .i64 x.o.prio) ∧ W.cell? ⟨q7, 4, none⟩ = some (.int .i64 x.o.dl) ∧ W.cell? ⟨q7, 5, none⟩ = some (.slice B1 x.o.parts.length c1) ∧ W.cell? ⟨q7, 6, none⟩ = some (.int .i64 x.o.ver) ∧ W.cell? ⟨t5, 2, none⟩ = some (.string x.o.path) ∧ W.cell? ⟨t5, 3, none⟩ = some (.string x.o.name) ∧ W.cell? ⟨t5, 4, none⟩ = some (.slice d.L x.o.ls.length d.m) ∧ W.cell? ⟨t5, 5, none⟩ = some (.int .i64 x.o.prio) ∧ W.cell? ⟨t5, 6, none⟩ = some (.int .i64 x.o.dl) ∧ W.cell? ⟨t5, 7, none⟩ = some (.slice d.B x.o.parts.length d.c) ∧ W.cell? ⟨t5, 8, none⟩ = some (.int .i64 x.o.ver)) from fun W ht => by
    obtain ⟨-, e0, e1, e2, e3, e4, e5, e6, -⟩ := HX7'.out.turn ht (HNT.out _ HQ7.out); obtain ⟨-, -, f2, f3, f4, f5, f6, f7, f8, f9, f10, f11, f12, f13, f14, f15, -⟩ := (HX5.out.turn ht (HNT.out _ (Nat.le_refl _))).lit; exact ⟨e0, e1, e2, e3, e4, e5, e6, f2, f3, f4, f5, f6, f7, f8⟩)
  clear hcv hh hes hrel' hok'
  go_upto_region 5 with fail
  clear k1
  go_region_held3 (fun w' => w'.cell? ⟨q7, 0, none⟩ = some (.string x.o.path) ∧ w'.cell? ⟨q7, 1, none⟩ = some (.string x.o.name) ∧ w'.cell? ⟨q7, 2, none⟩ = some (.slice L1 x.o.ls.length m1) ∧ w'.cell? ⟨q7, 3, none⟩ = some (.int .i64 x.o.prio) ∧ w'.cell? ⟨q7, 4, none⟩ = some (.int .i64 x.o.dl) ∧ w'.cell? ⟨q7, 5, none⟩ = some (.slice B1 x.o.parts.length c1) ∧ w'.cell? ⟨q7, 6, none⟩ = some (.int .i64 x.o.ver) ∧ w'.cell? ⟨t5, 2, none⟩ = some (.string x.o.path) ∧ w'.cell? ⟨t5, 3, none⟩ = some (.string x.o.name) ∧ w'.cell? ⟨t5, 4, none⟩ = some (.slice d.L x.o.ls.length d.m) ∧ w'.cell? ⟨t5, 5, none⟩ = some (.int .i64 x.o.prio) ∧ w'.cell? ⟨t5, 6, none⟩ = some (.int .i64 x.o.dl) ∧ w'.cell? ⟨t5, 7, none⟩ = some (.slice d.B x.o.parts.length d.c) ∧ w'.cell? ⟨t5, 8, none⟩ = some (.int .i64 x.o.ver)) (exact HS.out _ (by repeat (first | exact HK4.out | exact HK3.out | exact HK2.out | exact HK1.out | exact Turn.refl _ _ | refine Turn.drew ?_))) (first
    | (go_at_call 17; refine (HC1.out _ (by repeat (first | exact Below.refl _ _ | refine Below.drew ?_))).mono ?_; rintro e v1 ⟨rfl, hl1, ht1⟩; have HK1 := Lib.hid (show Turn (bothB g b1 b2 gr) w4 v1 from TJ ht1 (by repeat (first | exact Turn.refl _ _ | refine Turn.drew ?_)) (fun i hi => .inl (.inr hi))); have HM1 := Lib.hid (show Turn (mapB b1 b2) w4 v1 from TJ ht1 (by repeat (first | exact Turn.refl _ _ | refine Turn.drew ?_)) (fun i hi => hi)); have HLED1 := Lib.hid hl1; clear hl1 ht1)
    | (go_at_call 30; refine (HC2.out _ (by repeat (first | exact HM1.out | exact Turn.refl _ _ | refine Turn.drew ?_))).mono ?_; rintro e v2 ⟨rfl, hl2, ht2⟩; have HK2 := Lib.hid (show Turn (bothB g b1 b2 gr) w4 v2 from TJ ht2 (by repeat (first | exact HK1.out | refine Turn.drew ?_)) (fun i hi => .inr hi)); have HLED2 := Lib.hid ((HLED1.out.below (by repeat (first | exact Below.refl _ _ | refine Below.drew ?_))).turn ht2 fun i hi e => HLG.out i hi e); have HRL2 := Lib.hid hl2; clear hl2 ht2)
    | (go_at_call 46; refine (HC3.out _ (by repeat (first | exact HK2.out | refine Turn.drew ?_))).mono ?_; rintro e v3 ⟨rfl, hb3⟩; have HK3 := Lib.hid (show Turn (bothB g b1 b2 gr) w4 v3 from TJ (Turn.of_below (S := bothB g b1 b2 gr) hb3) (by repeat (first | exact HK2.out | refine Turn.drew ?_)) (fun i hi => hi)); have HLED3 := Lib.hid (HLED2.out.below (w' := v3) ((show Below v2.heap.size v2 _ from (by repeat (first | exact Below.refl _ _ | refine Below.drew ?_))).trans hb3)); have HRL3 := Lib.hid (HRL2.out.below (w' := v3) ((show Below v2.heap.size v2 _ from (by repeat (first | exact Below.refl _ _ | refine Below.drew ?_))).trans hb3)); clear hb3))
  all_goals (go_wp2_with fail; go_ret; exact ⟨rfl, ⟨S', C', es', HFIN.out _ _ HLED3.out HRL3.out⟩, (Turn.of_below HEND.out).trans (HK3.out.mono fun i _ hi => .inl hi)⟩)
set_option maxRecDepth 100000 in
set_option maxHeartbeats 2000000 in
theorem plays_2 {w : World} {x : OpM} {d : OpAd} {P : Nat → Prop} {N g b1 b2 gr m a b : Nat} {S : Pl → Int} {C : ByteArray → Int} {es : List EntV} (h : PlayIn w x d P N g b1 b2 gr m a b S C es) (hk : x.kind = 2) :
    Calls Tryz.prog 22 #[.pointer (some ⟨g, 0, none⟩), .pointer (some ⟨gr, 0, none⟩), .agg #[.bool x.two, .int .i64 x.kind, .string x.o.path, .string x.o.name, .slice d.L x.o.ls.length d.m, .int .i64 x.o.prio, .int .i64 x.o.dl, .slice d.B x.o.parts.length d.c, .int .i64 x.o.ver, .string x.p.path, .string x.p.name, .slice d.L' x.p.ls.length d.m', .int .i64 x.p.prio, .int .i64 x.p.dl, .slice d.B' x.p.parts.length d.c', .int .i64 x.p.ver, .int .i64 x.s.kind, .int .i64 x.s.arg, .string x.r]] w (PlaysPost N g b1 b2 gr (m + opWt x) (a + 2) (b + opUs x) w) := by
  have hb0 : Below w.heap.size w (w.alloc (.cells #[.bool x.two, .int .i64 x.kind, .string x.o.path, .string x.o.name, .slice d.L x.o.ls.length d.m, .int .i64 x.o.prio, .int .i64 x.o.dl, .slice d.B x.o.parts.length d.c, .int .i64 x.o.ver, .string x.p.path, .string x.p.name, .slice d.L' x.p.ls.length d.m', .int .i64 x.p.prio, .int .i64 x.p.dl, .slice d.B' x.p.parts.length d.c', .int .i64 x.p.ver, .int .i64 x.s.kind, .int .i64 x.s.arg, .string x.r] 58)) := (Below.refl _ _).alloc (Nat.le_refl _) _
  have hx := OpBox.mk (heap_alloc_new w (.cells #[.bool x.two, .int .i64 x.kind, .string x.o.path, .string x.o.name, .slice d.L x.o.ls.length d.m, .int .i64 x.o.prio, .int .i64 x.o.dl, .slice d.B x.o.parts.length d.c, .int .i64 x.o.ver, .string x.p.path, .string x.p.name, .slice d.L' x.p.ls.length d.m', .int .i64 x.p.prio, .int .i64 x.p.dl, .slice d.B' x.p.parts.length d.c', .int .i64 x.p.ver, .int .i64 x.s.kind, .int .i64 x.s.arg, .string x.r] 58))
  obtain ⟨w0, hw0⟩ : ∃ w0, w.alloc (.cells #[.bool x.two, .int .i64 x.kind, .string x.o.path, .string x.o.name, .slice d.L x.o.ls.length d.m, .int .i64 x.o.prio, .int .i64 x.o.dl, .slice d.B x.o.parts.length d.c, .int .i64 x.o.ver, .string x.p.path, .string x.p.name, .slice d.L' x.p.ls.length d.m', .int .i64 x.p.prio, .int .i64 x.p.dl, .slice d.B' x.p.parts.length d.c', .int .i64 x.p.ver, .int .i64 x.s.kind, .int .i64 x.s.arg, .string x.r] 58) = w0 := ⟨_, rfl⟩
  rw [hw0] at hb0 hx
  have HB0 := Lib.hid hb0
  have HX := Lib.hid hx
  obtain ⟨t5, ht5⟩ : ∃ t, w.heap.size = t := ⟨_, rfl⟩
  have HNT := Lib.hid (show ∀ i, t5 ≤ i → ¬ bothB g b1 b2 gr i from fun i hi => h.new (by omega))
  have h := h.below hb0
  have HH := Lib.hid h
  have HOW1 := Lib.hid (own_objM x.o d.L d.m d.B d.c w0 h.fo)
  have HOW2 := Lib.hid (fun W (hb : Below w0.heap.size w0 W) => own_objM x.p d.L' d.m' d.B' d.c' W (h.below hb).fp)
  have HLT := Lib.hid (show t5 < w0.heap.size from by rw [← ht5]; exact (Array.getElem?_eq_some_iff.1 hx.blk).1)
  have HKI := Lib.hid hk
  clear h hb0 hx hk
  go_enter Tryz.func22, Tryz.ntmps22
  go_upto_region 1 with fail
  clear hw0
  rw [ht5] at HX
  obtain ⟨-, -, y2, y3, y4, y5, y6, y7, y8, -⟩ := HX.out.lit
  go_upto_region 2 with (go_at_call 10; refine HOW1.out.mono ?_; rintro e w1 ⟨L1, m1, B1, c1, rfl, hr1, hb1⟩; have HR1 := Lib.hid hr1; have HB1 := Lib.hid hb1; clear hr1 hb1)
  clear y2 y3 y4 y5 y6 y7 y8
  have HX7 := Lib.hid (OBox.of (heap_alloc_new w1 (.cells #[.string x.o.path, .string x.o.name, .slice L1 x.o.ls.length m1, .int .i64 x.o.prio, .int .i64 x.o.dl, .slice B1 x.o.parts.length c1, .int .i64 x.o.ver] 26)))
  have HBA := Lib.hid (show Below w0.heap.size w0 (w1.alloc (.cells #[.string x.o.path, .string x.o.name, .slice L1 x.o.ls.length m1, .int .i64 x.o.prio, .int .i64 x.o.dl, .slice B1 x.o.parts.length c1, .int .i64 x.o.ver] 26)) from HB1.out.alloc HB1.out.size _)
  have HO1 := Lib.hid (kObj.keep (w' := w1.alloc (.cells #[.string x.o.path, .string x.o.name, .slice L1 x.o.ls.length m1, .int .i64 x.o.prio, .int .i64 x.o.dl, .slice B1 x.o.parts.length c1, .int .i64 x.o.ver] 26)) (fun k _ hk => heap_alloc_old _ _ hk) HR1.out)
  have HL7 := Lib.hid (show w0.heap.size ≤ w1.heap.size ∧ w1.heap.size < (w1.alloc (.cells #[.string x.o.path, .string x.o.name, .slice L1 x.o.ls.length m1, .int .i64 x.o.prio, .int .i64 x.o.dl, .slice B1 x.o.parts.length c1, .int .i64 x.o.ver] 26)).heap.size from ⟨HB1.out.size, by simp⟩)
  obtain ⟨q7, hq7⟩ : ∃ q, w1.heap.size = q := ⟨_, rfl⟩
  rw [hq7] at HX7 HL7 ⊢
  generalize hw2 : w1.alloc (.cells #[.string x.o.path, .string x.o.name, .slice L1 x.o.ls.length m1, .int .i64 x.o.prio, .int .i64 x.o.dl, .slice B1 x.o.parts.length c1, .int .i64 x.o.ver] 26) = w2 at HX7 HBA HO1 HL7 ⊢
  clear hw2 hq7 HR1 HB1 HOW1
  obtain ⟨-, -, -, -, -, -, -, -, -, z9, z10, z11, z12, z13, z14, z15, -⟩ := (HX.out.below HBA.out).lit
  go_upto_region 3 with (go_at_call 10; refine (HOW2.out _ HBA.out).mono ?_; rintro e w3 ⟨L2, m2, B2, c2, rfl, hr3, hb3⟩; have HR3 := Lib.hid hr3; have HB3 := Lib.hid hb3; clear hr3 hb3)
  clear z9 z10 z11 z12 z13 z14 z15
  have HX8 := Lib.hid (OBox.of (heap_alloc_new w3 (.cells #[.string x.p.path, .string x.p.name, .slice L2 x.p.ls.length m2, .int .i64 x.p.prio, .int .i64 x.p.dl, .slice B2 x.p.parts.length c2, .int .i64 x.p.ver] 26)))
  have HB24 := Lib.hid (show Below w2.heap.size w2 (w3.alloc (.cells #[.string x.p.path, .string x.p.name, .slice L2 x.p.ls.length m2, .int .i64 x.p.prio, .int .i64 x.p.dl, .slice B2 x.p.parts.length c2, .int .i64 x.p.ver] 26)) from HB3.out.alloc HB3.out.size _)
  have HO2 := Lib.hid (kObj_parts (kObj.keep (w' := w3.alloc (.cells #[.string x.p.path, .string x.p.name, .slice L2 x.p.ls.length m2, .int .i64 x.p.prio, .int .i64 x.p.dl, .slice B2 x.p.parts.length c2, .int .i64 x.p.ver] 26)) (fun k _ hk => heap_alloc_old _ _ hk) HR3.out)).1
  have HL8 := Lib.hid (show w0.heap.size ≤ w3.heap.size ∧ w3.heap.size < (w3.alloc (.cells #[.string x.p.path, .string x.p.name, .slice L2 x.p.ls.length m2, .int .i64 x.p.prio, .int .i64 x.p.dl, .slice B2 x.p.parts.length c2, .int .i64 x.p.ver] 26)).heap.size from ⟨Nat.le_trans HBA.out.size HB3.out.size, by simp⟩)
  obtain ⟨q8, hq8⟩ : ∃ q, w3.heap.size = q := ⟨_, rfl⟩
  rw [hq8] at HX8 HL8 ⊢
  generalize hw4 : w3.alloc (.cells #[.string x.p.path, .string x.p.name, .slice L2 x.p.ls.length m2, .int .i64 x.p.prio, .int .i64 x.p.dl, .slice B2 x.p.parts.length c2, .int .i64 x.p.ver] 26) = w4 at HX8 HB24 HO2 HL8 ⊢
  clear hw4 hq8
  have HBW := Lib.hid (HBA.out.trans (HB24.out.mono HBA.out.size))
  have HO1' := Lib.hid (((kObj_parts HO1.out).1.below HB24.out).mono fun k (hk : w0.heap.size ≤ k ∧ k < w1.heap.size) => show t5 ≤ k from by have := HLT.out; omega)
  have HO2' := Lib.hid (HO2.out.mono fun k (hk : w2.heap.size ≤ k ∧ k < w3.heap.size) => show t5 ≤ k from by have := HLT.out; have := HBA.out.size; omega)
  have HX5 := Lib.hid (HX.out.below HBW.out)
  have HX7' := Lib.hid (HX7.out.below HB24.out)
  have HQ7 := Lib.hid (show t5 ≤ q7 from by have := HLT.out; have := HL7.out; omega)
  have HQ8 := Lib.hid (show t5 ≤ q8 from by have := HLT.out; have := HL8.out; omega)
  have HHW := Lib.hid (HH.out.below HBW.out)
  have HEND := Lib.hid (HB0.out.trans (HBW.out.mono HB0.out.size))
  clear HR3 HB3 HOW2 HO1 HO2 HX7 HX HBA HB24 HL7 HL8 HH HB0
  clear HBW HLT
  have k1 := HX5.out.lit.2.1
  have hk := HKI.out
  rw [hk] at k1
  clear hk HKI
  obtain ⟨⟨z, S', C'⟩, hcv⟩ : ∃ v, releaseV S C x.o.v = v := ⟨_, rfl⟩
  have hh := HHW.out
  obtain ⟨es', hes, hrel', -⟩ := rel_release hh.both.rel hh.both.ok hcv
  have hok' := releaseV_ok hh.both.ok hh.fit.o.ok.use
  rw [hcv] at hok'
  have HFIN := Lib.hid (show ∀ W n', IsLed W g b1 b2 n' S' C' → IsRL W gr (fun k => N ≤ k) es' → Both W N g b1 b2 gr (m + opWt x) (a + 2) (b + opUs x) S' C' es' from fun W n' h1 h2 =>
    (hh.both.step h1 hok' h2 hrel' (hh.both.esz.rad hes)).mono (by unfold opWt; omega) (by omega) (by unfold opUs; omega))
  have HC1 := Lib.hid (fun W (hb : Below w4.heap.size w4 W) => (show Calls Tryz.prog 18 #[.pointer (some ⟨g, 0, none⟩), .agg #[.string x.o.path, .string x.o.name, .slice L1 x.o.ls.length m1, .int .i64 x.o.prio, .int .i64 x.o.dl, .slice B1 x.o.parts.length c1, .int .i64 x.o.ver]] W (fun e w' => e = .returned (.int .i64 z) ∧ IsLed w' g b1 b2 (m + 60000000000) S' C' ∧ Turn (mapB b1 b2) W w') from by
    have q := release_any (g := g) (b1 := b1) (b2 := b2) (n := m) (S := S) (C := C) x.o.v m L1 x.o.ls.length m1 B1 c1 _ W (oarg_row L1 m1 (HO1'.out.below hb) hh.fit.o.ok (hh.ml.below hb) (hh.tx.below hb)) (hh.both.led.below hb) hh.both.ok (by have := hh.hm; omega) (m + 60000000000) (Nat.le_refl _) (by have := hh.hm; unfold maxLen; omega)
    rw [hcv] at q
    exact q))
  have HC2 := Lib.hid (fun W (ht : Turn (mapB b1 b2) w4 W) => (show Calls Tryz.prog 47 #[.pointer (some ⟨gr, 0, none⟩), .agg #[.string x.o.path, .string x.o.name, .slice d.L x.o.ls.length d.m, .int .i64 x.o.prio, .int .i64 x.o.dl, .slice d.B x.o.parts.length d.c, .int .i64 x.o.ver]] W (fun e w' => e = .returned (.int .i64 z) ∧ IsRL w' gr (fun k => N ≤ k) es' ∧ Turn (fun k => k = gr) W w') from
    rrelease_any gr (fun k => N ≤ k) es es.length rfl x.o.v d.L x.o.ls.length d.m d.B d.c P W (hh.ro.turn ht (fun i hp hT => hh.far i hp (.inl (.inr hT)))) (hh.both.rl.turn ht fun i hT => ⟨(hh.both.llo i (.inr hT)).2, by have := (hh.both.llo i (.inr hT)).1; omega⟩) (fun i hi => Nat.le_trans (Nat.le_trans hh.low ht.size) hi) (by have := hh.both.esz.len; have := hh.ha; omega) z es' (Lib.hid hes)))
  have HC3 := Lib.hid (fun W (ht : Turn (bothB g b1 b2 gr) w4 W) => (show Calls Tryz.prog 46 #[.agg #[.string x.o.path, .string x.o.name, .slice L1 x.o.ls.length m1, .int .i64 x.o.prio, .int .i64 x.o.dl, .slice B1 x.o.parts.length c1, .int .i64 x.o.ver], .agg #[.string x.o.path, .string x.o.name, .slice d.L x.o.ls.length d.m, .int .i64 x.o.prio, .int .i64 x.o.dl, .slice d.B x.o.parts.length d.c, .int .i64 x.o.ver]] W (fun e w' => e = .returned (.bool true) ∧ Below W.heap.size W w') from
    sameParts_val x.o.v L1 x.o.ls.length m1 B1 c1 d.L x.o.ls.length d.m d.B d.c _ P W (HO1'.out.turn ht fun i hi => HNT.out i hi) (hh.rows.p1.turn ht hh.far) (by have := hh.fit.o.n64; show x.o.parts.length ≤ _; omega) hh.fit.o.ok.small))
  have HLG := Lib.hid (show ∀ i, ledB g b1 b2 i → i ≠ gr from fun i hi => (hh.both.llo i hi).2)
  have HS := Lib.hid (show ∀ W, Turn (bothB g b1 b2 gr) w4 W → (W.cell? ⟨q7, 0, none⟩ = some (.string x.o.path) ∧ W.cell? ⟨q7, 1, none⟩ = some (.string x.o.name) ∧ W.cell? ⟨q7, 2, none⟩ = some (.slice L1 x.o.ls.length m1) ∧ W.cell? ⟨q7, 3, none⟩ = some (.int .i64 x.o.prio) ∧ W.cell? ⟨q7, 4, none⟩ = some (.int .i64 x.o.dl) ∧ W.cell? ⟨q7, 5, none⟩ = some (.slice B1 x.o.parts.length c1) ∧ W.cell? ⟨q7, 6, none⟩ = some (.int .i64 x.o.ver) ∧ W.cell? ⟨t5, 2, none⟩ = some (.string x.o.path) ∧ W.cell? ⟨t5, 3, none⟩ = some (.string x.o.name) ∧ W.cell? ⟨t5, 4, none⟩ = some (.slice d.L x.o.ls.length d.m) ∧ W.cell? ⟨t5, 5, none⟩ = some (.int .i64 x.o.prio) ∧ W.cell? ⟨t5, 6, none⟩ = some (.int .i64 x.o.dl) ∧ W.cell? ⟨t5, 7, none⟩ = some (.slice d.B x.o.parts.length d.c) ∧ W.cell? ⟨t5, 8, none⟩ = some (.int .i64 x.o.ver)) from fun W ht => by
    obtain ⟨-, e0, e1, e2, e3, e4, e5, e6, -⟩ := HX7'.out.turn ht (HNT.out _ HQ7.out); obtain ⟨-, -, f2, f3, f4, f5, f6, f7, f8, f9, f10, f11, f12, f13, f14, f15, -⟩ := (HX5.out.turn ht (HNT.out _ (Nat.le_refl _))).lit; exact ⟨e0, e1, e2, e3, e4, e5, e6, f2, f3, f4, f5, f6, f7, f8⟩)
  clear hcv hh hes hrel' hok'
  go_upto_region 7 with fail
  clear k1
  go_region_held3 (fun w' => w'.cell? ⟨q7, 0, none⟩ = some (.string x.o.path) ∧ w'.cell? ⟨q7, 1, none⟩ = some (.string x.o.name) ∧ w'.cell? ⟨q7, 2, none⟩ = some (.slice L1 x.o.ls.length m1) ∧ w'.cell? ⟨q7, 3, none⟩ = some (.int .i64 x.o.prio) ∧ w'.cell? ⟨q7, 4, none⟩ = some (.int .i64 x.o.dl) ∧ w'.cell? ⟨q7, 5, none⟩ = some (.slice B1 x.o.parts.length c1) ∧ w'.cell? ⟨q7, 6, none⟩ = some (.int .i64 x.o.ver) ∧ w'.cell? ⟨t5, 2, none⟩ = some (.string x.o.path) ∧ w'.cell? ⟨t5, 3, none⟩ = some (.string x.o.name) ∧ w'.cell? ⟨t5, 4, none⟩ = some (.slice d.L x.o.ls.length d.m) ∧ w'.cell? ⟨t5, 5, none⟩ = some (.int .i64 x.o.prio) ∧ w'.cell? ⟨t5, 6, none⟩ = some (.int .i64 x.o.dl) ∧ w'.cell? ⟨t5, 7, none⟩ = some (.slice d.B x.o.parts.length d.c) ∧ w'.cell? ⟨t5, 8, none⟩ = some (.int .i64 x.o.ver)) (exact HS.out _ (by repeat (first | exact HK4.out | exact HK3.out | exact HK2.out | exact HK1.out | exact Turn.refl _ _ | refine Turn.drew ?_))) (first
    | (go_at_call 18; refine (HC1.out _ (by repeat (first | exact Below.refl _ _ | refine Below.drew ?_))).mono ?_; rintro e v1 ⟨rfl, hl1, ht1⟩; have HK1 := Lib.hid (show Turn (bothB g b1 b2 gr) w4 v1 from TJ ht1 (by repeat (first | exact Turn.refl _ _ | refine Turn.drew ?_)) (fun i hi => .inl (.inr hi))); have HM1 := Lib.hid (show Turn (mapB b1 b2) w4 v1 from TJ ht1 (by repeat (first | exact Turn.refl _ _ | refine Turn.drew ?_)) (fun i hi => hi)); have HLED1 := Lib.hid hl1; clear hl1 ht1)
    | (go_at_call 47; refine (HC2.out _ (by repeat (first | exact HM1.out | exact Turn.refl _ _ | refine Turn.drew ?_))).mono ?_; rintro e v2 ⟨rfl, hl2, ht2⟩; have HK2 := Lib.hid (show Turn (bothB g b1 b2 gr) w4 v2 from TJ ht2 (by repeat (first | exact HK1.out | refine Turn.drew ?_)) (fun i hi => .inr hi)); have HLED2 := Lib.hid ((HLED1.out.below (by repeat (first | exact Below.refl _ _ | refine Below.drew ?_))).turn ht2 fun i hi e => HLG.out i hi e); have HRL2 := Lib.hid hl2; clear hl2 ht2)
    | (go_at_call 46; refine (HC3.out _ (by repeat (first | exact HK2.out | refine Turn.drew ?_))).mono ?_; rintro e v3 ⟨rfl, hb3⟩; have HK3 := Lib.hid (show Turn (bothB g b1 b2 gr) w4 v3 from TJ (Turn.of_below (S := bothB g b1 b2 gr) hb3) (by repeat (first | exact HK2.out | refine Turn.drew ?_)) (fun i hi => hi)); have HLED3 := Lib.hid (HLED2.out.below (w' := v3) ((show Below v2.heap.size v2 _ from (by repeat (first | exact Below.refl _ _ | refine Below.drew ?_))).trans hb3)); have HRL3 := Lib.hid (HRL2.out.below (w' := v3) ((show Below v2.heap.size v2 _ from (by repeat (first | exact Below.refl _ _ | refine Below.drew ?_))).trans hb3)); clear hb3))
  all_goals (go_wp2_with fail; go_ret; exact ⟨rfl, ⟨S', C', es', HFIN.out _ _ HLED3.out HRL3.out⟩, (Turn.of_below HEND.out).trans (HK3.out.mono fun i _ hi => .inl hi)⟩)
set_option maxRecDepth 100000 in
set_option maxHeartbeats 2000000 in
theorem plays_3 {w : World} {x : OpM} {d : OpAd} {P : Nat → Prop} {N g b1 b2 gr m a b : Nat} {S : Pl → Int} {C : ByteArray → Int} {es : List EntV} (h : PlayIn w x d P N g b1 b2 gr m a b S C es) (hk : x.kind = 3) :
    Calls Tryz.prog 22 #[.pointer (some ⟨g, 0, none⟩), .pointer (some ⟨gr, 0, none⟩), .agg #[.bool x.two, .int .i64 x.kind, .string x.o.path, .string x.o.name, .slice d.L x.o.ls.length d.m, .int .i64 x.o.prio, .int .i64 x.o.dl, .slice d.B x.o.parts.length d.c, .int .i64 x.o.ver, .string x.p.path, .string x.p.name, .slice d.L' x.p.ls.length d.m', .int .i64 x.p.prio, .int .i64 x.p.dl, .slice d.B' x.p.parts.length d.c', .int .i64 x.p.ver, .int .i64 x.s.kind, .int .i64 x.s.arg, .string x.r]] w (PlaysPost N g b1 b2 gr (m + opWt x) (a + 2) (b + opUs x) w) := by
  have hb0 : Below w.heap.size w (w.alloc (.cells #[.bool x.two, .int .i64 x.kind, .string x.o.path, .string x.o.name, .slice d.L x.o.ls.length d.m, .int .i64 x.o.prio, .int .i64 x.o.dl, .slice d.B x.o.parts.length d.c, .int .i64 x.o.ver, .string x.p.path, .string x.p.name, .slice d.L' x.p.ls.length d.m', .int .i64 x.p.prio, .int .i64 x.p.dl, .slice d.B' x.p.parts.length d.c', .int .i64 x.p.ver, .int .i64 x.s.kind, .int .i64 x.s.arg, .string x.r] 58)) := (Below.refl _ _).alloc (Nat.le_refl _) _
  have hx := OpBox.mk (heap_alloc_new w (.cells #[.bool x.two, .int .i64 x.kind, .string x.o.path, .string x.o.name, .slice d.L x.o.ls.length d.m, .int .i64 x.o.prio, .int .i64 x.o.dl, .slice d.B x.o.parts.length d.c, .int .i64 x.o.ver, .string x.p.path, .string x.p.name, .slice d.L' x.p.ls.length d.m', .int .i64 x.p.prio, .int .i64 x.p.dl, .slice d.B' x.p.parts.length d.c', .int .i64 x.p.ver, .int .i64 x.s.kind, .int .i64 x.s.arg, .string x.r] 58))
  obtain ⟨w0, hw0⟩ : ∃ w0, w.alloc (.cells #[.bool x.two, .int .i64 x.kind, .string x.o.path, .string x.o.name, .slice d.L x.o.ls.length d.m, .int .i64 x.o.prio, .int .i64 x.o.dl, .slice d.B x.o.parts.length d.c, .int .i64 x.o.ver, .string x.p.path, .string x.p.name, .slice d.L' x.p.ls.length d.m', .int .i64 x.p.prio, .int .i64 x.p.dl, .slice d.B' x.p.parts.length d.c', .int .i64 x.p.ver, .int .i64 x.s.kind, .int .i64 x.s.arg, .string x.r] 58) = w0 := ⟨_, rfl⟩
  rw [hw0] at hb0 hx
  have HB0 := Lib.hid hb0
  have HX := Lib.hid hx
  obtain ⟨t5, ht5⟩ : ∃ t, w.heap.size = t := ⟨_, rfl⟩
  have HNT := Lib.hid (show ∀ i, t5 ≤ i → ¬ bothB g b1 b2 gr i from fun i hi => h.new (by omega))
  have h := h.below hb0
  have HH := Lib.hid h
  have HOW1 := Lib.hid (own_objM x.o d.L d.m d.B d.c w0 h.fo)
  have HOW2 := Lib.hid (fun W (hb : Below w0.heap.size w0 W) => own_objM x.p d.L' d.m' d.B' d.c' W (h.below hb).fp)
  have HLT := Lib.hid (show t5 < w0.heap.size from by rw [← ht5]; exact (Array.getElem?_eq_some_iff.1 hx.blk).1)
  have HKI := Lib.hid hk
  clear h hb0 hx hk
  go_enter Tryz.func22, Tryz.ntmps22
  go_upto_region 1 with fail
  clear hw0
  rw [ht5] at HX
  obtain ⟨-, -, y2, y3, y4, y5, y6, y7, y8, -⟩ := HX.out.lit
  go_upto_region 2 with (go_at_call 10; refine HOW1.out.mono ?_; rintro e w1 ⟨L1, m1, B1, c1, rfl, hr1, hb1⟩; have HR1 := Lib.hid hr1; have HB1 := Lib.hid hb1; clear hr1 hb1)
  clear y2 y3 y4 y5 y6 y7 y8
  have HX7 := Lib.hid (OBox.of (heap_alloc_new w1 (.cells #[.string x.o.path, .string x.o.name, .slice L1 x.o.ls.length m1, .int .i64 x.o.prio, .int .i64 x.o.dl, .slice B1 x.o.parts.length c1, .int .i64 x.o.ver] 26)))
  have HBA := Lib.hid (show Below w0.heap.size w0 (w1.alloc (.cells #[.string x.o.path, .string x.o.name, .slice L1 x.o.ls.length m1, .int .i64 x.o.prio, .int .i64 x.o.dl, .slice B1 x.o.parts.length c1, .int .i64 x.o.ver] 26)) from HB1.out.alloc HB1.out.size _)
  have HO1 := Lib.hid (kObj.keep (w' := w1.alloc (.cells #[.string x.o.path, .string x.o.name, .slice L1 x.o.ls.length m1, .int .i64 x.o.prio, .int .i64 x.o.dl, .slice B1 x.o.parts.length c1, .int .i64 x.o.ver] 26)) (fun k _ hk => heap_alloc_old _ _ hk) HR1.out)
  have HL7 := Lib.hid (show w0.heap.size ≤ w1.heap.size ∧ w1.heap.size < (w1.alloc (.cells #[.string x.o.path, .string x.o.name, .slice L1 x.o.ls.length m1, .int .i64 x.o.prio, .int .i64 x.o.dl, .slice B1 x.o.parts.length c1, .int .i64 x.o.ver] 26)).heap.size from ⟨HB1.out.size, by simp⟩)
  obtain ⟨q7, hq7⟩ : ∃ q, w1.heap.size = q := ⟨_, rfl⟩
  rw [hq7] at HX7 HL7 ⊢
  generalize hw2 : w1.alloc (.cells #[.string x.o.path, .string x.o.name, .slice L1 x.o.ls.length m1, .int .i64 x.o.prio, .int .i64 x.o.dl, .slice B1 x.o.parts.length c1, .int .i64 x.o.ver] 26) = w2 at HX7 HBA HO1 HL7 ⊢
  clear hw2 hq7 HR1 HB1 HOW1
  obtain ⟨-, -, -, -, -, -, -, -, -, z9, z10, z11, z12, z13, z14, z15, -⟩ := (HX.out.below HBA.out).lit
  go_upto_region 3 with (go_at_call 10; refine (HOW2.out _ HBA.out).mono ?_; rintro e w3 ⟨L2, m2, B2, c2, rfl, hr3, hb3⟩; have HR3 := Lib.hid hr3; have HB3 := Lib.hid hb3; clear hr3 hb3)
  clear z9 z10 z11 z12 z13 z14 z15
  have HX8 := Lib.hid (OBox.of (heap_alloc_new w3 (.cells #[.string x.p.path, .string x.p.name, .slice L2 x.p.ls.length m2, .int .i64 x.p.prio, .int .i64 x.p.dl, .slice B2 x.p.parts.length c2, .int .i64 x.p.ver] 26)))
  have HB24 := Lib.hid (show Below w2.heap.size w2 (w3.alloc (.cells #[.string x.p.path, .string x.p.name, .slice L2 x.p.ls.length m2, .int .i64 x.p.prio, .int .i64 x.p.dl, .slice B2 x.p.parts.length c2, .int .i64 x.p.ver] 26)) from HB3.out.alloc HB3.out.size _)
  have HO2 := Lib.hid (kObj_parts (kObj.keep (w' := w3.alloc (.cells #[.string x.p.path, .string x.p.name, .slice L2 x.p.ls.length m2, .int .i64 x.p.prio, .int .i64 x.p.dl, .slice B2 x.p.parts.length c2, .int .i64 x.p.ver] 26)) (fun k _ hk => heap_alloc_old _ _ hk) HR3.out)).1
  have HL8 := Lib.hid (show w0.heap.size ≤ w3.heap.size ∧ w3.heap.size < (w3.alloc (.cells #[.string x.p.path, .string x.p.name, .slice L2 x.p.ls.length m2, .int .i64 x.p.prio, .int .i64 x.p.dl, .slice B2 x.p.parts.length c2, .int .i64 x.p.ver] 26)).heap.size from ⟨Nat.le_trans HBA.out.size HB3.out.size, by simp⟩)
  obtain ⟨q8, hq8⟩ : ∃ q, w3.heap.size = q := ⟨_, rfl⟩
  rw [hq8] at HX8 HL8 ⊢
  generalize hw4 : w3.alloc (.cells #[.string x.p.path, .string x.p.name, .slice L2 x.p.ls.length m2, .int .i64 x.p.prio, .int .i64 x.p.dl, .slice B2 x.p.parts.length c2, .int .i64 x.p.ver] 26) = w4 at HX8 HB24 HO2 HL8 ⊢
  clear hw4 hq8
  have HBW := Lib.hid (HBA.out.trans (HB24.out.mono HBA.out.size))
  have HO1' := Lib.hid (((kObj_parts HO1.out).1.below HB24.out).mono fun k (hk : w0.heap.size ≤ k ∧ k < w1.heap.size) => show t5 ≤ k from by have := HLT.out; omega)
  have HO2' := Lib.hid (HO2.out.mono fun k (hk : w2.heap.size ≤ k ∧ k < w3.heap.size) => show t5 ≤ k from by have := HLT.out; have := HBA.out.size; omega)
  have HX5 := Lib.hid (HX.out.below HBW.out)
  have HX7' := Lib.hid (HX7.out.below HB24.out)
  have HQ7 := Lib.hid (show t5 ≤ q7 from by have := HLT.out; have := HL7.out; omega)
  have HQ8 := Lib.hid (show t5 ≤ q8 from by have := HLT.out; have := HL8.out; omega)
  have HHW := Lib.hid (HH.out.below HBW.out)
  have HEND := Lib.hid (HB0.out.trans (HBW.out.mono HB0.out.size))
  clear HR3 HB3 HOW2 HO1 HO2 HX7 HX HBA HB24 HL7 HL8 HH HB0
  clear HBW HLT
  have k1 := HX5.out.lit.2.1
  have hk := HKI.out
  rw [hk] at k1
  clear hk HKI
  obtain ⟨⟨z, S', C'⟩, hcv⟩ : ∃ v, changeV S C x.o.v x.p.v = v := ⟨_, rfl⟩
  have hh := HHW.out
  obtain ⟨es', hes, hrel', -⟩ := rel_change hh.both.rel hh.both.ok hh.fit.o.ok.use hcv
  have hok' := changeV_ok hh.both.ok hh.fit.o.ok hh.fit.p.ok
  rw [hcv] at hok'
  have HFIN := Lib.hid (show ∀ W n', IsLed W g b1 b2 n' S' C' → IsRL W gr (fun k => N ≤ k) es' → Both W N g b1 b2 gr (m + opWt x) (a + 2) (b + opUs x) S' C' es' from fun W n' h1 h2 =>
    (hh.both.step h1 hok' h2 hrel' (hh.both.esz.rcg hes)).mono (by unfold opWt; omega) (by omega) (by unfold opUs; omega))
  have HC1 := Lib.hid (fun W (hb : Below w4.heap.size w4 W) => (show Calls Tryz.prog 24 #[.pointer (some ⟨g, 0, none⟩), .agg #[.string x.o.path, .string x.o.name, .slice L1 x.o.ls.length m1, .int .i64 x.o.prio, .int .i64 x.o.dl, .slice B1 x.o.parts.length c1, .int .i64 x.o.ver], .agg #[.string x.p.path, .string x.p.name, .slice L2 x.p.ls.length m2, .int .i64 x.p.prio, .int .i64 x.p.dl, .slice B2 x.p.parts.length c2, .int .i64 x.p.ver]] W (fun e w' => e = .returned (.int .i64 z) ∧ IsLed w' g b1 b2 (m + 180000000000) S' C' ∧ Turn (mapB b1 b2) W w') from by
    have q := change_any (g := g) (b1 := b1) (b2 := b2) (n := m) (S := S) (C := C) x.o.v x.p.v m L1 x.o.ls.length m1 B1 c1 _ L2 x.p.ls.length m2 B2 c2 _ W (oarg_row L1 m1 (HO1'.out.below hb) hh.fit.o.ok (hh.ml.below hb) (hh.tx.below hb)) (oarg_row L2 m2 (HO2'.out.below hb) hh.fit.p.ok (hh.ml.below hb) (hh.tx.below hb)) (hh.both.led.below hb) hh.both.ok (by have := hh.hm; omega) (m + 180000000000) (Nat.le_refl _) (by have := hh.hm; unfold maxLen; omega) ⟨fun e => hh.sg (.inl (.inr (.inl e.symm))), fun e => hh.sg (.inl (.inr (.inr e.symm)))⟩ ⟨fun e => hh.st (.inl (.inr (.inl e.symm))), fun e => hh.st (.inl (.inr (.inr e.symm)))⟩ (fun i hi => ⟨fun e => HNT.out i hi (.inl (.inr (.inl e))), fun e => HNT.out i hi (.inl (.inr (.inr e)))⟩)
    rw [hcv] at q
    exact q))
  have HC2 := Lib.hid (fun W (ht : Turn (mapB b1 b2) w4 W) => (show Calls Tryz.prog 48 #[.pointer (some ⟨gr, 0, none⟩), .agg #[.string x.o.path, .string x.o.name, .slice d.L x.o.ls.length d.m, .int .i64 x.o.prio, .int .i64 x.o.dl, .slice d.B x.o.parts.length d.c, .int .i64 x.o.ver], .agg #[.string x.p.path, .string x.p.name, .slice d.L' x.p.ls.length d.m', .int .i64 x.p.prio, .int .i64 x.p.dl, .slice d.B' x.p.parts.length d.c', .int .i64 x.p.ver]] W (fun e w' => e = .returned (.int .i64 z) ∧ IsRL w' gr (fun k => N ≤ k) es' ∧ Turn (fun k => k = gr) W w') from
    rchange_any gr (fun k => N ≤ k) es es.length rfl x.o.v x.p.v d.L x.o.ls.length d.m d.B d.c P d.L' x.p.ls.length d.m' d.B' d.c' P W (hh.ro.turn ht (fun i hp hT => hh.far i hp (.inl (.inr hT)))) (hh.rp.turn ht (fun i hp hT => hh.far i hp (.inl (.inr hT)))) (hh.both.rl.turn ht fun i hT => ⟨(hh.both.llo i (.inr hT)).2, by have := (hh.both.llo i (.inr hT)).1; omega⟩) (fun i hi => Nat.le_trans (Nat.le_trans hh.low ht.size) hi) (by have := hh.both.esz.len; have := hh.ha; omega) z es' (Lib.hid hes)))
  have HC3 := Lib.hid (fun W (ht : Turn (bothB g b1 b2 gr) w4 W) => (show Calls Tryz.prog 46 #[.agg #[.string x.o.path, .string x.o.name, .slice L1 x.o.ls.length m1, .int .i64 x.o.prio, .int .i64 x.o.dl, .slice B1 x.o.parts.length c1, .int .i64 x.o.ver], .agg #[.string x.o.path, .string x.o.name, .slice d.L x.o.ls.length d.m, .int .i64 x.o.prio, .int .i64 x.o.dl, .slice d.B x.o.parts.length d.c, .int .i64 x.o.ver]] W (fun e w' => e = .returned (.bool true) ∧ Below W.heap.size W w') from
    sameParts_val x.o.v L1 x.o.ls.length m1 B1 c1 d.L x.o.ls.length d.m d.B d.c _ P W (HO1'.out.turn ht fun i hi => HNT.out i hi) (hh.rows.p1.turn ht hh.far) (by have := hh.fit.o.n64; show x.o.parts.length ≤ _; omega) hh.fit.o.ok.small))
  have HC4 := Lib.hid (fun W (ht : Turn (bothB g b1 b2 gr) w4 W) => (show Calls Tryz.prog 46 #[.agg #[.string x.p.path, .string x.p.name, .slice L2 x.p.ls.length m2, .int .i64 x.p.prio, .int .i64 x.p.dl, .slice B2 x.p.parts.length c2, .int .i64 x.p.ver], .agg #[.string x.p.path, .string x.p.name, .slice d.L' x.p.ls.length d.m', .int .i64 x.p.prio, .int .i64 x.p.dl, .slice d.B' x.p.parts.length d.c', .int .i64 x.p.ver]] W (fun e w' => e = .returned (.bool true) ∧ Below W.heap.size W w') from
    sameParts_val x.p.v L2 x.p.ls.length m2 B2 c2 d.L' x.p.ls.length d.m' d.B' d.c' _ P W (HO2'.out.turn ht fun i hi => HNT.out i hi) (hh.rows.p2.turn ht hh.far) (by have := hh.fit.p.n64; show x.p.parts.length ≤ _; omega) hh.fit.p.ok.small))
  have HLG := Lib.hid (show ∀ i, ledB g b1 b2 i → i ≠ gr from fun i hi => (hh.both.llo i hi).2)
  have HS := Lib.hid (show ∀ W, Turn (bothB g b1 b2 gr) w4 W → (W.cell? ⟨q7, 0, none⟩ = some (.string x.o.path) ∧ W.cell? ⟨q7, 1, none⟩ = some (.string x.o.name) ∧ W.cell? ⟨q7, 2, none⟩ = some (.slice L1 x.o.ls.length m1) ∧ W.cell? ⟨q7, 3, none⟩ = some (.int .i64 x.o.prio) ∧ W.cell? ⟨q7, 4, none⟩ = some (.int .i64 x.o.dl) ∧ W.cell? ⟨q7, 5, none⟩ = some (.slice B1 x.o.parts.length c1) ∧ W.cell? ⟨q7, 6, none⟩ = some (.int .i64 x.o.ver) ∧ W.cell? ⟨t5, 2, none⟩ = some (.string x.o.path) ∧ W.cell? ⟨t5, 3, none⟩ = some (.string x.o.name) ∧ W.cell? ⟨t5, 4, none⟩ = some (.slice d.L x.o.ls.length d.m) ∧ W.cell? ⟨t5, 5, none⟩ = some (.int .i64 x.o.prio) ∧ W.cell? ⟨t5, 6, none⟩ = some (.int .i64 x.o.dl) ∧ W.cell? ⟨t5, 7, none⟩ = some (.slice d.B x.o.parts.length d.c) ∧ W.cell? ⟨t5, 8, none⟩ = some (.int .i64 x.o.ver) ∧ W.cell? ⟨q8, 0, none⟩ = some (.string x.p.path) ∧ W.cell? ⟨q8, 1, none⟩ = some (.string x.p.name) ∧ W.cell? ⟨q8, 2, none⟩ = some (.slice L2 x.p.ls.length m2) ∧ W.cell? ⟨q8, 3, none⟩ = some (.int .i64 x.p.prio) ∧ W.cell? ⟨q8, 4, none⟩ = some (.int .i64 x.p.dl) ∧ W.cell? ⟨q8, 5, none⟩ = some (.slice B2 x.p.parts.length c2) ∧ W.cell? ⟨q8, 6, none⟩ = some (.int .i64 x.p.ver) ∧ W.cell? ⟨t5, 9, none⟩ = some (.string x.p.path) ∧ W.cell? ⟨t5, 10, none⟩ = some (.string x.p.name) ∧ W.cell? ⟨t5, 11, none⟩ = some (.slice d.L' x.p.ls.length d.m') ∧ W.cell? ⟨t5, 12, none⟩ = some (.int .i64 x.p.prio) ∧ W.cell? ⟨t5, 13, none⟩ = some (.int .i64 x.p.dl) ∧ W.cell? ⟨t5, 14, none⟩ = some (.slice d.B' x.p.parts.length d.c') ∧ W.cell? ⟨t5, 15, none⟩ = some (.int .i64 x.p.ver)) from fun W ht => by
    obtain ⟨-, e0, e1, e2, e3, e4, e5, e6, -⟩ := HX7'.out.turn ht (HNT.out _ HQ7.out); obtain ⟨-, g0, g1, g2, g3, g4, g5, g6, -⟩ := HX8.out.turn ht (HNT.out _ HQ8.out); obtain ⟨-, -, f2, f3, f4, f5, f6, f7, f8, f9, f10, f11, f12, f13, f14, f15, -⟩ := (HX5.out.turn ht (HNT.out _ (Nat.le_refl _))).lit; exact ⟨e0, e1, e2, e3, e4, e5, e6, f2, f3, f4, f5, f6, f7, f8, g0, g1, g2, g3, g4, g5, g6, f9, f10, f11, f12, f13, f14, f15⟩)
  clear hcv hh hes hrel' hok'
  go_upto_region 9 with fail
  clear k1
  go_region_held3 (fun w' => w'.cell? ⟨q7, 0, none⟩ = some (.string x.o.path) ∧ w'.cell? ⟨q7, 1, none⟩ = some (.string x.o.name) ∧ w'.cell? ⟨q7, 2, none⟩ = some (.slice L1 x.o.ls.length m1) ∧ w'.cell? ⟨q7, 3, none⟩ = some (.int .i64 x.o.prio) ∧ w'.cell? ⟨q7, 4, none⟩ = some (.int .i64 x.o.dl) ∧ w'.cell? ⟨q7, 5, none⟩ = some (.slice B1 x.o.parts.length c1) ∧ w'.cell? ⟨q7, 6, none⟩ = some (.int .i64 x.o.ver) ∧ w'.cell? ⟨t5, 2, none⟩ = some (.string x.o.path) ∧ w'.cell? ⟨t5, 3, none⟩ = some (.string x.o.name) ∧ w'.cell? ⟨t5, 4, none⟩ = some (.slice d.L x.o.ls.length d.m) ∧ w'.cell? ⟨t5, 5, none⟩ = some (.int .i64 x.o.prio) ∧ w'.cell? ⟨t5, 6, none⟩ = some (.int .i64 x.o.dl) ∧ w'.cell? ⟨t5, 7, none⟩ = some (.slice d.B x.o.parts.length d.c) ∧ w'.cell? ⟨t5, 8, none⟩ = some (.int .i64 x.o.ver) ∧ w'.cell? ⟨q8, 0, none⟩ = some (.string x.p.path) ∧ w'.cell? ⟨q8, 1, none⟩ = some (.string x.p.name) ∧ w'.cell? ⟨q8, 2, none⟩ = some (.slice L2 x.p.ls.length m2) ∧ w'.cell? ⟨q8, 3, none⟩ = some (.int .i64 x.p.prio) ∧ w'.cell? ⟨q8, 4, none⟩ = some (.int .i64 x.p.dl) ∧ w'.cell? ⟨q8, 5, none⟩ = some (.slice B2 x.p.parts.length c2) ∧ w'.cell? ⟨q8, 6, none⟩ = some (.int .i64 x.p.ver) ∧ w'.cell? ⟨t5, 9, none⟩ = some (.string x.p.path) ∧ w'.cell? ⟨t5, 10, none⟩ = some (.string x.p.name) ∧ w'.cell? ⟨t5, 11, none⟩ = some (.slice d.L' x.p.ls.length d.m') ∧ w'.cell? ⟨t5, 12, none⟩ = some (.int .i64 x.p.prio) ∧ w'.cell? ⟨t5, 13, none⟩ = some (.int .i64 x.p.dl) ∧ w'.cell? ⟨t5, 14, none⟩ = some (.slice d.B' x.p.parts.length d.c') ∧ w'.cell? ⟨t5, 15, none⟩ = some (.int .i64 x.p.ver)) (exact HS.out _ (by repeat (first | exact HK4.out | exact HK3.out | exact HK2.out | exact HK1.out | exact Turn.refl _ _ | refine Turn.drew ?_))) (first
    | (go_at_call 24; refine (HC1.out _ (by repeat (first | exact Below.refl _ _ | refine Below.drew ?_))).mono ?_; rintro e v1 ⟨rfl, hl1, ht1⟩; have HK1 := Lib.hid (show Turn (bothB g b1 b2 gr) w4 v1 from TJ ht1 (by repeat (first | exact Turn.refl _ _ | refine Turn.drew ?_)) (fun i hi => .inl (.inr hi))); have HM1 := Lib.hid (show Turn (mapB b1 b2) w4 v1 from TJ ht1 (by repeat (first | exact Turn.refl _ _ | refine Turn.drew ?_)) (fun i hi => hi)); have HLED1 := Lib.hid hl1; clear hl1 ht1)
    | (go_at_call 48; refine (HC2.out _ (by repeat (first | exact HM1.out | exact Turn.refl _ _ | refine Turn.drew ?_))).mono ?_; rintro e v2 ⟨rfl, hl2, ht2⟩; have HK2 := Lib.hid (show Turn (bothB g b1 b2 gr) w4 v2 from TJ ht2 (by repeat (first | exact HK1.out | refine Turn.drew ?_)) (fun i hi => .inr hi)); have HLED2 := Lib.hid ((HLED1.out.below (by repeat (first | exact Below.refl _ _ | refine Below.drew ?_))).turn ht2 fun i hi e => HLG.out i hi e); have HRL2 := Lib.hid hl2; clear hl2 ht2)
    | (go_at_call 46; refine (HC3.out _ (by repeat (first | exact HK2.out | refine Turn.drew ?_))).mono ?_; rintro e v3 ⟨rfl, hb3⟩; have HK3 := Lib.hid (show Turn (bothB g b1 b2 gr) w4 v3 from TJ (Turn.of_below (S := bothB g b1 b2 gr) hb3) (by repeat (first | exact HK2.out | refine Turn.drew ?_)) (fun i hi => hi)); have HLED3 := Lib.hid (HLED2.out.below (w' := v3) ((show Below v2.heap.size v2 _ from (by repeat (first | exact Below.refl _ _ | refine Below.drew ?_))).trans hb3)); have HRL3 := Lib.hid (HRL2.out.below (w' := v3) ((show Below v2.heap.size v2 _ from (by repeat (first | exact Below.refl _ _ | refine Below.drew ?_))).trans hb3)); clear hb3; clear HC3)
    | (go_at_call 46; refine (HC4.out _ (by repeat (first | exact HK3.out | refine Turn.drew ?_))).mono ?_; rintro e v4 ⟨rfl, hb4⟩; have HK4 := Lib.hid (show Turn (bothB g b1 b2 gr) w4 v4 from TJ (Turn.of_below (S := bothB g b1 b2 gr) hb4) (by repeat (first | exact HK3.out | refine Turn.drew ?_)) (fun i hi => hi)); have HLED4 := Lib.hid (HLED3.out.below (w' := v4) ((show Below v3.heap.size v3 _ from (by repeat (first | exact Below.refl _ _ | refine Below.drew ?_))).trans hb4)); have HRL4 := Lib.hid (HRL3.out.below (w' := v4) ((show Below v3.heap.size v3 _ from (by repeat (first | exact Below.refl _ _ | refine Below.drew ?_))).trans hb4)); clear hb4))
  all_goals (go_wp2_with fail; go_ret; exact ⟨rfl, ⟨S', C', es', HFIN.out _ _ HLED4.out HRL4.out⟩, (Turn.of_below HEND.out).trans (HK4.out.mono fun i _ hi => .inl hi)⟩)
set_option maxRecDepth 100000 in
set_option maxHeartbeats 2000000 in
theorem plays_4 {w : World} {x : OpM} {d : OpAd} {P : Nat → Prop} {N g b1 b2 gr m a b : Nat} {S : Pl → Int} {C : ByteArray → Int} {es : List EntV} (h : PlayIn w x d P N g b1 b2 gr m a b S C es) (hk : x.kind = 4) :
    Calls Tryz.prog 22 #[.pointer (some ⟨g, 0, none⟩), .pointer (some ⟨gr, 0, none⟩), .agg #[.bool x.two, .int .i64 x.kind, .string x.o.path, .string x.o.name, .slice d.L x.o.ls.length d.m, .int .i64 x.o.prio, .int .i64 x.o.dl, .slice d.B x.o.parts.length d.c, .int .i64 x.o.ver, .string x.p.path, .string x.p.name, .slice d.L' x.p.ls.length d.m', .int .i64 x.p.prio, .int .i64 x.p.dl, .slice d.B' x.p.parts.length d.c', .int .i64 x.p.ver, .int .i64 x.s.kind, .int .i64 x.s.arg, .string x.r]] w (PlaysPost N g b1 b2 gr (m + opWt x) (a + 2) (b + opUs x) w) := by
  have hb0 : Below w.heap.size w (w.alloc (.cells #[.bool x.two, .int .i64 x.kind, .string x.o.path, .string x.o.name, .slice d.L x.o.ls.length d.m, .int .i64 x.o.prio, .int .i64 x.o.dl, .slice d.B x.o.parts.length d.c, .int .i64 x.o.ver, .string x.p.path, .string x.p.name, .slice d.L' x.p.ls.length d.m', .int .i64 x.p.prio, .int .i64 x.p.dl, .slice d.B' x.p.parts.length d.c', .int .i64 x.p.ver, .int .i64 x.s.kind, .int .i64 x.s.arg, .string x.r] 58)) := (Below.refl _ _).alloc (Nat.le_refl _) _
  have hx := OpBox.mk (heap_alloc_new w (.cells #[.bool x.two, .int .i64 x.kind, .string x.o.path, .string x.o.name, .slice d.L x.o.ls.length d.m, .int .i64 x.o.prio, .int .i64 x.o.dl, .slice d.B x.o.parts.length d.c, .int .i64 x.o.ver, .string x.p.path, .string x.p.name, .slice d.L' x.p.ls.length d.m', .int .i64 x.p.prio, .int .i64 x.p.dl, .slice d.B' x.p.parts.length d.c', .int .i64 x.p.ver, .int .i64 x.s.kind, .int .i64 x.s.arg, .string x.r] 58))
  obtain ⟨w0, hw0⟩ : ∃ w0, w.alloc (.cells #[.bool x.two, .int .i64 x.kind, .string x.o.path, .string x.o.name, .slice d.L x.o.ls.length d.m, .int .i64 x.o.prio, .int .i64 x.o.dl, .slice d.B x.o.parts.length d.c, .int .i64 x.o.ver, .string x.p.path, .string x.p.name, .slice d.L' x.p.ls.length d.m', .int .i64 x.p.prio, .int .i64 x.p.dl, .slice d.B' x.p.parts.length d.c', .int .i64 x.p.ver, .int .i64 x.s.kind, .int .i64 x.s.arg, .string x.r] 58) = w0 := ⟨_, rfl⟩
  rw [hw0] at hb0 hx
  have HB0 := Lib.hid hb0
  have HX := Lib.hid hx
  obtain ⟨t5, ht5⟩ : ∃ t, w.heap.size = t := ⟨_, rfl⟩
  have HNT := Lib.hid (show ∀ i, t5 ≤ i → ¬ bothB g b1 b2 gr i from fun i hi => h.new (by omega))
  have h := h.below hb0
  have HH := Lib.hid h
  have HOW1 := Lib.hid (own_objM x.o d.L d.m d.B d.c w0 h.fo)
  have HOW2 := Lib.hid (fun W (hb : Below w0.heap.size w0 W) => own_objM x.p d.L' d.m' d.B' d.c' W (h.below hb).fp)
  have HLT := Lib.hid (show t5 < w0.heap.size from by rw [← ht5]; exact (Array.getElem?_eq_some_iff.1 hx.blk).1)
  have HKI := Lib.hid hk
  clear h hb0 hx hk
  go_enter Tryz.func22, Tryz.ntmps22
  go_upto_region 1 with fail
  clear hw0
  rw [ht5] at HX
  obtain ⟨-, -, y2, y3, y4, y5, y6, y7, y8, -⟩ := HX.out.lit
  go_upto_region 2 with (go_at_call 10; refine HOW1.out.mono ?_; rintro e w1 ⟨L1, m1, B1, c1, rfl, hr1, hb1⟩; have HR1 := Lib.hid hr1; have HB1 := Lib.hid hb1; clear hr1 hb1)
  clear y2 y3 y4 y5 y6 y7 y8
  have HX7 := Lib.hid (OBox.of (heap_alloc_new w1 (.cells #[.string x.o.path, .string x.o.name, .slice L1 x.o.ls.length m1, .int .i64 x.o.prio, .int .i64 x.o.dl, .slice B1 x.o.parts.length c1, .int .i64 x.o.ver] 26)))
  have HBA := Lib.hid (show Below w0.heap.size w0 (w1.alloc (.cells #[.string x.o.path, .string x.o.name, .slice L1 x.o.ls.length m1, .int .i64 x.o.prio, .int .i64 x.o.dl, .slice B1 x.o.parts.length c1, .int .i64 x.o.ver] 26)) from HB1.out.alloc HB1.out.size _)
  have HO1 := Lib.hid (kObj.keep (w' := w1.alloc (.cells #[.string x.o.path, .string x.o.name, .slice L1 x.o.ls.length m1, .int .i64 x.o.prio, .int .i64 x.o.dl, .slice B1 x.o.parts.length c1, .int .i64 x.o.ver] 26)) (fun k _ hk => heap_alloc_old _ _ hk) HR1.out)
  have HL7 := Lib.hid (show w0.heap.size ≤ w1.heap.size ∧ w1.heap.size < (w1.alloc (.cells #[.string x.o.path, .string x.o.name, .slice L1 x.o.ls.length m1, .int .i64 x.o.prio, .int .i64 x.o.dl, .slice B1 x.o.parts.length c1, .int .i64 x.o.ver] 26)).heap.size from ⟨HB1.out.size, by simp⟩)
  obtain ⟨q7, hq7⟩ : ∃ q, w1.heap.size = q := ⟨_, rfl⟩
  rw [hq7] at HX7 HL7 ⊢
  generalize hw2 : w1.alloc (.cells #[.string x.o.path, .string x.o.name, .slice L1 x.o.ls.length m1, .int .i64 x.o.prio, .int .i64 x.o.dl, .slice B1 x.o.parts.length c1, .int .i64 x.o.ver] 26) = w2 at HX7 HBA HO1 HL7 ⊢
  clear hw2 hq7 HR1 HB1 HOW1
  obtain ⟨-, -, -, -, -, -, -, -, -, z9, z10, z11, z12, z13, z14, z15, -⟩ := (HX.out.below HBA.out).lit
  go_upto_region 3 with (go_at_call 10; refine (HOW2.out _ HBA.out).mono ?_; rintro e w3 ⟨L2, m2, B2, c2, rfl, hr3, hb3⟩; have HR3 := Lib.hid hr3; have HB3 := Lib.hid hb3; clear hr3 hb3)
  clear z9 z10 z11 z12 z13 z14 z15
  have HX8 := Lib.hid (OBox.of (heap_alloc_new w3 (.cells #[.string x.p.path, .string x.p.name, .slice L2 x.p.ls.length m2, .int .i64 x.p.prio, .int .i64 x.p.dl, .slice B2 x.p.parts.length c2, .int .i64 x.p.ver] 26)))
  have HB24 := Lib.hid (show Below w2.heap.size w2 (w3.alloc (.cells #[.string x.p.path, .string x.p.name, .slice L2 x.p.ls.length m2, .int .i64 x.p.prio, .int .i64 x.p.dl, .slice B2 x.p.parts.length c2, .int .i64 x.p.ver] 26)) from HB3.out.alloc HB3.out.size _)
  have HO2 := Lib.hid (kObj_parts (kObj.keep (w' := w3.alloc (.cells #[.string x.p.path, .string x.p.name, .slice L2 x.p.ls.length m2, .int .i64 x.p.prio, .int .i64 x.p.dl, .slice B2 x.p.parts.length c2, .int .i64 x.p.ver] 26)) (fun k _ hk => heap_alloc_old _ _ hk) HR3.out)).1
  have HL8 := Lib.hid (show w0.heap.size ≤ w3.heap.size ∧ w3.heap.size < (w3.alloc (.cells #[.string x.p.path, .string x.p.name, .slice L2 x.p.ls.length m2, .int .i64 x.p.prio, .int .i64 x.p.dl, .slice B2 x.p.parts.length c2, .int .i64 x.p.ver] 26)).heap.size from ⟨Nat.le_trans HBA.out.size HB3.out.size, by simp⟩)
  obtain ⟨q8, hq8⟩ : ∃ q, w3.heap.size = q := ⟨_, rfl⟩
  rw [hq8] at HX8 HL8 ⊢
  generalize hw4 : w3.alloc (.cells #[.string x.p.path, .string x.p.name, .slice L2 x.p.ls.length m2, .int .i64 x.p.prio, .int .i64 x.p.dl, .slice B2 x.p.parts.length c2, .int .i64 x.p.ver] 26) = w4 at HX8 HB24 HO2 HL8 ⊢
  clear hw4 hq8
  have HBW := Lib.hid (HBA.out.trans (HB24.out.mono HBA.out.size))
  have HO1' := Lib.hid (((kObj_parts HO1.out).1.below HB24.out).mono fun k (hk : w0.heap.size ≤ k ∧ k < w1.heap.size) => show t5 ≤ k from by have := HLT.out; omega)
  have HO2' := Lib.hid (HO2.out.mono fun k (hk : w2.heap.size ≤ k ∧ k < w3.heap.size) => show t5 ≤ k from by have := HLT.out; have := HBA.out.size; omega)
  have HX5 := Lib.hid (HX.out.below HBW.out)
  have HX7' := Lib.hid (HX7.out.below HB24.out)
  have HQ7 := Lib.hid (show t5 ≤ q7 from by have := HLT.out; have := HL7.out; omega)
  have HQ8 := Lib.hid (show t5 ≤ q8 from by have := HLT.out; have := HL8.out; omega)
  have HHW := Lib.hid (HH.out.below HBW.out)
  have HEND := Lib.hid (HB0.out.trans (HBW.out.mono HB0.out.size))
  clear HR3 HB3 HOW2 HO1 HO2 HX7 HX HBA HB24 HL7 HL8 HH HB0
  clear HBW HLT
  have k1 := HX5.out.lit.2.1
  have hk := HKI.out
  rw [hk] at k1
  clear hk HKI
  have hh := HHW.out
  obtain ⟨z, hz⟩ : ∃ z, S (x.o.path, (x.s.kind, x.s.arg), x.r) = z := ⟨_, rfl⟩
  have HFIN := Lib.hid (show ∀ W, Below w4.heap.size w4 W → Both W N g b1 b2 gr (m + opWt x) (a + 2) (b + opUs x) S C es from fun W hb => (hh.both.below hb).mono (by omega) (by omega) (by omega))
  have HC1 := Lib.hid (fun W (hb : Below w4.heap.size w4 W) => (show Calls Tryz.prog 27 #[.pointer (some ⟨g, 0, none⟩), .string x.o.path, .agg #[.int .i64 x.s.kind, .int .i64 x.s.arg], .string x.r] W (fun e w' => e = .returned (.int .i64 z) ∧ Below W.heap.size W w') from (used_any (x.o.path, (x.s.kind, x.s.arg), x.r) ⟨by have := hh.fit.po; show x.o.path.size ≤ _; unfold maxLen; omega, hh.fit.sk, hh.fit.sa, hh.fit.rs⟩ z (Lib.hid hz) W (hh.both.led.below hb))))
  have HC2 := Lib.hid (fun W (hb : Below w4.heap.size w4 W) => (show Calls Tryz.prog 40 #[.pointer (some ⟨gr, 0, none⟩), .string x.o.path, .agg #[.int .i64 x.s.kind, .int .i64 x.s.arg], .string x.r] W (fun e w' => e = .returned (.int .i64 z) ∧ Below W.heap.size W w') from (rusedM_any gr (fun k => N ≤ k) es x.o.path x.s x.r W (hh.both.rl.below hb) (by have := hh.both.esz.len; have := hh.ha; omega) z (Lib.hid ((hh.both.rel.tot _).trans hz)) (by rw [← hz]; exact hh.both.ok.lo _) (by rw [← hz]; exact hh.both.ok.hi _))))
  have HS := Lib.hid (show ∀ W, Below w4.heap.size w4 W → (W.cell? ⟨t5, 2, none⟩ = some (.string x.o.path) ∧ W.cell? ⟨t5, 16, none⟩ = some (.int .i64 x.s.kind) ∧ W.cell? ⟨t5, 17, none⟩ = some (.int .i64 x.s.arg) ∧ W.cell? ⟨t5, 18, none⟩ = some (.string x.r)) from fun W hb => by
    obtain ⟨-, -, f2, -, -, -, -, -, -, -, -, -, -, -, -, -, f16, f17, f18⟩ := (HX5.out.below hb).lit; exact ⟨f2, f16, f17, f18⟩)
  clear hz hh
  go_upto_region 11 with fail
  clear k1
  go_region_held3 (fun w' => w'.cell? ⟨t5, 2, none⟩ = some (.string x.o.path) ∧ w'.cell? ⟨t5, 16, none⟩ = some (.int .i64 x.s.kind) ∧ w'.cell? ⟨t5, 17, none⟩ = some (.int .i64 x.s.arg) ∧ w'.cell? ⟨t5, 18, none⟩ = some (.string x.r)) (exact HS.out _ (by repeat (first | exact HK3.out | exact HK2.out | exact HK1.out | exact Below.refl _ _ | refine Below.drew ?_))) (first
    | (go_at_call 27; refine (HC1.out _ (by repeat (first | exact Below.refl _ _ | refine Below.drew ?_))).mono ?_; rintro e v1 ⟨rfl, hb1⟩; have HK1 := Lib.hid (show Below w4.heap.size w4 v1 from BJp hb1 (by repeat (first | exact Below.refl _ _ | refine Below.drew ?_))); clear hb1)
    | (go_at_call 40; refine (HC2.out _ (by repeat (first | exact HK1.out | refine Below.drew ?_))).mono ?_; rintro e v2 ⟨rfl, hb2⟩; have HK2 := Lib.hid (show Below w4.heap.size w4 v2 from BJp hb2 (by repeat (first | exact HK1.out | refine Below.drew ?_))); clear hb2))
  all_goals (go_wp2_with fail; go_ret; exact ⟨rfl, ⟨S, C, es, HFIN.out _ HK2.out⟩, Turn.of_below (HEND.out.trans (HK2.out.mono HEND.out.size))⟩)
set_option maxRecDepth 100000 in
set_option maxHeartbeats 2000000 in
theorem plays_5 {w : World} {x : OpM} {d : OpAd} {P : Nat → Prop} {N g b1 b2 gr m a b : Nat} {S : Pl → Int} {C : ByteArray → Int} {es : List EntV} (h : PlayIn w x d P N g b1 b2 gr m a b S C es) (hk : x.kind = 5) :
    Calls Tryz.prog 22 #[.pointer (some ⟨g, 0, none⟩), .pointer (some ⟨gr, 0, none⟩), .agg #[.bool x.two, .int .i64 x.kind, .string x.o.path, .string x.o.name, .slice d.L x.o.ls.length d.m, .int .i64 x.o.prio, .int .i64 x.o.dl, .slice d.B x.o.parts.length d.c, .int .i64 x.o.ver, .string x.p.path, .string x.p.name, .slice d.L' x.p.ls.length d.m', .int .i64 x.p.prio, .int .i64 x.p.dl, .slice d.B' x.p.parts.length d.c', .int .i64 x.p.ver, .int .i64 x.s.kind, .int .i64 x.s.arg, .string x.r]] w (PlaysPost N g b1 b2 gr (m + opWt x) (a + 2) (b + opUs x) w) := by
  have hb0 : Below w.heap.size w (w.alloc (.cells #[.bool x.two, .int .i64 x.kind, .string x.o.path, .string x.o.name, .slice d.L x.o.ls.length d.m, .int .i64 x.o.prio, .int .i64 x.o.dl, .slice d.B x.o.parts.length d.c, .int .i64 x.o.ver, .string x.p.path, .string x.p.name, .slice d.L' x.p.ls.length d.m', .int .i64 x.p.prio, .int .i64 x.p.dl, .slice d.B' x.p.parts.length d.c', .int .i64 x.p.ver, .int .i64 x.s.kind, .int .i64 x.s.arg, .string x.r] 58)) := (Below.refl _ _).alloc (Nat.le_refl _) _
  have hx := OpBox.mk (heap_alloc_new w (.cells #[.bool x.two, .int .i64 x.kind, .string x.o.path, .string x.o.name, .slice d.L x.o.ls.length d.m, .int .i64 x.o.prio, .int .i64 x.o.dl, .slice d.B x.o.parts.length d.c, .int .i64 x.o.ver, .string x.p.path, .string x.p.name, .slice d.L' x.p.ls.length d.m', .int .i64 x.p.prio, .int .i64 x.p.dl, .slice d.B' x.p.parts.length d.c', .int .i64 x.p.ver, .int .i64 x.s.kind, .int .i64 x.s.arg, .string x.r] 58))
  obtain ⟨w0, hw0⟩ : ∃ w0, w.alloc (.cells #[.bool x.two, .int .i64 x.kind, .string x.o.path, .string x.o.name, .slice d.L x.o.ls.length d.m, .int .i64 x.o.prio, .int .i64 x.o.dl, .slice d.B x.o.parts.length d.c, .int .i64 x.o.ver, .string x.p.path, .string x.p.name, .slice d.L' x.p.ls.length d.m', .int .i64 x.p.prio, .int .i64 x.p.dl, .slice d.B' x.p.parts.length d.c', .int .i64 x.p.ver, .int .i64 x.s.kind, .int .i64 x.s.arg, .string x.r] 58) = w0 := ⟨_, rfl⟩
  rw [hw0] at hb0 hx
  have HB0 := Lib.hid hb0
  have HX := Lib.hid hx
  obtain ⟨t5, ht5⟩ : ∃ t, w.heap.size = t := ⟨_, rfl⟩
  have HNT := Lib.hid (show ∀ i, t5 ≤ i → ¬ bothB g b1 b2 gr i from fun i hi => h.new (by omega))
  have h := h.below hb0
  have HH := Lib.hid h
  have HOW1 := Lib.hid (own_objM x.o d.L d.m d.B d.c w0 h.fo)
  have HOW2 := Lib.hid (fun W (hb : Below w0.heap.size w0 W) => own_objM x.p d.L' d.m' d.B' d.c' W (h.below hb).fp)
  have HLT := Lib.hid (show t5 < w0.heap.size from by rw [← ht5]; exact (Array.getElem?_eq_some_iff.1 hx.blk).1)
  have HKI := Lib.hid hk
  clear h hb0 hx hk
  go_enter Tryz.func22, Tryz.ntmps22
  go_upto_region 1 with fail
  clear hw0
  rw [ht5] at HX
  obtain ⟨-, -, y2, y3, y4, y5, y6, y7, y8, -⟩ := HX.out.lit
  go_upto_region 2 with (go_at_call 10; refine HOW1.out.mono ?_; rintro e w1 ⟨L1, m1, B1, c1, rfl, hr1, hb1⟩; have HR1 := Lib.hid hr1; have HB1 := Lib.hid hb1; clear hr1 hb1)
  clear y2 y3 y4 y5 y6 y7 y8
  have HX7 := Lib.hid (OBox.of (heap_alloc_new w1 (.cells #[.string x.o.path, .string x.o.name, .slice L1 x.o.ls.length m1, .int .i64 x.o.prio, .int .i64 x.o.dl, .slice B1 x.o.parts.length c1, .int .i64 x.o.ver] 26)))
  have HBA := Lib.hid (show Below w0.heap.size w0 (w1.alloc (.cells #[.string x.o.path, .string x.o.name, .slice L1 x.o.ls.length m1, .int .i64 x.o.prio, .int .i64 x.o.dl, .slice B1 x.o.parts.length c1, .int .i64 x.o.ver] 26)) from HB1.out.alloc HB1.out.size _)
  have HO1 := Lib.hid (kObj.keep (w' := w1.alloc (.cells #[.string x.o.path, .string x.o.name, .slice L1 x.o.ls.length m1, .int .i64 x.o.prio, .int .i64 x.o.dl, .slice B1 x.o.parts.length c1, .int .i64 x.o.ver] 26)) (fun k _ hk => heap_alloc_old _ _ hk) HR1.out)
  have HL7 := Lib.hid (show w0.heap.size ≤ w1.heap.size ∧ w1.heap.size < (w1.alloc (.cells #[.string x.o.path, .string x.o.name, .slice L1 x.o.ls.length m1, .int .i64 x.o.prio, .int .i64 x.o.dl, .slice B1 x.o.parts.length c1, .int .i64 x.o.ver] 26)).heap.size from ⟨HB1.out.size, by simp⟩)
  obtain ⟨q7, hq7⟩ : ∃ q, w1.heap.size = q := ⟨_, rfl⟩
  rw [hq7] at HX7 HL7 ⊢
  generalize hw2 : w1.alloc (.cells #[.string x.o.path, .string x.o.name, .slice L1 x.o.ls.length m1, .int .i64 x.o.prio, .int .i64 x.o.dl, .slice B1 x.o.parts.length c1, .int .i64 x.o.ver] 26) = w2 at HX7 HBA HO1 HL7 ⊢
  clear hw2 hq7 HR1 HB1 HOW1
  obtain ⟨-, -, -, -, -, -, -, -, -, z9, z10, z11, z12, z13, z14, z15, -⟩ := (HX.out.below HBA.out).lit
  go_upto_region 3 with (go_at_call 10; refine (HOW2.out _ HBA.out).mono ?_; rintro e w3 ⟨L2, m2, B2, c2, rfl, hr3, hb3⟩; have HR3 := Lib.hid hr3; have HB3 := Lib.hid hb3; clear hr3 hb3)
  clear z9 z10 z11 z12 z13 z14 z15
  have HX8 := Lib.hid (OBox.of (heap_alloc_new w3 (.cells #[.string x.p.path, .string x.p.name, .slice L2 x.p.ls.length m2, .int .i64 x.p.prio, .int .i64 x.p.dl, .slice B2 x.p.parts.length c2, .int .i64 x.p.ver] 26)))
  have HB24 := Lib.hid (show Below w2.heap.size w2 (w3.alloc (.cells #[.string x.p.path, .string x.p.name, .slice L2 x.p.ls.length m2, .int .i64 x.p.prio, .int .i64 x.p.dl, .slice B2 x.p.parts.length c2, .int .i64 x.p.ver] 26)) from HB3.out.alloc HB3.out.size _)
  have HO2 := Lib.hid (kObj_parts (kObj.keep (w' := w3.alloc (.cells #[.string x.p.path, .string x.p.name, .slice L2 x.p.ls.length m2, .int .i64 x.p.prio, .int .i64 x.p.dl, .slice B2 x.p.parts.length c2, .int .i64 x.p.ver] 26)) (fun k _ hk => heap_alloc_old _ _ hk) HR3.out)).1
  have HL8 := Lib.hid (show w0.heap.size ≤ w3.heap.size ∧ w3.heap.size < (w3.alloc (.cells #[.string x.p.path, .string x.p.name, .slice L2 x.p.ls.length m2, .int .i64 x.p.prio, .int .i64 x.p.dl, .slice B2 x.p.parts.length c2, .int .i64 x.p.ver] 26)).heap.size from ⟨Nat.le_trans HBA.out.size HB3.out.size, by simp⟩)
  obtain ⟨q8, hq8⟩ : ∃ q, w3.heap.size = q := ⟨_, rfl⟩
  rw [hq8] at HX8 HL8 ⊢
  generalize hw4 : w3.alloc (.cells #[.string x.p.path, .string x.p.name, .slice L2 x.p.ls.length m2, .int .i64 x.p.prio, .int .i64 x.p.dl, .slice B2 x.p.parts.length c2, .int .i64 x.p.ver] 26) = w4 at HX8 HB24 HO2 HL8 ⊢
  clear hw4 hq8
  have HBW := Lib.hid (HBA.out.trans (HB24.out.mono HBA.out.size))
  have HO1' := Lib.hid (((kObj_parts HO1.out).1.below HB24.out).mono fun k (hk : w0.heap.size ≤ k ∧ k < w1.heap.size) => show t5 ≤ k from by have := HLT.out; omega)
  have HO2' := Lib.hid (HO2.out.mono fun k (hk : w2.heap.size ≤ k ∧ k < w3.heap.size) => show t5 ≤ k from by have := HLT.out; have := HBA.out.size; omega)
  have HX5 := Lib.hid (HX.out.below HBW.out)
  have HX7' := Lib.hid (HX7.out.below HB24.out)
  have HQ7 := Lib.hid (show t5 ≤ q7 from by have := HLT.out; have := HL7.out; omega)
  have HQ8 := Lib.hid (show t5 ≤ q8 from by have := HLT.out; have := HL8.out; omega)
  have HHW := Lib.hid (HH.out.below HBW.out)
  have HEND := Lib.hid (HB0.out.trans (HBW.out.mono HB0.out.size))
  clear HR3 HB3 HOW2 HO1 HO2 HX7 HX HBA HB24 HL7 HL8 HH HB0
  clear HBW HLT
  have k1 := HX5.out.lit.2.1
  have hk := HKI.out
  rw [hk] at k1
  clear hk HKI
  have hh := HHW.out
  obtain ⟨z, hz⟩ : ∃ z, C x.o.path = z := ⟨_, rfl⟩
  have HFIN := Lib.hid (show ∀ W, Below w4.heap.size w4 W → Both W N g b1 b2 gr (m + opWt x) (a + 2) (b + opUs x) S C es from fun W hb => (hh.both.below hb).mono (by omega) (by omega) (by omega))
  have HC1 := Lib.hid (fun W (hb : Below w4.heap.size w4 W) => (show Calls Tryz.prog 19 #[.pointer (some ⟨g, 0, none⟩), .string x.o.path] W (fun e w' => e = .returned (.int .i64 z) ∧ Below W.heap.size W w') from (count_any x.o.path (by have := hh.fit.po; unfold StOk maxLen; omega) z (Lib.hid hz) W (hh.both.led.below hb))))
  have HC2 := Lib.hid (fun W (hb : Below w4.heap.size w4 W) => (show Calls Tryz.prog 49 #[.pointer (some ⟨gr, 0, none⟩), .string x.o.path] W (fun e w' => e = .returned (.int .i64 z) ∧ Below W.heap.size W w') from (rcountM_any gr (fun k => N ≤ k) es x.o.path W (hh.both.rl.below hb) (by have := hh.both.esz.len; have := hh.ha; omega) z (Lib.hid ((hh.both.rel.cnt _).trans hz)))))
  have HS := Lib.hid (show ∀ W, Below w4.heap.size w4 W → (W.cell? ⟨t5, 2, none⟩ = some (.string x.o.path)) from fun W hb => by
    obtain ⟨-, -, f2, -, -, -, -, -, -, -, -, -, -, -, -, -, -, -, -⟩ := (HX5.out.below hb).lit; exact f2)
  clear hz hh
  go_upto_region 13 with fail
  clear k1
  go_region_held3 (fun w' => w'.cell? ⟨t5, 2, none⟩ = some (.string x.o.path)) (exact HS.out _ (by repeat (first | exact HK3.out | exact HK2.out | exact HK1.out | exact Below.refl _ _ | refine Below.drew ?_))) (first
    | (go_at_call 19; refine (HC1.out _ (by repeat (first | exact Below.refl _ _ | refine Below.drew ?_))).mono ?_; rintro e v1 ⟨rfl, hb1⟩; have HK1 := Lib.hid (show Below w4.heap.size w4 v1 from BJp hb1 (by repeat (first | exact Below.refl _ _ | refine Below.drew ?_))); clear hb1)
    | (go_at_call 49; refine (HC2.out _ (by repeat (first | exact HK1.out | refine Below.drew ?_))).mono ?_; rintro e v2 ⟨rfl, hb2⟩; have HK2 := Lib.hid (show Below w4.heap.size w4 v2 from BJp hb2 (by repeat (first | exact HK1.out | refine Below.drew ?_))); clear hb2))
  all_goals (go_wp2_with fail; go_ret; exact ⟨rfl, ⟨S, C, es, HFIN.out _ HK2.out⟩, Turn.of_below (HEND.out.trans (HK2.out.mono HEND.out.size))⟩)
set_option maxRecDepth 100000 in
set_option maxHeartbeats 2000000 in
theorem plays_6 {w : World} {x : OpM} {d : OpAd} {P : Nat → Prop} {N g b1 b2 gr m a b : Nat} {S : Pl → Int} {C : ByteArray → Int} {es : List EntV} (h : PlayIn w x d P N g b1 b2 gr m a b S C es) (hk : x.kind = 6) :
    Calls Tryz.prog 22 #[.pointer (some ⟨g, 0, none⟩), .pointer (some ⟨gr, 0, none⟩), .agg #[.bool x.two, .int .i64 x.kind, .string x.o.path, .string x.o.name, .slice d.L x.o.ls.length d.m, .int .i64 x.o.prio, .int .i64 x.o.dl, .slice d.B x.o.parts.length d.c, .int .i64 x.o.ver, .string x.p.path, .string x.p.name, .slice d.L' x.p.ls.length d.m', .int .i64 x.p.prio, .int .i64 x.p.dl, .slice d.B' x.p.parts.length d.c', .int .i64 x.p.ver, .int .i64 x.s.kind, .int .i64 x.s.arg, .string x.r]] w (PlaysPost N g b1 b2 gr (m + opWt x) (a + 2) (b + opUs x) w) := by
  have hb0 : Below w.heap.size w (w.alloc (.cells #[.bool x.two, .int .i64 x.kind, .string x.o.path, .string x.o.name, .slice d.L x.o.ls.length d.m, .int .i64 x.o.prio, .int .i64 x.o.dl, .slice d.B x.o.parts.length d.c, .int .i64 x.o.ver, .string x.p.path, .string x.p.name, .slice d.L' x.p.ls.length d.m', .int .i64 x.p.prio, .int .i64 x.p.dl, .slice d.B' x.p.parts.length d.c', .int .i64 x.p.ver, .int .i64 x.s.kind, .int .i64 x.s.arg, .string x.r] 58)) := (Below.refl _ _).alloc (Nat.le_refl _) _
  have hx := OpBox.mk (heap_alloc_new w (.cells #[.bool x.two, .int .i64 x.kind, .string x.o.path, .string x.o.name, .slice d.L x.o.ls.length d.m, .int .i64 x.o.prio, .int .i64 x.o.dl, .slice d.B x.o.parts.length d.c, .int .i64 x.o.ver, .string x.p.path, .string x.p.name, .slice d.L' x.p.ls.length d.m', .int .i64 x.p.prio, .int .i64 x.p.dl, .slice d.B' x.p.parts.length d.c', .int .i64 x.p.ver, .int .i64 x.s.kind, .int .i64 x.s.arg, .string x.r] 58))
  obtain ⟨w0, hw0⟩ : ∃ w0, w.alloc (.cells #[.bool x.two, .int .i64 x.kind, .string x.o.path, .string x.o.name, .slice d.L x.o.ls.length d.m, .int .i64 x.o.prio, .int .i64 x.o.dl, .slice d.B x.o.parts.length d.c, .int .i64 x.o.ver, .string x.p.path, .string x.p.name, .slice d.L' x.p.ls.length d.m', .int .i64 x.p.prio, .int .i64 x.p.dl, .slice d.B' x.p.parts.length d.c', .int .i64 x.p.ver, .int .i64 x.s.kind, .int .i64 x.s.arg, .string x.r] 58) = w0 := ⟨_, rfl⟩
  rw [hw0] at hb0 hx
  have HB0 := Lib.hid hb0
  have HX := Lib.hid hx
  obtain ⟨t5, ht5⟩ : ∃ t, w.heap.size = t := ⟨_, rfl⟩
  have HNT := Lib.hid (show ∀ i, t5 ≤ i → ¬ bothB g b1 b2 gr i from fun i hi => h.new (by omega))
  have h := h.below hb0
  have HH := Lib.hid h
  have HOW1 := Lib.hid (own_objM x.o d.L d.m d.B d.c w0 h.fo)
  have HOW2 := Lib.hid (fun W (hb : Below w0.heap.size w0 W) => own_objM x.p d.L' d.m' d.B' d.c' W (h.below hb).fp)
  have HLT := Lib.hid (show t5 < w0.heap.size from by rw [← ht5]; exact (Array.getElem?_eq_some_iff.1 hx.blk).1)
  have HKI := Lib.hid hk
  clear h hb0 hx hk
  go_enter Tryz.func22, Tryz.ntmps22
  go_upto_region 1 with fail
  clear hw0
  rw [ht5] at HX
  obtain ⟨-, -, y2, y3, y4, y5, y6, y7, y8, -⟩ := HX.out.lit
  go_upto_region 2 with (go_at_call 10; refine HOW1.out.mono ?_; rintro e w1 ⟨L1, m1, B1, c1, rfl, hr1, hb1⟩; have HR1 := Lib.hid hr1; have HB1 := Lib.hid hb1; clear hr1 hb1)
  clear y2 y3 y4 y5 y6 y7 y8
  have HX7 := Lib.hid (OBox.of (heap_alloc_new w1 (.cells #[.string x.o.path, .string x.o.name, .slice L1 x.o.ls.length m1, .int .i64 x.o.prio, .int .i64 x.o.dl, .slice B1 x.o.parts.length c1, .int .i64 x.o.ver] 26)))
  have HBA := Lib.hid (show Below w0.heap.size w0 (w1.alloc (.cells #[.string x.o.path, .string x.o.name, .slice L1 x.o.ls.length m1, .int .i64 x.o.prio, .int .i64 x.o.dl, .slice B1 x.o.parts.length c1, .int .i64 x.o.ver] 26)) from HB1.out.alloc HB1.out.size _)
  have HO1 := Lib.hid (kObj.keep (w' := w1.alloc (.cells #[.string x.o.path, .string x.o.name, .slice L1 x.o.ls.length m1, .int .i64 x.o.prio, .int .i64 x.o.dl, .slice B1 x.o.parts.length c1, .int .i64 x.o.ver] 26)) (fun k _ hk => heap_alloc_old _ _ hk) HR1.out)
  have HL7 := Lib.hid (show w0.heap.size ≤ w1.heap.size ∧ w1.heap.size < (w1.alloc (.cells #[.string x.o.path, .string x.o.name, .slice L1 x.o.ls.length m1, .int .i64 x.o.prio, .int .i64 x.o.dl, .slice B1 x.o.parts.length c1, .int .i64 x.o.ver] 26)).heap.size from ⟨HB1.out.size, by simp⟩)
  obtain ⟨q7, hq7⟩ : ∃ q, w1.heap.size = q := ⟨_, rfl⟩
  rw [hq7] at HX7 HL7 ⊢
  generalize hw2 : w1.alloc (.cells #[.string x.o.path, .string x.o.name, .slice L1 x.o.ls.length m1, .int .i64 x.o.prio, .int .i64 x.o.dl, .slice B1 x.o.parts.length c1, .int .i64 x.o.ver] 26) = w2 at HX7 HBA HO1 HL7 ⊢
  clear hw2 hq7 HR1 HB1 HOW1
  obtain ⟨-, -, -, -, -, -, -, -, -, z9, z10, z11, z12, z13, z14, z15, -⟩ := (HX.out.below HBA.out).lit
  go_upto_region 3 with (go_at_call 10; refine (HOW2.out _ HBA.out).mono ?_; rintro e w3 ⟨L2, m2, B2, c2, rfl, hr3, hb3⟩; have HR3 := Lib.hid hr3; have HB3 := Lib.hid hb3; clear hr3 hb3)
  clear z9 z10 z11 z12 z13 z14 z15
  have HX8 := Lib.hid (OBox.of (heap_alloc_new w3 (.cells #[.string x.p.path, .string x.p.name, .slice L2 x.p.ls.length m2, .int .i64 x.p.prio, .int .i64 x.p.dl, .slice B2 x.p.parts.length c2, .int .i64 x.p.ver] 26)))
  have HB24 := Lib.hid (show Below w2.heap.size w2 (w3.alloc (.cells #[.string x.p.path, .string x.p.name, .slice L2 x.p.ls.length m2, .int .i64 x.p.prio, .int .i64 x.p.dl, .slice B2 x.p.parts.length c2, .int .i64 x.p.ver] 26)) from HB3.out.alloc HB3.out.size _)
  have HO2 := Lib.hid (kObj_parts (kObj.keep (w' := w3.alloc (.cells #[.string x.p.path, .string x.p.name, .slice L2 x.p.ls.length m2, .int .i64 x.p.prio, .int .i64 x.p.dl, .slice B2 x.p.parts.length c2, .int .i64 x.p.ver] 26)) (fun k _ hk => heap_alloc_old _ _ hk) HR3.out)).1
  have HL8 := Lib.hid (show w0.heap.size ≤ w3.heap.size ∧ w3.heap.size < (w3.alloc (.cells #[.string x.p.path, .string x.p.name, .slice L2 x.p.ls.length m2, .int .i64 x.p.prio, .int .i64 x.p.dl, .slice B2 x.p.parts.length c2, .int .i64 x.p.ver] 26)).heap.size from ⟨Nat.le_trans HBA.out.size HB3.out.size, by simp⟩)
  obtain ⟨q8, hq8⟩ : ∃ q, w3.heap.size = q := ⟨_, rfl⟩
  rw [hq8] at HX8 HL8 ⊢
  generalize hw4 : w3.alloc (.cells #[.string x.p.path, .string x.p.name, .slice L2 x.p.ls.length m2, .int .i64 x.p.prio, .int .i64 x.p.dl, .slice B2 x.p.parts.length c2, .int .i64 x.p.ver] 26) = w4 at HX8 HB24 HO2 HL8 ⊢
  clear hw4 hq8
  have HBW := Lib.hid (HBA.out.trans (HB24.out.mono HBA.out.size))
  have HO1' := Lib.hid (((kObj_parts HO1.out).1.below HB24.out).mono fun k (hk : w0.heap.size ≤ k ∧ k < w1.heap.size) => show t5 ≤ k from by have := HLT.out; omega)
  have HO2' := Lib.hid (HO2.out.mono fun k (hk : w2.heap.size ≤ k ∧ k < w3.heap.size) => show t5 ≤ k from by have := HLT.out; have := HBA.out.size; omega)
  have HX5 := Lib.hid (HX.out.below HBW.out)
  have HX7' := Lib.hid (HX7.out.below HB24.out)
  have HQ7 := Lib.hid (show t5 ≤ q7 from by have := HLT.out; have := HL7.out; omega)
  have HQ8 := Lib.hid (show t5 ≤ q8 from by have := HLT.out; have := HL8.out; omega)
  have HHW := Lib.hid (HH.out.below HBW.out)
  have HEND := Lib.hid (HB0.out.trans (HBW.out.mono HB0.out.size))
  clear HR3 HB3 HOW2 HO1 HO2 HX7 HX HBA HB24 HL7 HL8 HH HB0
  clear HBW HLT
  have k1 := HX5.out.lit.2.1
  have hk := HKI.out
  rw [hk] at k1
  clear hk HKI
  have hh := HHW.out
  have HFIN := Lib.hid (show ∀ W, Below w4.heap.size w4 W → Both W N g b1 b2 gr (m + opWt x) (a + 2) (b + opUs x) S C es from fun W hb => (hh.both.below hb).mono (by omega) (by omega) (by omega))
  have HLR := Lib.hid (show ∀ W, Below w4.heap.size w4 W → Calls Tryz.prog 14 #[.pointer (some ⟨g, 0, none⟩)] W _ from fun W hb => lrows_any W (hh.ml.below hb) (hh.both.led.below hb) hh.both.ok (by have := hh.hm; omega))
  have HRR := Lib.hid (show ∀ W, Below w4.heap.size w4 W → Calls Tryz.prog 15 #[.pointer (some ⟨gr, 0, none⟩)] W (RRowsPost S W) from fun W hb => rrows_any gr _ es S C m W (hh.both.rl.below hb) hh.both.rel hh.both.ok (by have := hh.both.esz.len; have := hh.ha; omega) (by have := hh.both.esz.line; have := hh.ha; omega) (by have := hh.both.esz.uses; have := hh.hb; omega) (by have := hh.hm; omega))
  clear hh
  go_upto_region 15 with fail
  clear k1
  go_wp2_with (first
    | (go_at_call 14; have q := HLR.out w4 (Below.refl _ _); refine q.mono ?_; clear q; rintro e w6 ⟨A6, c6, R6, rfl, ho6, hr6, hb6⟩; have HR6 := Lib.hid hr6; have HB6 := Lib.hid hb6; have HO6 := Lib.hid ho6.row'.2.1; have HLE := Lib.hid (show R6.length ≤ 9223372036854775807 by have h1 := ho6.row'.2.2.1; have h2 := ho6.row'.2.2.2; unfold maxLen at h2; omega); clear ho6 hr6 hb6)
    | (go_at_call 15; have q := HRR.out w6 HB6.out; refine q.mono ?_; clear q; rintro e w7 ⟨A7', c7, R7, rfl, hr7, hs7, hb7⟩; have h7 := rowsOf_unique hs7 HR6.out; have HB67 := Lib.hid hb7; have HO7 := Lib.hid (h7 ▸ hr7); rw [h7]; clear hr7 hs7 hb7 h7)
    | (go_at_call 13; have q := sameRows_val A6 A7' _ c6 c7 _ _ R6 w7 (HO6.out.below HB67.out) HO7.out rfl HLE.out; refine q.mono ?_; clear q; rintro e w8 ⟨rfl, hb8⟩; have HK8 := Lib.hid (HB6.out.trans ((HB67.out.trans (hb8.mono HB67.out.size)).mono HB6.out.size)); clear hb8))
  go_ret
  exact ⟨rfl, ⟨S, C, es, HFIN.out _ HK8.out⟩, Turn.of_below (HEND.out.trans (HK8.out.mono HEND.out.size))⟩
set_option maxRecDepth 100000 in
set_option maxHeartbeats 2000000 in
theorem plays_0 {w : World} {x : OpM} {d : OpAd} {P : Nat → Prop} {N g b1 b2 gr m a b : Nat} {S : Pl → Int} {C : ByteArray → Int} {es : List EntV} (h : PlayIn w x d P N g b1 b2 gr m a b S C es) (hk : ∀ i : Int, 1 ≤ i → i ≤ 6 → x.kind ≠ i) :
    Calls Tryz.prog 22 #[.pointer (some ⟨g, 0, none⟩), .pointer (some ⟨gr, 0, none⟩), .agg #[.bool x.two, .int .i64 x.kind, .string x.o.path, .string x.o.name, .slice d.L x.o.ls.length d.m, .int .i64 x.o.prio, .int .i64 x.o.dl, .slice d.B x.o.parts.length d.c, .int .i64 x.o.ver, .string x.p.path, .string x.p.name, .slice d.L' x.p.ls.length d.m', .int .i64 x.p.prio, .int .i64 x.p.dl, .slice d.B' x.p.parts.length d.c', .int .i64 x.p.ver, .int .i64 x.s.kind, .int .i64 x.s.arg, .string x.r]] w (PlaysPost N g b1 b2 gr (m + opWt x) (a + 2) (b + opUs x) w) := by
  have hb0 : Below w.heap.size w (w.alloc (.cells #[.bool x.two, .int .i64 x.kind, .string x.o.path, .string x.o.name, .slice d.L x.o.ls.length d.m, .int .i64 x.o.prio, .int .i64 x.o.dl, .slice d.B x.o.parts.length d.c, .int .i64 x.o.ver, .string x.p.path, .string x.p.name, .slice d.L' x.p.ls.length d.m', .int .i64 x.p.prio, .int .i64 x.p.dl, .slice d.B' x.p.parts.length d.c', .int .i64 x.p.ver, .int .i64 x.s.kind, .int .i64 x.s.arg, .string x.r] 58)) := (Below.refl _ _).alloc (Nat.le_refl _) _
  have hx := OpBox.mk (heap_alloc_new w (.cells #[.bool x.two, .int .i64 x.kind, .string x.o.path, .string x.o.name, .slice d.L x.o.ls.length d.m, .int .i64 x.o.prio, .int .i64 x.o.dl, .slice d.B x.o.parts.length d.c, .int .i64 x.o.ver, .string x.p.path, .string x.p.name, .slice d.L' x.p.ls.length d.m', .int .i64 x.p.prio, .int .i64 x.p.dl, .slice d.B' x.p.parts.length d.c', .int .i64 x.p.ver, .int .i64 x.s.kind, .int .i64 x.s.arg, .string x.r] 58))
  obtain ⟨w0, hw0⟩ : ∃ w0, w.alloc (.cells #[.bool x.two, .int .i64 x.kind, .string x.o.path, .string x.o.name, .slice d.L x.o.ls.length d.m, .int .i64 x.o.prio, .int .i64 x.o.dl, .slice d.B x.o.parts.length d.c, .int .i64 x.o.ver, .string x.p.path, .string x.p.name, .slice d.L' x.p.ls.length d.m', .int .i64 x.p.prio, .int .i64 x.p.dl, .slice d.B' x.p.parts.length d.c', .int .i64 x.p.ver, .int .i64 x.s.kind, .int .i64 x.s.arg, .string x.r] 58) = w0 := ⟨_, rfl⟩
  rw [hw0] at hb0 hx
  have HB0 := Lib.hid hb0
  have HX := Lib.hid hx
  obtain ⟨t5, ht5⟩ : ∃ t, w.heap.size = t := ⟨_, rfl⟩
  have HNT := Lib.hid (show ∀ i, t5 ≤ i → ¬ bothB g b1 b2 gr i from fun i hi => h.new (by omega))
  have h := h.below hb0
  have HH := Lib.hid h
  have HOW1 := Lib.hid (own_objM x.o d.L d.m d.B d.c w0 h.fo)
  have HOW2 := Lib.hid (fun W (hb : Below w0.heap.size w0 W) => own_objM x.p d.L' d.m' d.B' d.c' W (h.below hb).fp)
  have HLT := Lib.hid (show t5 < w0.heap.size from by rw [← ht5]; exact (Array.getElem?_eq_some_iff.1 hx.blk).1)
  have HKI := Lib.hid hk
  clear h hb0 hx hk
  go_enter Tryz.func22, Tryz.ntmps22
  go_upto_region 1 with fail
  clear hw0
  rw [ht5] at HX
  obtain ⟨-, -, y2, y3, y4, y5, y6, y7, y8, -⟩ := HX.out.lit
  go_upto_region 2 with (go_at_call 10; refine HOW1.out.mono ?_; rintro e w1 ⟨L1, m1, B1, c1, rfl, hr1, hb1⟩; have HR1 := Lib.hid hr1; have HB1 := Lib.hid hb1; clear hr1 hb1)
  clear y2 y3 y4 y5 y6 y7 y8
  have HX7 := Lib.hid (OBox.of (heap_alloc_new w1 (.cells #[.string x.o.path, .string x.o.name, .slice L1 x.o.ls.length m1, .int .i64 x.o.prio, .int .i64 x.o.dl, .slice B1 x.o.parts.length c1, .int .i64 x.o.ver] 26)))
  have HBA := Lib.hid (show Below w0.heap.size w0 (w1.alloc (.cells #[.string x.o.path, .string x.o.name, .slice L1 x.o.ls.length m1, .int .i64 x.o.prio, .int .i64 x.o.dl, .slice B1 x.o.parts.length c1, .int .i64 x.o.ver] 26)) from HB1.out.alloc HB1.out.size _)
  have HO1 := Lib.hid (kObj.keep (w' := w1.alloc (.cells #[.string x.o.path, .string x.o.name, .slice L1 x.o.ls.length m1, .int .i64 x.o.prio, .int .i64 x.o.dl, .slice B1 x.o.parts.length c1, .int .i64 x.o.ver] 26)) (fun k _ hk => heap_alloc_old _ _ hk) HR1.out)
  have HL7 := Lib.hid (show w0.heap.size ≤ w1.heap.size ∧ w1.heap.size < (w1.alloc (.cells #[.string x.o.path, .string x.o.name, .slice L1 x.o.ls.length m1, .int .i64 x.o.prio, .int .i64 x.o.dl, .slice B1 x.o.parts.length c1, .int .i64 x.o.ver] 26)).heap.size from ⟨HB1.out.size, by simp⟩)
  obtain ⟨q7, hq7⟩ : ∃ q, w1.heap.size = q := ⟨_, rfl⟩
  rw [hq7] at HX7 HL7 ⊢
  generalize hw2 : w1.alloc (.cells #[.string x.o.path, .string x.o.name, .slice L1 x.o.ls.length m1, .int .i64 x.o.prio, .int .i64 x.o.dl, .slice B1 x.o.parts.length c1, .int .i64 x.o.ver] 26) = w2 at HX7 HBA HO1 HL7 ⊢
  clear hw2 hq7 HR1 HB1 HOW1
  obtain ⟨-, -, -, -, -, -, -, -, -, z9, z10, z11, z12, z13, z14, z15, -⟩ := (HX.out.below HBA.out).lit
  go_upto_region 3 with (go_at_call 10; refine (HOW2.out _ HBA.out).mono ?_; rintro e w3 ⟨L2, m2, B2, c2, rfl, hr3, hb3⟩; have HR3 := Lib.hid hr3; have HB3 := Lib.hid hb3; clear hr3 hb3)
  clear z9 z10 z11 z12 z13 z14 z15
  have HX8 := Lib.hid (OBox.of (heap_alloc_new w3 (.cells #[.string x.p.path, .string x.p.name, .slice L2 x.p.ls.length m2, .int .i64 x.p.prio, .int .i64 x.p.dl, .slice B2 x.p.parts.length c2, .int .i64 x.p.ver] 26)))
  have HB24 := Lib.hid (show Below w2.heap.size w2 (w3.alloc (.cells #[.string x.p.path, .string x.p.name, .slice L2 x.p.ls.length m2, .int .i64 x.p.prio, .int .i64 x.p.dl, .slice B2 x.p.parts.length c2, .int .i64 x.p.ver] 26)) from HB3.out.alloc HB3.out.size _)
  have HO2 := Lib.hid (kObj_parts (kObj.keep (w' := w3.alloc (.cells #[.string x.p.path, .string x.p.name, .slice L2 x.p.ls.length m2, .int .i64 x.p.prio, .int .i64 x.p.dl, .slice B2 x.p.parts.length c2, .int .i64 x.p.ver] 26)) (fun k _ hk => heap_alloc_old _ _ hk) HR3.out)).1
  have HL8 := Lib.hid (show w0.heap.size ≤ w3.heap.size ∧ w3.heap.size < (w3.alloc (.cells #[.string x.p.path, .string x.p.name, .slice L2 x.p.ls.length m2, .int .i64 x.p.prio, .int .i64 x.p.dl, .slice B2 x.p.parts.length c2, .int .i64 x.p.ver] 26)).heap.size from ⟨Nat.le_trans HBA.out.size HB3.out.size, by simp⟩)
  obtain ⟨q8, hq8⟩ : ∃ q, w3.heap.size = q := ⟨_, rfl⟩
  rw [hq8] at HX8 HL8 ⊢
  generalize hw4 : w3.alloc (.cells #[.string x.p.path, .string x.p.name, .slice L2 x.p.ls.length m2, .int .i64 x.p.prio, .int .i64 x.p.dl, .slice B2 x.p.parts.length c2, .int .i64 x.p.ver] 26) = w4 at HX8 HB24 HO2 HL8 ⊢
  clear hw4 hq8
  have HBW := Lib.hid (HBA.out.trans (HB24.out.mono HBA.out.size))
  have HO1' := Lib.hid (((kObj_parts HO1.out).1.below HB24.out).mono fun k (hk : w0.heap.size ≤ k ∧ k < w1.heap.size) => show t5 ≤ k from by have := HLT.out; omega)
  have HO2' := Lib.hid (HO2.out.mono fun k (hk : w2.heap.size ≤ k ∧ k < w3.heap.size) => show t5 ≤ k from by have := HLT.out; have := HBA.out.size; omega)
  have HX5 := Lib.hid (HX.out.below HBW.out)
  have HX7' := Lib.hid (HX7.out.below HB24.out)
  have HQ7 := Lib.hid (show t5 ≤ q7 from by have := HLT.out; have := HL7.out; omega)
  have HQ8 := Lib.hid (show t5 ≤ q8 from by have := HLT.out; have := HL8.out; omega)
  have HHW := Lib.hid (HH.out.below HBW.out)
  have HEND := Lib.hid (HB0.out.trans (HBW.out.mono HB0.out.size))
  clear HR3 HB3 HOW2 HO1 HO2 HX7 HX HBA HB24 HL7 HL8 HH HB0
  clear HBW HLT
  have k1 := HX5.out.lit.2.1
  have hk := HKI.out
  have k2 := hk 1 (by omega) (by omega)
  have k3 := hk 2 (by omega) (by omega)
  have k4 := hk 3 (by omega) (by omega)
  have k5 := hk 4 (by omega) (by omega)
  have k6 := hk 5 (by omega) (by omega)
  have k7 := hk 6 (by omega) (by omega)
  clear hk HKI
  have hh := HHW.out
  have HFIN := Lib.hid (show ∀ W, Below w4.heap.size w4 W → Both W N g b1 b2 gr (m + opWt x) (a + 2) (b + opUs x) S C es from fun W hb => (hh.both.below hb).mono (by omega) (by omega) (by omega))
  clear hh
  have HK1 := Lib.hid (Below.refl w4.heap.size w4)
  go_wp2_with fail
  go_ret
  exact ⟨rfl, ⟨S, C, es, HFIN.out _ HK1.out⟩, Turn.of_below (HEND.out.trans (HK1.out.mono HEND.out.size))⟩
theorem plays17_any {w : World} {x : OpM} {d : OpAd} {P : Nat → Prop} {N g b1 b2 gr m a b : Nat} {S : Pl → Int} {C : ByteArray → Int} {es : List EntV} (h : PlayIn w x d P N g b1 b2 gr m a b S C es) :
    Calls Tryz.prog 22 #[.pointer (some ⟨g, 0, none⟩), .pointer (some ⟨gr, 0, none⟩), .agg #[.bool x.two, .int .i64 x.kind, .string x.o.path, .string x.o.name, .slice d.L x.o.ls.length d.m, .int .i64 x.o.prio, .int .i64 x.o.dl, .slice d.B x.o.parts.length d.c, .int .i64 x.o.ver, .string x.p.path, .string x.p.name, .slice d.L' x.p.ls.length d.m', .int .i64 x.p.prio, .int .i64 x.p.dl, .slice d.B' x.p.parts.length d.c', .int .i64 x.p.ver, .int .i64 x.s.kind, .int .i64 x.s.arg, .string x.r]] w (PlaysPost N g b1 b2 gr (m + opWt x) (a + 2) (b + opUs x) w) := by
  by_cases h1 : x.kind = 1
  · exact plays_1 h h1
  by_cases h2 : x.kind = 2
  · exact plays_2 h h2
  by_cases h3 : x.kind = 3
  · exact plays_3 h h3
  by_cases h4 : x.kind = 4
  · exact plays_4 h h4
  by_cases h5 : x.kind = 5
  · exact plays_5 h h5
  by_cases h6 : x.kind = 6
  · exact plays_6 h h6
  exact plays_0 h fun i hi hj => by
    have : i = 1 ∨ i = 2 ∨ i = 3 ∨ i = 4 ∨ i = 5 ∨ i = 6 := by omega
    rcases this with rfl | rfl | rfl | rfl | rfl | rfl <;> assumption
end Go.Proofs.YtalkdddeiebfmaaGreatDoor
