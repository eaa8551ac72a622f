/- A step of the book: the walks of (*bursarlaw17.book).step (printed by mkstep.py). -/
import Derived.Test.YtalkdddeiebfmaaGreatDoorJ62
import Derived.Deep.RegionLaw
namespace Go.Proofs.YtalkdddeiebfmaaGreatDoor
open Go.RowKit

/-- a book in memory -/
structure IsBook (w : World) (N bb g b1 b2 m : Nat) (A : Option Addr) (n c : Nat) (R : Nat → Prop) (S : Pl → Int) (C : ByteArray → Int) (held : List ObjM) : Prop where
  box : w.heap[bb]? = some (.cells #[.pointer (some ⟨g, 0, none⟩), .slice A n c] 63 (0, 0))
  led : IsLed w g b1 b2 m S C
  ok : LedOk m S C
  list : ListAt kObj 26 N w (.slice A n c) held R
  fit : ∀ o ∈ held, ObjMFit o
  len : held.length ≤ 40
  blo : bb < N
  llo : ∀ i, ledB g b1 b2 i → i < N ∧ i ≠ bb
/-- the blocks that a step may turn -/
abbrev bookT (bb b1 b2 : Nat) (A : Option Addr) (n c : Nat) : Nat → Prop := fun k => k = bb ∨ mapB b1 b2 k ∨ (Value.slice A n c).ownBlock = some k
section
variable {w w' : World} {N bb g b1 b2 m n c : Nat} {A : Option Addr} {R : Nat → Prop} {S : Pl → Int} {C : ByteArray → Int} {held : List ObjM}
theorem IsBook.hn (k : IsBook w N bb g b1 b2 m A n c R S C held) : n = held.length := k.list.row.1
theorem IsBook.turn {T : Nat → Prop} (k : IsBook w N bb g b1 b2 m A n c R S C held) (ht : Turn T w w') (h1 : ¬ T bb) (h2 : ∀ i, ledB g b1 b2 i → ¬ T i) (h3 : ∀ i, T i → ¬ (R i ∨ (Value.slice A n c).ownBlock = some i)) : IsBook w' N bb g b1 b2 m A n c R S C held :=
  ⟨(ht.block bb (Array.getElem?_eq_some_iff.1 k.box).1 h1).trans k.box, k.led.turn ht h2, k.ok, k.list.turn ht h3, k.fit, k.len, k.blo, k.llo⟩
theorem IsBook.below (k : IsBook w N bb g b1 b2 m A n c R S C held) (hb : Below w.heap.size w w') : IsBook w' N bb g b1 b2 m A n c R S C held :=
  ⟨(hb.block bb (Array.getElem?_eq_some_iff.1 k.box).1).trans k.box, k.led.below hb, k.ok, k.list.below hb, k.fit, k.len, k.blo, k.llo⟩
theorem IsBook.cells (k : IsBook w N bb g b1 b2 m A n c R S C held) : w.cell? ⟨bb, 0, none⟩ = some (.pointer (some ⟨g, 0, none⟩)) ∧ w.cell? ⟨bb, 1, none⟩ = some (.slice A n c) :=
  ⟨(cell_of_row _ _ _ _ _ _ k.box).trans rfl, (cell_of_row _ _ _ _ _ _ k.box).trans rfl⟩
end
/-- what a step is asked of -/
structure StepIn (w : World) (x : OpM) (d : OpAd) (P : Nat → Prop) (N bb g b1 b2 m : Nat) (A : Option Addr) (n c : Nat) (R : Nat → Prop) (S : Pl → Int) (C : ByteArray → Int) (held : List ObjM) : Prop where
  ml : Ml w
  tx : TextsAt w
  lab : Row kLab P w d.L x.o.ls
  par : Row kPart P w d.B x.o.parts
  fit : ObjMFit x.o
  book : IsBook w N bb g b1 b2 m A n c R S C held
  far : ∀ i, P i → i < N ∧ i ≠ bb ∧ ¬ ledB g b1 b2 i
  low : N ≤ w.heap.size
  sg : 1 < N ∧ 1 ≠ bb ∧ ¬ ledB g b1 b2 1
  st : 0 < N ∧ 0 ≠ bb ∧ ¬ ledB g b1 b2 0
  hm : m ≤ 2400000000000
def StepPost (N bb g b1 b2 m : Nat) (A : Option Addr) (n c : Nat) (R : Nat → Prop) (res : Bool × (Pl → Int) × (ByteArray → Int) × List ObjM) (w : World) (e : Ending) (w' : World) : Prop :=
  e = .returned (.bool res.1) ∧ (∃ A' n' c' R', IsBook w' N bb g b1 b2 (m + 60000000000) A' n' c' R' res.2.1 res.2.2.1 res.2.2.2 ∧ (∀ k, (Value.slice A' n' c').ownBlock = some k → (Value.slice A n c).ownBlock = some k ∨ w.heap.size ≤ k) ∧ ∀ k, R' k → R k ∨ (Value.slice A n c).ownBlock = some k ∨ w.heap.size ≤ k) ∧ Turn (bookT bb b1 b2 A n c) w w'
section
variable {w w' : World} {x : OpM} {d : OpAd} {P R : Nat → Prop} {N bb g b1 b2 m n c : Nat} {A : Option Addr} {S : Pl → Int} {C : ByteArray → Int} {held : List ObjM}
theorem StepIn.below (h : StepIn w x d P N bb g b1 b2 m A n c R S C held) (hb : Below w.heap.size w w') : StepIn w' x d P N bb g b1 b2 m A n c R S C held :=
  ⟨h.ml.below hb, h.tx.below hb, h.lab.below hb, h.par.below hb, h.fit, h.book.below hb, h.far, Nat.le_trans h.low hb.size, h.sg, h.st, h.hm⟩
theorem StepIn.fo (h : StepIn w x d P N bb g b1 b2 m A n c R S C held) : ObjFit w (x.o.at_ d.L d.m) d.B x.o.ls := ⟨h.par.mono fun _ _ => trivial, ⟨d.L, d.m, rfl, h.lab.mono fun _ _ => trivial⟩, h.fit.n64, h.fit.n24, h.fit.n32⟩
theorem IsBook.mono (k : IsBook w N bb g b1 b2 m A n c R S C held) {m' : Nat} (h : m ≤ m') : IsBook w N bb g b1 b2 m' A n c R S C held := ⟨k.box, k.led.mono h, k.ok.mono h, k.list, k.fit, k.len, k.blo, k.llo⟩
/-- a call on its ledger -/
theorem IsBook.led' (k : IsBook w N bb g b1 b2 m A n c R S C held) {m' n' : Nat} {S' : Pl → Int} {C' : ByteArray → Int} (ht : Turn (mapB b1 b2) w w') (hl : IsLed w' g b1 b2 n' S' C') (hok : LedOk m' S' C') : IsBook w' N bb g b1 b2 m' A n c R S' C' held :=
  ⟨(ht.block bb (Array.getElem?_eq_some_iff.1 k.box).1 fun e => (k.llo bb (.inr e)).2 rfl).trans k.box, hl.tight hok, hok, k.list.turn ht fun i hi hR => by
    have h1 := (k.llo i (.inr hi)).1
    rcases hR with hR | hR
    · have := (k.list.low i hR).1; omega
    · have := (k.list.own.block_lt i hR).1; omega, k.fit, k.len, k.blo, k.llo⟩
/-- another list is stored in the book -/
theorem IsBook.put (k : IsBook w N bb g b1 b2 m A n c R S C held) {w8 : World} {A8 : Option Addr} {n8 c8 : Nat} {R8 : Nat → Prop} {held8 : List ObjM} (ht : Turn (fun i => (Value.slice A n c).ownBlock = some i) w w8) (hl : ListAt kObj 26 N w8 (.slice A8 n8 c8) held8 R8)
    (hf : ∀ o ∈ held8, ObjMFit o) (h40 : held8.length ≤ 40) : IsBook (w8.setCell ⟨bb, 1, none⟩ (.slice A8 n8 c8)) N bb g b1 b2 m A8 n8 c8 R8 S C held8 ∧ Turn (fun i => i = bb ∨ (Value.slice A n c).ownBlock = some i) w (w8.setCell ⟨bb, 1, none⟩ (.slice A8 n8 c8)) := by
  have hob : ∀ i, (Value.slice A n c).ownBlock = some i → N ≤ i := fun i hi => (k.list.own.block_lt i hi).1
  have hblt := (Array.getElem?_eq_some_iff.1 k.box).1
  have hb8 := (ht.block bb hblt fun e => by have := hob bb e; have := k.blo; omega).trans k.box
  have ht9 : Turn (fun i => i = bb ∨ (Value.slice A n c).ownBlock = some i) w (w8.setCell ⟨bb, 1, none⟩ (.slice A8 n8 c8)) := (ht.mono fun i _ hi => .inr hi).setCell (.inl (.inl rfl)) _
  have hs : Turn (fun i => i = bb) w8 (w8.setCell ⟨bb, 1, none⟩ (.slice A8 n8 c8)) := (Turn.refl (fun i => i = bb) w8).setCell (p := ⟨bb, 1, none⟩) (.inl rfl) _
  refine ⟨⟨(heap_setCell_same _ _ _ _ _ _ hb8).trans rfl, k.led.turn ht9 fun i hi e => ?_, k.ok, hl.turn hs fun i e hi => ?_, hf, h40, k.blo, k.llo⟩, ht9⟩
  · have h1 := k.llo i hi
    rcases e with e | e
    · exact h1.2 e
    · have := hob i e; omega
  · have := k.blo
    rcases hi with hi | hi
    · have := (hl.low i hi).1; omega
    · have := (hl.own.block_lt i hi).1; omega
theorem own_from {α : Type} {dd : Kn α} {e base : Nat} {xs : List α} (h : Own dd e base (fun _ => False) w (.slice A n c) xs) (hN : N ≤ base) : Row dd (fun k => N ≤ k) w A xs := by
  obtain ⟨A', c', hv, _, _, hr⟩ := h.row
  cases hv
  exact hr.mono fun k hk => hk.elim (fun f => f.elim) (fun e => Nat.le_trans hN (h.block_lt k e).1)
end

theorem ObjMAt.turn {P T : Nat → Prop} {w w' : World} {a : Addr} {o : ObjM} {L : Option Addr} {m : Nat} {B : Option Addr} {c : Nat} (h : ObjMAt P w a o L m B c) (ht : Turn T w w') (h1 : ¬ T a.block) (h2 : ∀ k, P k → ¬ T k) : ObjMAt P w' a o L m B c :=
  ⟨ht.cell h.c0 h1, ht.cell (p := ⟨_, _, none⟩) h.c1 h1, ht.cell (p := ⟨_, _, none⟩) h.c2 h1, ht.cell (p := ⟨_, _, none⟩) h.c3 h1, ht.cell (p := ⟨_, _, none⟩) h.c4 h1, ht.cell (p := ⟨_, _, none⟩) h.c5 h1, ht.cell (p := ⟨_, _, none⟩) h.c6 h1, h.lab.turn ht h2, h.row.turn ht h2⟩
set_option maxRecDepth 100000 in
set_option maxHeartbeats 2000000 in
theorem step_a {w : World} {x : OpM} {d : OpAd} {P R : Nat → Prop} {N bb g b1 b2 m n c : Nat} {A : Option Addr} {S : Pl → Int} {C : ByteArray → Int} {held : List ObjM} (h : StepIn w x d P N bb g b1 b2 m A n c R S C held) (hp : placeO held x.o.path x.o.name = none) (hf : held.length < 40) (hzv : (chargeV S C x.o.v).1 = 0) :
    Calls Tryz.prog 23 #[.pointer (some ⟨bb, 0, none⟩), .agg #[.bool x.two, .int .i64 x.kind, .string x.o.path, .string x.o.name, .slice d.L x.o.ls.length d.m, .int .i64 x.o.prio, .int .i64 x.o.dl, .slice d.B x.o.parts.length d.c, .int .i64 x.o.ver, .string x.p.path, .string x.p.name, .slice d.L' x.p.ls.length d.m', .int .i64 x.p.prio, .int .i64 x.p.dl, .slice d.B' x.p.parts.length d.c', .int .i64 x.p.ver, .int .i64 x.s.kind, .int .i64 x.s.arg, .string x.r]] w (StepPost N bb g b1 b2 m A n c R (stepV S C held x) w) := by
  have hb0 : Below w.heap.size w (w.alloc (.cells #[.bool x.two, .int .i64 x.kind, .string x.o.path, .string x.o.name, .slice d.L x.o.ls.length d.m, .int .i64 x.o.prio, .int .i64 x.o.dl, .slice d.B x.o.parts.length d.c, .int .i64 x.o.ver, .string x.p.path, .string x.p.name, .slice d.L' x.p.ls.length d.m', .int .i64 x.p.prio, .int .i64 x.p.dl, .slice d.B' x.p.parts.length d.c', .int .i64 x.p.ver, .int .i64 x.s.kind, .int .i64 x.s.arg, .string x.r] 58)) := (Below.refl _ _).alloc (Nat.le_refl _) _
  have hx := OpBox.mk (heap_alloc_new w (.cells #[.bool x.two, .int .i64 x.kind, .string x.o.path, .string x.o.name, .slice d.L x.o.ls.length d.m, .int .i64 x.o.prio, .int .i64 x.o.dl, .slice d.B x.o.parts.length d.c, .int .i64 x.o.ver, .string x.p.path, .string x.p.name, .slice d.L' x.p.ls.length d.m', .int .i64 x.p.prio, .int .i64 x.p.dl, .slice d.B' x.p.parts.length d.c', .int .i64 x.p.ver, .int .i64 x.s.kind, .int .i64 x.s.arg, .string x.r] 58))
  obtain ⟨w0, hw0⟩ : ∃ w0, w.alloc (.cells #[.bool x.two, .int .i64 x.kind, .string x.o.path, .string x.o.name, .slice d.L x.o.ls.length d.m, .int .i64 x.o.prio, .int .i64 x.o.dl, .slice d.B x.o.parts.length d.c, .int .i64 x.o.ver, .string x.p.path, .string x.p.name, .slice d.L' x.p.ls.length d.m', .int .i64 x.p.prio, .int .i64 x.p.dl, .slice d.B' x.p.parts.length d.c', .int .i64 x.p.ver, .int .i64 x.s.kind, .int .i64 x.s.arg, .string x.r] 58) = w0 := ⟨_, rfl⟩
  rw [hw0] at hb0 hx
  have HB0 := Lib.hid hb0
  have HX := Lib.hid hx
  obtain ⟨t3, ht3⟩ : ∃ t, w.heap.size = t := ⟨_, rfl⟩
  have HNO := Lib.hid (show (Value.slice A n c).ownBlock ≠ some t3 from fun e => by have := (h.book.list.own.block_lt _ e).2; omega)
  have HT3 := Lib.hid (show N ≤ t3 from by rw [← ht3]; exact h.low)
  have HLT := Lib.hid (show t3 < w0.heap.size from by rw [← ht3]; exact (Array.getElem?_eq_some_iff.1 hx.blk).1)
  have h := h.below hb0
  have HH := Lib.hid h
  have HY := Lib.hid (show placeZ held x.o.path x.o.name = -1 from by unfold placeZ; rw [hp])
  have HN := Lib.hid h.book.hn
  have hlen := h.book.len
  rw [← HN.out] at hlen
  have HPL := Lib.hid (fun W (hb : Below w0.heap.size w0 W) => (show Calls Tryz.prog 50 #[.slice A n c, .agg #[.string x.o.path, .string x.o.name, .slice d.L x.o.ls.length d.m, .int .i64 x.o.prio, .int .i64 x.o.dl, .slice d.B x.o.parts.length d.c, .int .i64 x.o.ver]] W (fun e w' => e = .returned (.int .i64 (placeZ held x.o.path x.o.name)) ∧ Below W.heap.size W w') from
    place_any held n HN.out.symm A c _ x.o d.L x.o.ls.length d.m d.B x.o.parts.length d.c W (h.book.below hb).list.row.2.1 (by omega)))
  have HRW := Lib.hid (show ∀ W, Below w0.heap.size w0 W → Calls Tryz.prog 14 #[.pointer (some ⟨g, 0, none⟩)] W _ from fun W hb => lrows_any W (h.ml.below hb) (h.book.led.below hb) h.book.ok (by have := h.hm; omega))
  rw [ht3] at hx HX
  have HS := Lib.hid (show ∀ W, Below w0.heap.size w0 W → (W.cell? ⟨bb, 0, none⟩ = some (.pointer (some ⟨g, 0, none⟩)) ∧ W.cell? ⟨bb, 1, none⟩ = some (.slice A n c) ∧ W.cell? ⟨t3, 2, none⟩ = some (.string x.o.path) ∧ W.cell? ⟨t3, 3, none⟩ = some (.string x.o.name) ∧ W.cell? ⟨t3, 4, none⟩ = some (.slice d.L x.o.ls.length d.m) ∧ W.cell? ⟨t3, 5, none⟩ = some (.int .i64 x.o.prio) ∧ W.cell? ⟨t3, 6, none⟩ = some (.int .i64 x.o.dl) ∧ W.cell? ⟨t3, 7, none⟩ = some (.slice d.B x.o.parts.length d.c) ∧ W.cell? ⟨t3, 8, none⟩ = some (.int .i64 x.o.ver)) from fun W hb => by
    obtain ⟨k0, k1⟩ := (h.book.below hb).cells
    obtain ⟨-, -, f2, f3, f4, f5, f6, f7, f8, -⟩ := (hx.below hb).lit
    exact ⟨k0, k1, f2, f3, f4, f5, f6, f7, f8⟩)
  clear h hb0 hx
  go_enter Tryz.func23, Tryz.ntmps23
  go_upto_region 1 with fail
  go_cut [5] (fun v wx => v = .int .i64 (placeZ held x.o.path x.o.name) ∧ Below w0.heap.size w0 wx)
  case first =>
    go_region_held3 (fun w' => w'.cell? ⟨bb, 0, none⟩ = some (.pointer (some ⟨g, 0, none⟩)) ∧ w'.cell? ⟨bb, 1, none⟩ = some (.slice A n c) ∧ w'.cell? ⟨t3, 2, none⟩ = some (.string x.o.path) ∧ w'.cell? ⟨t3, 3, none⟩ = some (.string x.o.name) ∧ w'.cell? ⟨t3, 4, none⟩ = some (.slice d.L x.o.ls.length d.m) ∧ w'.cell? ⟨t3, 5, none⟩ = some (.int .i64 x.o.prio) ∧ w'.cell? ⟨t3, 6, none⟩ = some (.int .i64 x.o.dl) ∧ w'.cell? ⟨t3, 7, none⟩ = some (.slice d.B x.o.parts.length d.c) ∧ w'.cell? ⟨t3, 8, none⟩ = some (.int .i64 x.o.ver)) (exact HS.out _ (by repeat (first | exact HK1.out | exact Below.refl _ _ | refine Below.drew ?_))) (first
      | (go_at_call 50; refine (HPL.out _ (by repeat (first | exact Below.refl _ _ | refine Below.drew ?_))).mono ?_; rintro e v1 ⟨rfl, hb1⟩; have HK1 := Lib.hid (show Below w0.heap.size w0 v1 from BJp hb1 (by repeat (first | exact Below.refl _ _ | refine Below.drew ?_))); clear hb1))
    all_goals (go_wp2_with fail; go_meet; exact ⟨rfl, HK1.out⟩)
  case rest =>
    obtain ⟨rfl, hb1⟩ := hcut
    rename World => w1
    have HB1 := Lib.hid hb1
    obtain ⟨k0, k1, -⟩ := HS.out _ hb1
    clear hb1
    rw [show placeZ held x.o.path x.o.name = _ from HY.out]
    go_upto_region 3 with (go_at_call 14; refine (HRW.out _ HB1.out).mono ?_; rintro e w2 ⟨A6, c6, R6, rfl, ho6, hr6, hb6⟩; have HR6 := Lib.hid hr6; have HB2 := Lib.hid (HB1.out.trans (hb6.mono HB1.out.size)); have HO6 := Lib.hid (own_from ho6 (Nat.le_trans HT3.out (Nat.le_trans (Nat.le_of_lt HLT.out) HB1.out.size))); have HLE := Lib.hid (show R6.length ≤ 9223372036854775807 by have h1 := ho6.row'.2.2.1; have h2 := ho6.row'.2.2.2; unfold maxLen at h2; omega); clear ho6 hr6 hb6)
    clear k0 k1
    have HSB := Lib.hid (HS.out _ HB2.out)
    have HH2 := Lib.hid (HH.out.below HB2.out)
    have HW2 := Lib.hid (HB0.out.trans (HB2.out.mono HB0.out.size))
    obtain ⟨k0, k1, f2, f3, f4, f5, f6, f7, f8⟩ := HSB.out
    clear HB1 HPL HRW
    obtain ⟨z, hz⟩ : ∃ z, (chargeV S C x.o.v).1 = z := ⟨_, rfl⟩
    obtain ⟨S', hS⟩ : ∃ S', (chargeV S C x.o.v).2.1 = S' := ⟨_, rfl⟩
    obtain ⟨C', hC⟩ : ∃ C', (chargeV S C x.o.v).2.2 = C' := ⟨_, rfl⟩
    have hh := HH2.out
    have hok' := chargeV_six hh.book.ok hh.fit.ok
    rw [hS, hC] at hok'
    have HOK' := Lib.hid hok'
    have HOW := Lib.hid (fun W (hb : Below w2.heap.size w2 W) => own_objM x.o d.L d.m d.B d.c W (hh.below hb).fo)
    have HCH := Lib.hid (fun (L3 : Option Addr) (m3 : Nat) (B3 : Option Addr) (c3 : Nat) (Q : Nat → Prop) W (hr : Row kPart Q W B3 x.o.parts) (hb : Below w2.heap.size w2 W) => (show Calls Tryz.prog 17 #[.pointer (some ⟨g, 0, none⟩), .agg #[.string x.o.path, .string x.o.name, .slice L3 x.o.ls.length m3, .int .i64 x.o.prio, .int .i64 x.o.dl, .slice B3 x.o.parts.length c3, .int .i64 x.o.ver]] W (fun e w' => e = .returned (.int .i64 z) ∧ IsLed w' g b1 b2 (m + 60000000000) S' C' ∧ Turn (mapB b1 b2) W w') from by
      have q := charge_any (g := g) (b1 := b1) (b2 := b2) (n := m) (S := S) (C := C) x.o.v m L3 x.o.ls.length m3 B3 c3 Q W (oarg_row L3 m3 hr hh.fit.ok (hh.ml.below hb) (hh.tx.below hb)) (hh.book.led.below hb) hh.book.ok (by have := hh.hm; omega) (m + 60000000000) (Nat.le_refl _) (by have := hh.hm; unfold maxLen; omega)
      unfold LedPost at q
      rw [hz, hS, hC] at q
      exact q))
    have HST := Lib.hid (show ∀ W, Turn (mapB b1 b2) w2 W → (W.cell? ⟨bb, 0, none⟩ = some (.pointer (some ⟨g, 0, none⟩)) ∧ W.cell? ⟨bb, 1, none⟩ = some (.slice A n c) ∧ W.cell? ⟨t3, 2, none⟩ = some (.string x.o.path) ∧ W.cell? ⟨t3, 3, none⟩ = some (.string x.o.name) ∧ W.cell? ⟨t3, 4, none⟩ = some (.slice d.L x.o.ls.length d.m) ∧ W.cell? ⟨t3, 5, none⟩ = some (.int .i64 x.o.prio) ∧ W.cell? ⟨t3, 6, none⟩ = some (.int .i64 x.o.dl) ∧ W.cell? ⟨t3, 7, none⟩ = some (.slice d.B x.o.parts.length d.c) ∧ W.cell? ⟨t3, 8, none⟩ = some (.int .i64 x.o.ver)) from fun W ht => by
      have hbk : ¬ mapB b1 b2 bb := fun e => (hh.book.llo bb (.inr e)).2 rfl
      have htk : ¬ mapB b1 b2 t3 := fun e => by have := (hh.book.llo t3 (.inr e)).1; have := HT3.out; omega
      obtain ⟨k0, k1⟩ := hh.book.cells
      obtain ⟨-, -, f2, f3, f4, f5, f6, f7, f8, -⟩ := ((HX.out.below HB2.out).turn ht htk).lit
      exact ⟨ht.cell k0 hbk, ht.cell k1 hbk, f2, f3, f4, f5, f6, f7, f8⟩)
    have hlt : (n : Int) < 40 := by have := HN.out; omega
    have HZ := Lib.hid hz
    have HSC := Lib.hid (And.intro hS hC)
    have HF := Lib.hid hf
    have HP := Lib.hid hp
    have HZV := Lib.hid hzv
    clear hh hok' hz hS hC hf hp hzv
    go_upto_region 5 with fail
    clear k0 k1 f2 f3 f4 f5 f6 f7 f8
    go_cut [7] (fun v wx => v = .int .i64 z ∧ IsLed wx g b1 b2 (m + 60000000000) S' C' ∧ Turn (mapB b1 b2) w2 wx)
    case first =>
      go_region_held3 (fun w' => w'.cell? ⟨bb, 0, none⟩ = some (.pointer (some ⟨g, 0, none⟩)) ∧ w'.cell? ⟨bb, 1, none⟩ = some (.slice A n c) ∧ w'.cell? ⟨t3, 2, none⟩ = some (.string x.o.path) ∧ w'.cell? ⟨t3, 3, none⟩ = some (.string x.o.name) ∧ w'.cell? ⟨t3, 4, none⟩ = some (.slice d.L x.o.ls.length d.m) ∧ w'.cell? ⟨t3, 5, none⟩ = some (.int .i64 x.o.prio) ∧ w'.cell? ⟨t3, 6, none⟩ = some (.int .i64 x.o.dl) ∧ w'.cell? ⟨t3, 7, none⟩ = some (.slice d.B x.o.parts.length d.c) ∧ w'.cell? ⟨t3, 8, none⟩ = some (.int .i64 x.o.ver)) (exact HST.out _ (by repeat (first | exact HM4.out | exact HM3.out | exact Turn.refl _ _ | refine Turn.drew ?_))) (first
        | (go_at_call 10; refine (HOW.out _ (by repeat (first | exact Below.refl _ _ | refine Below.drew ?_))).mono ?_; rintro e w3 ⟨L3, m3, B3, c3, rfl, hr3, hb3⟩; have HR3 := Lib.hid (kObj_parts hr3).1; have HB3 := Lib.hid (show Below w2.heap.size w2 w3 from BJp hb3 (by repeat (first | exact Below.refl _ _ | refine Below.drew ?_))); have HM3 := Lib.hid (Turn.of_below (S := mapB b1 b2) HB3.out); clear hr3 hb3)
        | (go_at_call 17; refine (HCH.out _ _ _ _ _ _ (HR3.out.below (by repeat (first | exact Below.refl _ _ | refine Below.drew ?_))) (by repeat (first | exact HB3.out | refine Below.drew ?_))).mono ?_; rintro e w4 ⟨rfl, hl4, ht4⟩; have HL4 := Lib.hid hl4; have HM4 := Lib.hid (show Turn (mapB b1 b2) w2 w4 from TJ ht4 (by repeat (first | exact HM3.out | refine Turn.drew ?_)) (fun i hi => hi)); clear hl4 ht4))
      all_goals (go_wp2_with fail; go_meet; exact ⟨rfl, HL4.out, HM4.out⟩)
    case rest =>
      obtain ⟨rfl, hl5, hm5⟩ := hcut
      rename World => w5
      have HM5 := Lib.hid hm5
      have HBK := Lib.hid (HH2.out.book.led' hm5 hl5 HOK'.out)
      have HO65 := Lib.hid (HO6.out.turn hm5 fun k hk e => by have := (HH2.out.book.llo k (.inr e)).1; omega)
      have HTW := Lib.hid ((Turn.of_below HW2.out).trans (HM5.out.mono (S' := fun i => bookT bb b1 b2 A n c i ∨ w.heap.size ≤ i) fun i _ hi => .inl (.inr (.inl hi))))
      obtain ⟨k0, k1, f2, f3, f4, f5, f6, f7, f8⟩ := HST.out _ hm5
      have HML := Lib.hid (HH2.out.ml.turn hm5 fun e => HH2.out.sg.2.2 (.inr e))
      have HMM := HH2.out.hm
      clear hl5 hm5
      have hz0 : z = 0 := by rw [← HZ.out]; exact HZV.out
      subst hz0
      have HV := Lib.hid (show stepV S C held x = (true, S', C', held ++ [x.o]) from by unfold stepV; rw [HP.out]; simp only; rw [if_pos HF.out, if_pos HZV.out, HSC.out.1, HSC.out.2])
      have HH5 := Lib.hid (show ObjFit w5 (x.o.at_ d.L d.m) d.B x.o.ls from by
        have h1 := HH2.out
        have hfar : ∀ i, P i → ¬ mapB b1 b2 i := fun i hi e => (h1.far i hi).2.2 (.inr e)
        exact ⟨(h1.par.turn HM5.out hfar).mono fun _ _ => trivial, ⟨d.L, d.m, rfl, (h1.lab.turn HM5.out hfar).mono fun _ _ => trivial⟩, h1.fit.n64, h1.fit.n24, h1.fit.n32⟩)
      have HO5 := Lib.hid (fun W (hb : Below w5.heap.size w5 W) => own_objM x.o d.L d.m d.B d.c W ⟨HH5.out.row.below hb, let ⟨L, m, e, h⟩ := HH5.out.lab; ⟨L, m, e, h.below hb⟩, HH5.out.n64, HH5.out.n24, HH5.out.n32⟩)
      have HNW := Lib.hid (show N ≤ w5.heap.size from Nat.le_trans HH2.out.low HM5.out.size)
      have HFX := Lib.hid HH2.out.book.fit
      have h104 : (n + 1) * 104 ≤ 140737488355328 := by omega
      have HLN := Lib.hid (show (held ++ [x.o]).length = n + 1 from by rw [List.length_append, ← HN.out]; rfl)
      have HBB := Lib.hid (HBK.out.box)
      have HX5 := Lib.hid ((HX.out.below HB2.out).turn HM5.out fun e => by have := (HH2.out.book.llo t3 (.inr e)).1; have := HT3.out; omega)
      have HXS := Lib.hid (show t3 < w5.heap.size from (Array.getElem?_eq_some_iff.1 HX5.out.blk).1)
      have HS5 := Lib.hid (show ∀ W, Turn (fun i => (Value.slice A n c).ownBlock = some i) w5 W → (W.cell? ⟨bb, 0, none⟩ = some (.pointer (some ⟨g, 0, none⟩)) ∧ W.cell? ⟨bb, 1, none⟩ = some (.slice A n c) ∧ W.cell? ⟨t3, 2, none⟩ = some (.string x.o.path) ∧ W.cell? ⟨t3, 3, none⟩ = some (.string x.o.name) ∧ W.cell? ⟨t3, 4, none⟩ = some (.slice d.L x.o.ls.length d.m) ∧ W.cell? ⟨t3, 5, none⟩ = some (.int .i64 x.o.prio) ∧ W.cell? ⟨t3, 6, none⟩ = some (.int .i64 x.o.dl) ∧ W.cell? ⟨t3, 7, none⟩ = some (.slice d.B x.o.parts.length d.c) ∧ W.cell? ⟨t3, 8, none⟩ = some (.int .i64 x.o.ver)) from fun W ht => by
        have hbk : ¬ (Value.slice A n c).ownBlock = some bb := fun e => by have := (HBK.out.list.own.block_lt _ e).1; have := HBK.out.blo; omega
        obtain ⟨k0, k1⟩ := HBK.out.cells
        obtain ⟨-, -, f2, f3, f4, f5, f6, f7, f8, -⟩ := (HX5.out.turn ht HNO.out).lit
        exact ⟨ht.cell k0 hbk, ht.cell k1 hbk, f2, f3, f4, f5, f6, f7, f8⟩)
      go_upto_region 7 with fail
      go_region_law (first
        | (go_simp; go_at_call 10; refine (HO5.out _ (by repeat (first | exact Below.refl _ _ | refine Below.drew ?_))).mono ?_; rintro e w6 ⟨L6, m6, B6, e6, rfl, hr6, hb6⟩
           have HB6 := Lib.hid (show Below w5.heap.size w5 w6 from BJp hb6 (by repeat (first | exact Below.refl _ _ | refine Below.drew ?_)))
           have HT6 := Lib.hid (Turn.of_below (S := fun i => (Value.slice A n c).ownBlock = some i) HB6.out)
           have HC := Lib.hid (show Row kObj (fun k => (w5.heap.size ≤ k ∧ k < w6.heap.size) ∨ k = w6.heap.size) (w6.alloc (.cells #[.string x.o.path, .string x.o.name, .slice L6 x.o.ls.length m6, .int .i64 x.o.prio, .int .i64 x.o.dl, .slice B6 x.o.parts.length e6, .int .i64 x.o.ver] 26)) (some ⟨w6.heap.size, 0, none⟩) [x.o] from Row.newOne (cs := [.string x.o.path, .string x.o.name, .slice L6 x.o.ls.length m6, .int .i64 x.o.prio, .int .i64 x.o.dl, .slice B6 x.o.parts.length e6, .int .i64 x.o.ver]) (kObj.keep (fun k _ hk => heap_alloc_old _ _ hk) hr6))
           have HB7 := Lib.hid (show Below w5.heap.size w5 (w6.alloc (.cells #[.string x.o.path, .string x.o.name, .slice L6 x.o.ls.length m6, .int .i64 x.o.prio, .int .i64 x.o.dl, .slice B6 x.o.parts.length e6, .int .i64 x.o.ver] 26)) from HB6.out.alloc HB6.out.size _)
           have HTA := Lib.hid (Turn.of_below (S := fun i => (Value.slice A n c).ownBlock = some i) HB7.out)
           have HLS := Lib.hid (HBK.out.list.below HB7.out)
           obtain ⟨g0, g1, h2, h3, h4, h5, h6, h7, h8⟩ := HS5.out w6 HT6.out
           obtain ⟨p0, p1, p2, p3, p4, p5, p6, p7, p8⟩ := HS5.out _ HTA.out
           clear hr6 hb6)
        | (refine step_appN objElem N (by rfl) (.tmp 45) (.tmp 49) (by rfl) (v := .slice A n c) (xs := held) (ys := [x.o]) (zs := held ++ [x.o]) (nz := n + 1) (R := R) (S := fun k => (w5.heap.size ≤ k ∧ k < w6.heap.size) ∨ k = w6.heap.size) (by rfl) HLN.out (by rfl) (by exact HLS.out.own) (by exact fun k hk => (HLS.out.low k hk).2.2) (by exact fun k hk e => by have := (HBK.out.list.own.block_lt _ e).2; have := HB6.out.size; omega) (by rfl) (by rfl) (by exact HC.out) h104 (by have := HNW.out; have := HB7.out.size; omega) ?_
           intro A8 c8 w8 happ
           have HL8 := Lib.hid (HLS.out.app (fun k hk => ⟨by have := HNW.out; have := HB6.out.size; omega, by simp only [World.alloc, Array.size_push]; omega, fun e => by have := (HBK.out.list.own.block_lt _ e).2; have := HB6.out.size; omega⟩) happ)
           have HT8 := Lib.hid ((Turn.of_below (S := fun i => (Value.slice A n c).ownBlock = some i) HB7.out).grown happ.grown fun k e => .inl e)
           have HAT := Lib.hid happ.at_
           have hb8 : w8.heap[bb]? = _ := (HT8.out.block bb (Array.getElem?_eq_some_iff.1 HBB.out).1 fun e => by have := (HBK.out.list.own.block_lt _ e).1; have := HBK.out.blo; omega).trans HBB.out
           have k1 : w8.cell? ⟨bb, 1, none⟩ = some (.slice A n c) := (cell_of_row _ _ _ _ _ _ hb8).trans rfl
           have kf : ∀ j, w8.frozen? ⟨bb, j, none⟩ = false := fun j => frozen_of_row _ _ _ _ _ hb8
           clear happ hb8))
      all_goals
        have HP9 := Lib.hid (HBK.out.put HT8.out HL8.out (fun o ho => by
          rcases List.mem_append.1 ho with ho | ho
          · exact HFX.out o ho
          · rw [List.mem_singleton.1 ho]; exact HH2.out.fit) (by rw [HLN.out]; omega))
        have HSZ := Lib.hid (show w.heap.size ≤ w5.heap.size ∧ w5.heap.size ≤ w6.heap.size from ⟨Nat.le_trans HW2.out.size HM5.out.size, HB6.out.size⟩)
        clear k0 k1 f2 f3 f4 f5 f6 f7 f8
        go_wp2_with fail
        go_ret
        rw [HV.out]
        refine ⟨rfl, ⟨A8, n + 1, c8, _, HP9.out.1, fun k hk => ?_, fun k hk => ?_⟩, HTW.out.trans (HP9.out.2.mono fun i _ hi => .inl (hi.elim .inl (fun h => .inr (.inr h))))⟩
        · rcases HAT.out with e | e
          · exact .inl (e ▸ hk)
          · rw [e] at hk
            have h1 := Option.some.inj hk
            have h2 := HSZ.out
            simp only [World.alloc, Array.size_push] at h1
            exact .inr (by omega)
        · have h2 := HSZ.out
          rcases hk with hk | hk | hk
          · exact .inl hk
          · exact .inr (.inr (by omega))
          · exact .inr (.inr (by omega))
set_option maxRecDepth 100000 in
set_option maxHeartbeats 2000000 in
theorem step_b {w : World} {x : OpM} {d : OpAd} {P R : Nat → Prop} {N bb g b1 b2 m n c : Nat} {A : Option Addr} {S : Pl → Int} {C : ByteArray → Int} {held : List ObjM} (h : StepIn w x d P N bb g b1 b2 m A n c R S C held) (hp : placeO held x.o.path x.o.name = none) (hf : held.length < 40) (hzv : (chargeV S C x.o.v).1 ≠ 0) :
    Calls Tryz.prog 23 #[.pointer (some ⟨bb, 0, none⟩), .agg #[.bool x.two, .int .i64 x.kind, .string x.o.path, .string x.o.name, .slice d.L x.o.ls.length d.m, .int .i64 x.o.prio, .int .i64 x.o.dl, .slice d.B x.o.parts.length d.c, .int .i64 x.o.ver, .string x.p.path, .string x.p.name, .slice d.L' x.p.ls.length d.m', .int .i64 x.p.prio, .int .i64 x.p.dl, .slice d.B' x.p.parts.length d.c', .int .i64 x.p.ver, .int .i64 x.s.kind, .int .i64 x.s.arg, .string x.r]] w (StepPost N bb g b1 b2 m A n c R (stepV S C held x) w) := by
  have hb0 : Below w.heap.size w (w.alloc (.cells #[.bool x.two, .int .i64 x.kind, .string x.o.path, .string x.o.name, .slice d.L x.o.ls.length d.m, .int .i64 x.o.prio, .int .i64 x.o.dl, .slice d.B x.o.parts.length d.c, .int .i64 x.o.ver, .string x.p.path, .string x.p.name, .slice d.L' x.p.ls.length d.m', .int .i64 x.p.prio, .int .i64 x.p.dl, .slice d.B' x.p.parts.length d.c', .int .i64 x.p.ver, .int .i64 x.s.kind, .int .i64 x.s.arg, .string x.r] 58)) := (Below.refl _ _).alloc (Nat.le_refl _) _
  have hx := OpBox.mk (heap_alloc_new w (.cells #[.bool x.two, .int .i64 x.kind, .string x.o.path, .string x.o.name, .slice d.L x.o.ls.length d.m, .int .i64 x.o.prio, .int .i64 x.o.dl, .slice d.B x.o.parts.length d.c, .int .i64 x.o.ver, .string x.p.path, .string x.p.name, .slice d.L' x.p.ls.length d.m', .int .i64 x.p.prio, .int .i64 x.p.dl, .slice d.B' x.p.parts.length d.c', .int .i64 x.p.ver, .int .i64 x.s.kind, .int .i64 x.s.arg, .string x.r] 58))
  obtain ⟨w0, hw0⟩ : ∃ w0, w.alloc (.cells #[.bool x.two, .int .i64 x.kind, .string x.o.path, .string x.o.name, .slice d.L x.o.ls.length d.m, .int .i64 x.o.prio, .int .i64 x.o.dl, .slice d.B x.o.parts.length d.c, .int .i64 x.o.ver, .string x.p.path, .string x.p.name, .slice d.L' x.p.ls.length d.m', .int .i64 x.p.prio, .int .i64 x.p.dl, .slice d.B' x.p.parts.length d.c', .int .i64 x.p.ver, .int .i64 x.s.kind, .int .i64 x.s.arg, .string x.r] 58) = w0 := ⟨_, rfl⟩
  rw [hw0] at hb0 hx
  have HB0 := Lib.hid hb0
  have HX := Lib.hid hx
  obtain ⟨t3, ht3⟩ : ∃ t, w.heap.size = t := ⟨_, rfl⟩
  have HNO := Lib.hid (show (Value.slice A n c).ownBlock ≠ some t3 from fun e => by have := (h.book.list.own.block_lt _ e).2; omega)
  have HT3 := Lib.hid (show N ≤ t3 from by rw [← ht3]; exact h.low)
  have HLT := Lib.hid (show t3 < w0.heap.size from by rw [← ht3]; exact (Array.getElem?_eq_some_iff.1 hx.blk).1)
  have h := h.below hb0
  have HH := Lib.hid h
  have HY := Lib.hid (show placeZ held x.o.path x.o.name = -1 from by unfold placeZ; rw [hp])
  have HN := Lib.hid h.book.hn
  have hlen := h.book.len
  rw [← HN.out] at hlen
  have HPL := Lib.hid (fun W (hb : Below w0.heap.size w0 W) => (show Calls Tryz.prog 50 #[.slice A n c, .agg #[.string x.o.path, .string x.o.name, .slice d.L x.o.ls.length d.m, .int .i64 x.o.prio, .int .i64 x.o.dl, .slice d.B x.o.parts.length d.c, .int .i64 x.o.ver]] W (fun e w' => e = .returned (.int .i64 (placeZ held x.o.path x.o.name)) ∧ Below W.heap.size W w') from
    place_any held n HN.out.symm A c _ x.o d.L x.o.ls.length d.m d.B x.o.parts.length d.c W (h.book.below hb).list.row.2.1 (by omega)))
  have HRW := Lib.hid (show ∀ W, Below w0.heap.size w0 W → Calls Tryz.prog 14 #[.pointer (some ⟨g, 0, none⟩)] W _ from fun W hb => lrows_any W (h.ml.below hb) (h.book.led.below hb) h.book.ok (by have := h.hm; omega))
  rw [ht3] at hx HX
  have HS := Lib.hid (show ∀ W, Below w0.heap.size w0 W → (W.cell? ⟨bb, 0, none⟩ = some (.pointer (some ⟨g, 0, none⟩)) ∧ W.cell? ⟨bb, 1, none⟩ = some (.slice A n c) ∧ W.cell? ⟨t3, 2, none⟩ = some (.string x.o.path) ∧ W.cell? ⟨t3, 3, none⟩ = some (.string x.o.name) ∧ W.cell? ⟨t3, 4, none⟩ = some (.slice d.L x.o.ls.length d.m) ∧ W.cell? ⟨t3, 5, none⟩ = some (.int .i64 x.o.prio) ∧ W.cell? ⟨t3, 6, none⟩ = some (.int .i64 x.o.dl) ∧ W.cell? ⟨t3, 7, none⟩ = some (.slice d.B x.o.parts.length d.c) ∧ W.cell? ⟨t3, 8, none⟩ = some (.int .i64 x.o.ver)) from fun W hb => by
    obtain ⟨k0, k1⟩ := (h.book.below hb).cells
    obtain ⟨-, -, f2, f3, f4, f5, f6, f7, f8, -⟩ := (hx.below hb).lit
    exact ⟨k0, k1, f2, f3, f4, f5, f6, f7, f8⟩)
  clear h hb0 hx
  go_enter Tryz.func23, Tryz.ntmps23
  go_upto_region 1 with fail
  go_cut [5] (fun v wx => v = .int .i64 (placeZ held x.o.path x.o.name) ∧ Below w0.heap.size w0 wx)
  case first =>
    go_region_held3 (fun w' => w'.cell? ⟨bb, 0, none⟩ = some (.pointer (some ⟨g, 0, none⟩)) ∧ w'.cell? ⟨bb, 1, none⟩ = some (.slice A n c) ∧ w'.cell? ⟨t3, 2, none⟩ = some (.string x.o.path) ∧ w'.cell? ⟨t3, 3, none⟩ = some (.string x.o.name) ∧ w'.cell? ⟨t3, 4, none⟩ = some (.slice d.L x.o.ls.length d.m) ∧ w'.cell? ⟨t3, 5, none⟩ = some (.int .i64 x.o.prio) ∧ w'.cell? ⟨t3, 6, none⟩ = some (.int .i64 x.o.dl) ∧ w'.cell? ⟨t3, 7, none⟩ = some (.slice d.B x.o.parts.length d.c) ∧ w'.cell? ⟨t3, 8, none⟩ = some (.int .i64 x.o.ver)) (exact HS.out _ (by repeat (first | exact HK1.out | exact Below.refl _ _ | refine Below.drew ?_))) (first
      | (go_at_call 50; refine (HPL.out _ (by repeat (first | exact Below.refl _ _ | refine Below.drew ?_))).mono ?_; rintro e v1 ⟨rfl, hb1⟩; have HK1 := Lib.hid (show Below w0.heap.size w0 v1 from BJp hb1 (by repeat (first | exact Below.refl _ _ | refine Below.drew ?_))); clear hb1))
    all_goals (go_wp2_with fail; go_meet; exact ⟨rfl, HK1.out⟩)
  case rest =>
    obtain ⟨rfl, hb1⟩ := hcut
    rename World => w1
    have HB1 := Lib.hid hb1
    obtain ⟨k0, k1, -⟩ := HS.out _ hb1
    clear hb1
    rw [show placeZ held x.o.path x.o.name = _ from HY.out]
    go_upto_region 3 with (go_at_call 14; refine (HRW.out _ HB1.out).mono ?_; rintro e w2 ⟨A6, c6, R6, rfl, ho6, hr6, hb6⟩; have HR6 := Lib.hid hr6; have HB2 := Lib.hid (HB1.out.trans (hb6.mono HB1.out.size)); have HO6 := Lib.hid (own_from ho6 (Nat.le_trans HT3.out (Nat.le_trans (Nat.le_of_lt HLT.out) HB1.out.size))); have HLE := Lib.hid (show R6.length ≤ 9223372036854775807 by have h1 := ho6.row'.2.2.1; have h2 := ho6.row'.2.2.2; unfold maxLen at h2; omega); clear ho6 hr6 hb6)
    clear k0 k1
    have HSB := Lib.hid (HS.out _ HB2.out)
    have HH2 := Lib.hid (HH.out.below HB2.out)
    have HW2 := Lib.hid (HB0.out.trans (HB2.out.mono HB0.out.size))
    obtain ⟨k0, k1, f2, f3, f4, f5, f6, f7, f8⟩ := HSB.out
    clear HB1 HPL HRW
    obtain ⟨z, hz⟩ : ∃ z, (chargeV S C x.o.v).1 = z := ⟨_, rfl⟩
    obtain ⟨S', hS⟩ : ∃ S', (chargeV S C x.o.v).2.1 = S' := ⟨_, rfl⟩
    obtain ⟨C', hC⟩ : ∃ C', (chargeV S C x.o.v).2.2 = C' := ⟨_, rfl⟩
    have hh := HH2.out
    have hok' := chargeV_six hh.book.ok hh.fit.ok
    rw [hS, hC] at hok'
    have HOK' := Lib.hid hok'
    have HOW := Lib.hid (fun W (hb : Below w2.heap.size w2 W) => own_objM x.o d.L d.m d.B d.c W (hh.below hb).fo)
    have HCH := Lib.hid (fun (L3 : Option Addr) (m3 : Nat) (B3 : Option Addr) (c3 : Nat) (Q : Nat → Prop) W (hr : Row kPart Q W B3 x.o.parts) (hb : Below w2.heap.size w2 W) => (show Calls Tryz.prog 17 #[.pointer (some ⟨g, 0, none⟩), .agg #[.string x.o.path, .string x.o.name, .slice L3 x.o.ls.length m3, .int .i64 x.o.prio, .int .i64 x.o.dl, .slice B3 x.o.parts.length c3, .int .i64 x.o.ver]] W (fun e w' => e = .returned (.int .i64 z) ∧ IsLed w' g b1 b2 (m + 60000000000) S' C' ∧ Turn (mapB b1 b2) W w') from by
      have q := charge_any (g := g) (b1 := b1) (b2 := b2) (n := m) (S := S) (C := C) x.o.v m L3 x.o.ls.length m3 B3 c3 Q W (oarg_row L3 m3 hr hh.fit.ok (hh.ml.below hb) (hh.tx.below hb)) (hh.book.led.below hb) hh.book.ok (by have := hh.hm; omega) (m + 60000000000) (Nat.le_refl _) (by have := hh.hm; unfold maxLen; omega)
      unfold LedPost at q
      rw [hz, hS, hC] at q
      exact q))
    have HST := Lib.hid (show ∀ W, Turn (mapB b1 b2) w2 W → (W.cell? ⟨bb, 0, none⟩ = some (.pointer (some ⟨g, 0, none⟩)) ∧ W.cell? ⟨bb, 1, none⟩ = some (.slice A n c) ∧ W.cell? ⟨t3, 2, none⟩ = some (.string x.o.path) ∧ W.cell? ⟨t3, 3, none⟩ = some (.string x.o.name) ∧ W.cell? ⟨t3, 4, none⟩ = some (.slice d.L x.o.ls.length d.m) ∧ W.cell? ⟨t3, 5, none⟩ = some (.int .i64 x.o.prio) ∧ W.cell? ⟨t3, 6, none⟩ = some (.int .i64 x.o.dl) ∧ W.cell? ⟨t3, 7, none⟩ = some (.slice d.B x.o.parts.length d.c) ∧ W.cell? ⟨t3, 8, none⟩ = some (.int .i64 x.o.ver)) from fun W ht => by
      have hbk : ¬ mapB b1 b2 bb := fun e => (hh.book.llo bb (.inr e)).2 rfl
      have htk : ¬ mapB b1 b2 t3 := fun e => by have := (hh.book.llo t3 (.inr e)).1; have := HT3.out; omega
      obtain ⟨k0, k1⟩ := hh.book.cells
      obtain ⟨-, -, f2, f3, f4, f5, f6, f7, f8, -⟩ := ((HX.out.below HB2.out).turn ht htk).lit
      exact ⟨ht.cell k0 hbk, ht.cell k1 hbk, f2, f3, f4, f5, f6, f7, f8⟩)
    have hlt : (n : Int) < 40 := by have := HN.out; omega
    have HZ := Lib.hid hz
    have HSC := Lib.hid (And.intro hS hC)
    have HF := Lib.hid hf
    have HP := Lib.hid hp
    have HZV := Lib.hid hzv
    clear hh hok' hz hS hC hf hp hzv
    go_upto_region 5 with fail
    clear k0 k1 f2 f3 f4 f5 f6 f7 f8
    go_cut [7] (fun v wx => v = .int .i64 z ∧ IsLed wx g b1 b2 (m + 60000000000) S' C' ∧ Turn (mapB b1 b2) w2 wx)
    case first =>
      go_region_held3 (fun w' => w'.cell? ⟨bb, 0, none⟩ = some (.pointer (some ⟨g, 0, none⟩)) ∧ w'.cell? ⟨bb, 1, none⟩ = some (.slice A n c) ∧ w'.cell? ⟨t3, 2, none⟩ = some (.string x.o.path) ∧ w'.cell? ⟨t3, 3, none⟩ = some (.string x.o.name) ∧ w'.cell? ⟨t3, 4, none⟩ = some (.slice d.L x.o.ls.length d.m) ∧ w'.cell? ⟨t3, 5, none⟩ = some (.int .i64 x.o.prio) ∧ w'.cell? ⟨t3, 6, none⟩ = some (.int .i64 x.o.dl) ∧ w'.cell? ⟨t3, 7, none⟩ = some (.slice d.B x.o.parts.length d.c) ∧ w'.cell? ⟨t3, 8, none⟩ = some (.int .i64 x.o.ver)) (exact HST.out _ (by repeat (first | exact HM4.out | exact HM3.out | exact Turn.refl _ _ | refine Turn.drew ?_))) (first
        | (go_at_call 10; refine (HOW.out _ (by repeat (first | exact Below.refl _ _ | refine Below.drew ?_))).mono ?_; rintro e w3 ⟨L3, m3, B3, c3, rfl, hr3, hb3⟩; have HR3 := Lib.hid (kObj_parts hr3).1; have HB3 := Lib.hid (show Below w2.heap.size w2 w3 from BJp hb3 (by repeat (first | exact Below.refl _ _ | refine Below.drew ?_))); have HM3 := Lib.hid (Turn.of_below (S := mapB b1 b2) HB3.out); clear hr3 hb3)
        | (go_at_call 17; refine (HCH.out _ _ _ _ _ _ (HR3.out.below (by repeat (first | exact Below.refl _ _ | refine Below.drew ?_))) (by repeat (first | exact HB3.out | refine Below.drew ?_))).mono ?_; rintro e w4 ⟨rfl, hl4, ht4⟩; have HL4 := Lib.hid hl4; have HM4 := Lib.hid (show Turn (mapB b1 b2) w2 w4 from TJ ht4 (by repeat (first | exact HM3.out | refine Turn.drew ?_)) (fun i hi => hi)); clear hl4 ht4))
      all_goals (go_wp2_with fail; go_meet; exact ⟨rfl, HL4.out, HM4.out⟩)
    case rest =>
      obtain ⟨rfl, hl5, hm5⟩ := hcut
      rename World => w5
      have HM5 := Lib.hid hm5
      have HBK := Lib.hid (HH2.out.book.led' hm5 hl5 HOK'.out)
      have HO65 := Lib.hid (HO6.out.turn hm5 fun k hk e => by have := (HH2.out.book.llo k (.inr e)).1; omega)
      have HTW := Lib.hid ((Turn.of_below HW2.out).trans (HM5.out.mono (S' := fun i => bookT bb b1 b2 A n c i ∨ w.heap.size ≤ i) fun i _ hi => .inl (.inr (.inl hi))))
      obtain ⟨k0, k1, f2, f3, f4, f5, f6, f7, f8⟩ := HST.out _ hm5
      have HML := Lib.hid (HH2.out.ml.turn hm5 fun e => HH2.out.sg.2.2 (.inr e))
      have HMM := HH2.out.hm
      clear hl5 hm5
      have hss := chargeV_same HZV.out
      have hS : S' = S := by rw [← HSC.out.1, hss]
      have hC : C' = C := by rw [← HSC.out.2, hss]
      subst hS
      subst hC
      have HV := Lib.hid (show stepV S' C' held x = (true, S', C', held) from by unfold stepV; rw [HP.out]; simp only; rw [if_pos HF.out, if_neg HZV.out])
      have e1 : (z == 0) = false := by rw [← HZ.out]; simpa using HZV.out
      clear hss
      have HLR := Lib.hid (show Calls Tryz.prog 14 #[.pointer (some ⟨g, 0, none⟩)] w5 _ from lrows_any w5 HML.out HBK.out.led HBK.out.ok (by omega))
      go_wp2_with (first
        | (go_at_call 14; refine HLR.out.mono ?_; rintro e w7 ⟨A7, c7, R7, rfl, ho7, hr7, hb7⟩; have h7 := rowsOf_unique hr7 HR6.out; have HO7 := Lib.hid (h7 ▸ ho7.row'.2.1); have HB7 := Lib.hid hb7; rw [h7]; clear ho7 hr7 hb7 h7)
        | (go_at_call 13; have q := sameRows_val A6 A7 _ c6 c7 _ _ R6 w7 (HO65.out.below HB7.out) HO7.out rfl HLE.out; refine q.mono ?_; clear q; rintro e w8 ⟨rfl, hb8⟩; have HB8 := Lib.hid (HB7.out.trans (hb8.mono HB7.out.size)); clear hb8))
      go_ret
      rw [HV.out]
      exact ⟨rfl, ⟨A, n, c, R, HBK.out.below HB8.out, fun k hk => .inl hk, fun k hk => .inl hk⟩, HTW.out.then_below HB8.out⟩
set_option maxRecDepth 100000 in
set_option maxHeartbeats 2000000 in
theorem step_c {w : World} {x : OpM} {d : OpAd} {P R : Nat → Prop} {N bb g b1 b2 m n c : Nat} {A : Option Addr} {S : Pl → Int} {C : ByteArray → Int} {held : List ObjM} (h : StepIn w x d P N bb g b1 b2 m A n c R S C held) (hp : placeO held x.o.path x.o.name = none) (hf : ¬ held.length < 40) :
    Calls Tryz.prog 23 #[.pointer (some ⟨bb, 0, none⟩), .agg #[.bool x.two, .int .i64 x.kind, .string x.o.path, .string x.o.name, .slice d.L x.o.ls.length d.m, .int .i64 x.o.prio, .int .i64 x.o.dl, .slice d.B x.o.parts.length d.c, .int .i64 x.o.ver, .string x.p.path, .string x.p.name, .slice d.L' x.p.ls.length d.m', .int .i64 x.p.prio, .int .i64 x.p.dl, .slice d.B' x.p.parts.length d.c', .int .i64 x.p.ver, .int .i64 x.s.kind, .int .i64 x.s.arg, .string x.r]] w (StepPost N bb g b1 b2 m A n c R (stepV S C held x) w) := by
  have hb0 : Below w.heap.size w (w.alloc (.cells #[.bool x.two, .int .i64 x.kind, .string x.o.path, .string x.o.name, .slice d.L x.o.ls.length d.m, .int .i64 x.o.prio, .int .i64 x.o.dl, .slice d.B x.o.parts.length d.c, .int .i64 x.o.ver, .string x.p.path, .string x.p.name, .slice d.L' x.p.ls.length d.m', .int .i64 x.p.prio, .int .i64 x.p.dl, .slice d.B' x.p.parts.length d.c', .int .i64 x.p.ver, .int .i64 x.s.kind, .int .i64 x.s.arg, .string x.r] 58)) := (Below.refl _ _).alloc (Nat.le_refl _) _
  have hx := OpBox.mk (heap_alloc_new w (.cells #[.bool x.two, .int .i64 x.kind, .string x.o.path, .string x.o.name, .slice d.L x.o.ls.length d.m, .int .i64 x.o.prio, .int .i64 x.o.dl, .slice d.B x.o.parts.length d.c, .int .i64 x.o.ver, .string x.p.path, .string x.p.name, .slice d.L' x.p.ls.length d.m', .int .i64 x.p.prio, .int .i64 x.p.dl, .slice d.B' x.p.parts.length d.c', .int .i64 x.p.ver, .int .i64 x.s.kind, .int .i64 x.s.arg, .string x.r] 58))
  obtain ⟨w0, hw0⟩ : ∃ w0, w.alloc (.cells #[.bool x.two, .int .i64 x.kind, .string x.o.path, .string x.o.name, .slice d.L x.o.ls.length d.m, .int .i64 x.o.prio, .int .i64 x.o.dl, .slice d.B x.o.parts.length d.c, .int .i64 x.o.ver, .string x.p.path, .string x.p.name, .slice d.L' x.p.ls.length d.m', .int .i64 x.p.prio, .int .i64 x.p.dl, .slice d.B' x.p.parts.length d.c', .int .i64 x.p.ver, .int .i64 x.s.kind, .int .i64 x.s.arg, .string x.r] 58) = w0 := ⟨_, rfl⟩
  rw [hw0] at hb0 hx
  have HB0 := Lib.hid hb0
  have HX := Lib.hid hx
  obtain ⟨t3, ht3⟩ : ∃ t, w.heap.size = t := ⟨_, rfl⟩
  have HNO := Lib.hid (show (Value.slice A n c).ownBlock ≠ some t3 from fun e => by have := (h.book.list.own.block_lt _ e).2; omega)
  have HT3 := Lib.hid (show N ≤ t3 from by rw [← ht3]; exact h.low)
  have HLT := Lib.hid (show t3 < w0.heap.size from by rw [← ht3]; exact (Array.getElem?_eq_some_iff.1 hx.blk).1)
  have h := h.below hb0
  have HH := Lib.hid h
  have HY := Lib.hid (show placeZ held x.o.path x.o.name = -1 from by unfold placeZ; rw [hp])
  have HN := Lib.hid h.book.hn
  have hlen := h.book.len
  rw [← HN.out] at hlen
  have HPL := Lib.hid (fun W (hb : Below w0.heap.size w0 W) => (show Calls Tryz.prog 50 #[.slice A n c, .agg #[.string x.o.path, .string x.o.name, .slice d.L x.o.ls.length d.m, .int .i64 x.o.prio, .int .i64 x.o.dl, .slice d.B x.o.parts.length d.c, .int .i64 x.o.ver]] W (fun e w' => e = .returned (.int .i64 (placeZ held x.o.path x.o.name)) ∧ Below W.heap.size W w') from
    place_any held n HN.out.symm A c _ x.o d.L x.o.ls.length d.m d.B x.o.parts.length d.c W (h.book.below hb).list.row.2.1 (by omega)))
  have HRW := Lib.hid (show ∀ W, Below w0.heap.size w0 W → Calls Tryz.prog 14 #[.pointer (some ⟨g, 0, none⟩)] W _ from fun W hb => lrows_any W (h.ml.below hb) (h.book.led.below hb) h.book.ok (by have := h.hm; omega))
  rw [ht3] at hx HX
  have HS := Lib.hid (show ∀ W, Below w0.heap.size w0 W → (W.cell? ⟨bb, 0, none⟩ = some (.pointer (some ⟨g, 0, none⟩)) ∧ W.cell? ⟨bb, 1, none⟩ = some (.slice A n c) ∧ W.cell? ⟨t3, 2, none⟩ = some (.string x.o.path) ∧ W.cell? ⟨t3, 3, none⟩ = some (.string x.o.name) ∧ W.cell? ⟨t3, 4, none⟩ = some (.slice d.L x.o.ls.length d.m) ∧ W.cell? ⟨t3, 5, none⟩ = some (.int .i64 x.o.prio) ∧ W.cell? ⟨t3, 6, none⟩ = some (.int .i64 x.o.dl) ∧ W.cell? ⟨t3, 7, none⟩ = some (.slice d.B x.o.parts.length d.c) ∧ W.cell? ⟨t3, 8, none⟩ = some (.int .i64 x.o.ver)) from fun W hb => by
    obtain ⟨k0, k1⟩ := (h.book.below hb).cells
    obtain ⟨-, -, f2, f3, f4, f5, f6, f7, f8, -⟩ := (hx.below hb).lit
    exact ⟨k0, k1, f2, f3, f4, f5, f6, f7, f8⟩)
  clear h hb0 hx
  go_enter Tryz.func23, Tryz.ntmps23
  go_upto_region 1 with fail
  go_cut [5] (fun v wx => v = .int .i64 (placeZ held x.o.path x.o.name) ∧ Below w0.heap.size w0 wx)
  case first =>
    go_region_held3 (fun w' => w'.cell? ⟨bb, 0, none⟩ = some (.pointer (some ⟨g, 0, none⟩)) ∧ w'.cell? ⟨bb, 1, none⟩ = some (.slice A n c) ∧ w'.cell? ⟨t3, 2, none⟩ = some (.string x.o.path) ∧ w'.cell? ⟨t3, 3, none⟩ = some (.string x.o.name) ∧ w'.cell? ⟨t3, 4, none⟩ = some (.slice d.L x.o.ls.length d.m) ∧ w'.cell? ⟨t3, 5, none⟩ = some (.int .i64 x.o.prio) ∧ w'.cell? ⟨t3, 6, none⟩ = some (.int .i64 x.o.dl) ∧ w'.cell? ⟨t3, 7, none⟩ = some (.slice d.B x.o.parts.length d.c) ∧ w'.cell? ⟨t3, 8, none⟩ = some (.int .i64 x.o.ver)) (exact HS.out _ (by repeat (first | exact HK1.out | exact Below.refl _ _ | refine Below.drew ?_))) (first
      | (go_at_call 50; refine (HPL.out _ (by repeat (first | exact Below.refl _ _ | refine Below.drew ?_))).mono ?_; rintro e v1 ⟨rfl, hb1⟩; have HK1 := Lib.hid (show Below w0.heap.size w0 v1 from BJp hb1 (by repeat (first | exact Below.refl _ _ | refine Below.drew ?_))); clear hb1))
    all_goals (go_wp2_with fail; go_meet; exact ⟨rfl, HK1.out⟩)
  case rest =>
    obtain ⟨rfl, hb1⟩ := hcut
    rename World => w1
    have HB1 := Lib.hid hb1
    obtain ⟨k0, k1, -⟩ := HS.out _ hb1
    clear hb1
    rw [show placeZ held x.o.path x.o.name = _ from HY.out]
    go_upto_region 3 with (go_at_call 14; refine (HRW.out _ HB1.out).mono ?_; rintro e w2 ⟨A6, c6, R6, rfl, ho6, hr6, hb6⟩; have HR6 := Lib.hid hr6; have HB2 := Lib.hid (HB1.out.trans (hb6.mono HB1.out.size)); have HO6 := Lib.hid (own_from ho6 (Nat.le_trans HT3.out (Nat.le_trans (Nat.le_of_lt HLT.out) HB1.out.size))); have HLE := Lib.hid (show R6.length ≤ 9223372036854775807 by have h1 := ho6.row'.2.2.1; have h2 := ho6.row'.2.2.2; unfold maxLen at h2; omega); clear ho6 hr6 hb6)
    clear k0 k1
    have HSB := Lib.hid (HS.out _ HB2.out)
    have HH2 := Lib.hid (HH.out.below HB2.out)
    have HW2 := Lib.hid (HB0.out.trans (HB2.out.mono HB0.out.size))
    obtain ⟨k0, k1, f2, f3, f4, f5, f6, f7, f8⟩ := HSB.out
    clear HB1 HPL HRW
    have HV := Lib.hid (show stepV S C held x = (true, S, C, held) from by unfold stepV; rw [hp]; simp only; rw [if_neg hf])
    have hge : ¬ ((n : Int) < 40) := by have := HN.out; omega
    clear hp hf
    go_wp2
    go_ret
    rw [HV.out]
    exact ⟨rfl, ⟨A, n, c, R, (HH2.out.book.mono (by omega)), fun k hk => .inl hk, fun k hk => .inl hk⟩, Turn.of_below HW2.out⟩
set_option maxRecDepth 100000 in
set_option maxHeartbeats 2000000 in
theorem step_e {w : World} {x : OpM} {d : OpAd} {P R : Nat → Prop} {N bb g b1 b2 m n c : Nat} {A : Option Addr} {S : Pl → Int} {C : ByteArray → Int} {held : List ObjM} (h : StepIn w x d P N bb g b1 b2 m A n c R S C held) (i : Nat) (y : ObjM) (hp : placeO held x.o.path x.o.name = some i) (hy : held[i]? = some y) (hk : x.kind = 2) (hzv : (releaseV S C y.v).1 ≠ 0) :
    Calls Tryz.prog 23 #[.pointer (some ⟨bb, 0, none⟩), .agg #[.bool x.two, .int .i64 x.kind, .string x.o.path, .string x.o.name, .slice d.L x.o.ls.length d.m, .int .i64 x.o.prio, .int .i64 x.o.dl, .slice d.B x.o.parts.length d.c, .int .i64 x.o.ver, .string x.p.path, .string x.p.name, .slice d.L' x.p.ls.length d.m', .int .i64 x.p.prio, .int .i64 x.p.dl, .slice d.B' x.p.parts.length d.c', .int .i64 x.p.ver, .int .i64 x.s.kind, .int .i64 x.s.arg, .string x.r]] w (StepPost N bb g b1 b2 m A n c R (stepV S C held x) w) := by
  have hb0 : Below w.heap.size w (w.alloc (.cells #[.bool x.two, .int .i64 x.kind, .string x.o.path, .string x.o.name, .slice d.L x.o.ls.length d.m, .int .i64 x.o.prio, .int .i64 x.o.dl, .slice d.B x.o.parts.length d.c, .int .i64 x.o.ver, .string x.p.path, .string x.p.name, .slice d.L' x.p.ls.length d.m', .int .i64 x.p.prio, .int .i64 x.p.dl, .slice d.B' x.p.parts.length d.c', .int .i64 x.p.ver, .int .i64 x.s.kind, .int .i64 x.s.arg, .string x.r] 58)) := (Below.refl _ _).alloc (Nat.le_refl _) _
  have hx := OpBox.mk (heap_alloc_new w (.cells #[.bool x.two, .int .i64 x.kind, .string x.o.path, .string x.o.name, .slice d.L x.o.ls.length d.m, .int .i64 x.o.prio, .int .i64 x.o.dl, .slice d.B x.o.parts.length d.c, .int .i64 x.o.ver, .string x.p.path, .string x.p.name, .slice d.L' x.p.ls.length d.m', .int .i64 x.p.prio, .int .i64 x.p.dl, .slice d.B' x.p.parts.length d.c', .int .i64 x.p.ver, .int .i64 x.s.kind, .int .i64 x.s.arg, .string x.r] 58))
  obtain ⟨w0, hw0⟩ : ∃ w0, w.alloc (.cells #[.bool x.two, .int .i64 x.kind, .string x.o.path, .string x.o.name, .slice d.L x.o.ls.length d.m, .int .i64 x.o.prio, .int .i64 x.o.dl, .slice d.B x.o.parts.length d.c, .int .i64 x.o.ver, .string x.p.path, .string x.p.name, .slice d.L' x.p.ls.length d.m', .int .i64 x.p.prio, .int .i64 x.p.dl, .slice d.B' x.p.parts.length d.c', .int .i64 x.p.ver, .int .i64 x.s.kind, .int .i64 x.s.arg, .string x.r] 58) = w0 := ⟨_, rfl⟩
  rw [hw0] at hb0 hx
  have HB0 := Lib.hid hb0
  have HX := Lib.hid hx
  obtain ⟨t3, ht3⟩ : ∃ t, w.heap.size = t := ⟨_, rfl⟩
  have HNO := Lib.hid (show (Value.slice A n c).ownBlock ≠ some t3 from fun e => by have := (h.book.list.own.block_lt _ e).2; omega)
  have HT3 := Lib.hid (show N ≤ t3 from by rw [← ht3]; exact h.low)
  have HLT := Lib.hid (show t3 < w0.heap.size from by rw [← ht3]; exact (Array.getElem?_eq_some_iff.1 hx.blk).1)
  have h := h.below hb0
  have HH := Lib.hid h
  have HY := Lib.hid (show placeZ held x.o.path x.o.name = (i : Int) from by unfold placeZ; rw [hp])
  have HN := Lib.hid h.book.hn
  have hlen := h.book.len
  rw [← HN.out] at hlen
  have HPL := Lib.hid (fun W (hb : Below w0.heap.size w0 W) => (show Calls Tryz.prog 50 #[.slice A n c, .agg #[.string x.o.path, .string x.o.name, .slice d.L x.o.ls.length d.m, .int .i64 x.o.prio, .int .i64 x.o.dl, .slice d.B x.o.parts.length d.c, .int .i64 x.o.ver]] W (fun e w' => e = .returned (.int .i64 (placeZ held x.o.path x.o.name)) ∧ Below W.heap.size W w') from
    place_any held n HN.out.symm A c _ x.o d.L x.o.ls.length d.m d.B x.o.parts.length d.c W (h.book.below hb).list.row.2.1 (by omega)))
  have HRW := Lib.hid (show ∀ W, Below w0.heap.size w0 W → Calls Tryz.prog 14 #[.pointer (some ⟨g, 0, none⟩)] W _ from fun W hb => lrows_any W (h.ml.below hb) (h.book.led.below hb) h.book.ok (by have := h.hm; omega))
  rw [ht3] at hx HX
  have HS := Lib.hid (show ∀ W, Below w0.heap.size w0 W → (W.cell? ⟨bb, 0, none⟩ = some (.pointer (some ⟨g, 0, none⟩)) ∧ W.cell? ⟨bb, 1, none⟩ = some (.slice A n c) ∧ W.cell? ⟨t3, 2, none⟩ = some (.string x.o.path) ∧ W.cell? ⟨t3, 3, none⟩ = some (.string x.o.name) ∧ W.cell? ⟨t3, 4, none⟩ = some (.slice d.L x.o.ls.length d.m) ∧ W.cell? ⟨t3, 5, none⟩ = some (.int .i64 x.o.prio) ∧ W.cell? ⟨t3, 6, none⟩ = some (.int .i64 x.o.dl) ∧ W.cell? ⟨t3, 7, none⟩ = some (.slice d.B x.o.parts.length d.c) ∧ W.cell? ⟨t3, 8, none⟩ = some (.int .i64 x.o.ver)) from fun W hb => by
    obtain ⟨k0, k1⟩ := (h.book.below hb).cells
    obtain ⟨-, -, f2, f3, f4, f5, f6, f7, f8, -⟩ := (hx.below hb).lit
    exact ⟨k0, k1, f2, f3, f4, f5, f6, f7, f8⟩)
  clear h hb0 hx
  have HKK := Lib.hid hk
  clear hk
  go_enter Tryz.func23, Tryz.ntmps23
  go_upto_region 1 with fail
  go_cut [5] (fun v wx => v = .int .i64 (placeZ held x.o.path x.o.name) ∧ Below w0.heap.size w0 wx)
  case first =>
    go_region_held3 (fun w' => w'.cell? ⟨bb, 0, none⟩ = some (.pointer (some ⟨g, 0, none⟩)) ∧ w'.cell? ⟨bb, 1, none⟩ = some (.slice A n c) ∧ w'.cell? ⟨t3, 2, none⟩ = some (.string x.o.path) ∧ w'.cell? ⟨t3, 3, none⟩ = some (.string x.o.name) ∧ w'.cell? ⟨t3, 4, none⟩ = some (.slice d.L x.o.ls.length d.m) ∧ w'.cell? ⟨t3, 5, none⟩ = some (.int .i64 x.o.prio) ∧ w'.cell? ⟨t3, 6, none⟩ = some (.int .i64 x.o.dl) ∧ w'.cell? ⟨t3, 7, none⟩ = some (.slice d.B x.o.parts.length d.c) ∧ w'.cell? ⟨t3, 8, none⟩ = some (.int .i64 x.o.ver)) (exact HS.out _ (by repeat (first | exact HK1.out | exact Below.refl _ _ | refine Below.drew ?_))) (first
      | (go_at_call 50; refine (HPL.out _ (by repeat (first | exact Below.refl _ _ | refine Below.drew ?_))).mono ?_; rintro e v1 ⟨rfl, hb1⟩; have HK1 := Lib.hid (show Below w0.heap.size w0 v1 from BJp hb1 (by repeat (first | exact Below.refl _ _ | refine Below.drew ?_))); clear hb1))
    all_goals (go_wp2_with fail; go_meet; exact ⟨rfl, HK1.out⟩)
  case rest =>
    obtain ⟨rfl, hb1⟩ := hcut
    rename World => w1
    have HB1 := Lib.hid hb1
    obtain ⟨k0, k1, -⟩ := HS.out _ hb1
    clear hb1
    rw [show placeZ held x.o.path x.o.name = _ from HY.out]
    go_upto_region 3 with (go_at_call 14; refine (HRW.out _ HB1.out).mono ?_; rintro e w2 ⟨A6, c6, R6, rfl, ho6, hr6, hb6⟩; have HR6 := Lib.hid hr6; have HB2 := Lib.hid (HB1.out.trans (hb6.mono HB1.out.size)); have HO6 := Lib.hid (own_from ho6 (Nat.le_trans HT3.out (Nat.le_trans (Nat.le_of_lt HLT.out) HB1.out.size))); have HLE := Lib.hid (show R6.length ≤ 9223372036854775807 by have h1 := ho6.row'.2.2.1; have h2 := ho6.row'.2.2.2; unfold maxLen at h2; omega); clear ho6 hr6 hb6)
    clear k0 k1
    have HSB := Lib.hid (HS.out _ HB2.out)
    have HH2 := Lib.hid (HH.out.below HB2.out)
    have HW2 := Lib.hid (HB0.out.trans (HB2.out.mono HB0.out.size))
    obtain ⟨k0, k1, f2, f3, f4, f5, f6, f7, f8⟩ := HSB.out
    clear HB1 HPL HRW
    obtain ⟨z, hz⟩ : ∃ z, (releaseV S C y.v).1 = z := ⟨_, rfl⟩
    obtain ⟨S', hS⟩ : ∃ S', (releaseV S C y.v).2.1 = S' := ⟨_, rfl⟩
    obtain ⟨C', hC⟩ : ∃ C', (releaseV S C y.v).2.2 = C' := ⟨_, rfl⟩
    have hh := HH2.out
    have hil : i < held.length := placeO_lt hp
    have hyi : held[i] = y := Option.some.inj ((List.getElem?_eq_getElem hil).symm.trans hy)
    have hfy : ObjMFit y := hyi ▸ hh.book.fit _ (List.getElem_mem hil)
    have hok' := (releaseV_ok hh.book.ok hfy.ok.use).mono (show m ≤ m + 60000000000 by omega)
    rw [hS, hC] at hok'
    have HOK' := Lib.hid hok'
    obtain ⟨a, L1, m1, B1, e1, hA, hNa, hoa⟩ := obj_at hh.book.list.row.2.1 i hil
    rw [hyi] at hoa
    subst hA
    have HOW1 := Lib.hid (fun W (hb : Below w2.heap.size w2 W) => own_objM y L1 m1 B1 e1 W ((hoa.below hb).fit hfy))
    have HOW2 := Lib.hid (fun W (hb : Below w2.heap.size w2 W) => own_objM x.o d.L d.m d.B d.c W (hh.below hb).fo)
    have HCH := Lib.hid (fun (L3 : Option Addr) (m3 : Nat) (B3 : Option Addr) (e3 : Nat) (Q : Nat → Prop) W (hr : Row kPart Q W B3 y.parts) (hb : Below w2.heap.size w2 W) => (show Calls Tryz.prog 18 #[.pointer (some ⟨g, 0, none⟩), .agg #[.string y.path, .string y.name, .slice L3 y.ls.length m3, .int .i64 y.prio, .int .i64 y.dl, .slice B3 y.parts.length e3, .int .i64 y.ver]] W (fun e w' => e = .returned (.int .i64 z) ∧ IsLed w' g b1 b2 (m + 60000000000) S' C' ∧ Turn (mapB b1 b2) W w') from by
      have q := release_any (g := g) (b1 := b1) (b2 := b2) (n := m) (S := S) (C := C) y.v m L3 y.ls.length m3 B3 e3 Q W (oarg_row L3 m3 hr hfy.ok (hh.ml.below hb) (hh.tx.below hb)) (hh.book.led.below hb) hh.book.ok (by have := hh.hm; omega) (m + 60000000000) (Nat.le_refl _) (by have := hh.hm; unfold maxLen; omega)
      unfold LedPost at q
      rw [hz, hS, hC] at q
      exact q))
    have HST := Lib.hid (show ∀ W, Turn (mapB b1 b2) w2 W → (W.cell? ⟨bb, 0, none⟩ = some (.pointer (some ⟨g, 0, none⟩)) ∧ W.cell? ⟨bb, 1, none⟩ = some (.slice (some a) n c) ∧ W.cell? (a.add (i * 7)) = some (.string y.path) ∧ W.cell? ⟨(a.add (i * 7)).block, (a.add (i * 7)).off + 1, none⟩ = some (.string y.name) ∧ W.cell? ⟨(a.add (i * 7)).block, (a.add (i * 7)).off + 2, none⟩ = some (.slice L1 y.ls.length m1) ∧ W.cell? ⟨(a.add (i * 7)).block, (a.add (i * 7)).off + 3, none⟩ = some (.int .i64 y.prio) ∧ W.cell? ⟨(a.add (i * 7)).block, (a.add (i * 7)).off + 4, none⟩ = some (.int .i64 y.dl) ∧ W.cell? ⟨(a.add (i * 7)).block, (a.add (i * 7)).off + 5, none⟩ = some (.slice B1 y.parts.length e1) ∧ W.cell? ⟨(a.add (i * 7)).block, (a.add (i * 7)).off + 6, none⟩ = some (.int .i64 y.ver)) from fun W ht => by
      have hbk : ¬ mapB b1 b2 bb := fun e => (hh.book.llo bb (.inr e)).2 rfl
      have htk : ¬ mapB b1 b2 t3 := fun e => by have := (hh.book.llo t3 (.inr e)).1; have := HT3.out; omega
      obtain ⟨k0, k1⟩ := hh.book.cells
      obtain ⟨y0, y1, y2, y3, y4, y5, y6, -, -⟩ := hoa.turn ht (fun e => by rw [add_block] at e; have h1 := (hh.book.llo _ (.inr e)).1; have h2 : N ≤ a.block := hNa; omega) (fun k hk e => by have h1 := (hh.book.llo _ (.inr e)).1; have h2 : N ≤ k := hk; omega)
      obtain ⟨-, -, f2, f3, f4, f5, f6, f7, f8, -⟩ := ((HX.out.below HB2.out).turn ht htk).lit
      exact ⟨ht.cell k0 hbk, ht.cell k1 hbk, y0, y1, y2, y3, y4, y5, y6⟩)
    have HLI := Lib.hid hil
    have hi0 : (0 : Int) ≤ (i : Int) := by omega
    have hin : (i : Int) < (n : Int) := by have := HN.out; omega
    have hil0 : ¬ ((i : Int) < 0) := by omega
    have f1 := (HX.out.below HB2.out).lit.2.1
    have HZ := Lib.hid hz
    have HSC := Lib.hid (And.intro hS hC)
    have HP := Lib.hid hp
    have HYI := Lib.hid hy
    have HZV := Lib.hid hzv
    clear hh hok' hz hS hC hp hy hyi hzv hil hfy hoa
    have hk := HKK.out
    rw [hk] at f1
    clear hk
    go_upto_region 9 with fail
    clear k0 k1 f1 f2 f3 f4 f5 f6 f7 f8
    have ez : (z != 0) = true := by rw [← HZ.out]; simpa using HZV.out
    go_cut [74] (fun v wx => v = .bool true ∧ IsLed wx g b1 b2 (m + 60000000000) S' C' ∧ Turn (mapB b1 b2) w2 wx)
    case first =>
      go_region_held3 (fun w' => w'.cell? ⟨bb, 0, none⟩ = some (.pointer (some ⟨g, 0, none⟩)) ∧ w'.cell? ⟨bb, 1, none⟩ = some (.slice (some a) n c) ∧ w'.cell? (a.add (i * 7)) = some (.string y.path) ∧ w'.cell? ⟨(a.add (i * 7)).block, (a.add (i * 7)).off + 1, none⟩ = some (.string y.name) ∧ w'.cell? ⟨(a.add (i * 7)).block, (a.add (i * 7)).off + 2, none⟩ = some (.slice L1 y.ls.length m1) ∧ w'.cell? ⟨(a.add (i * 7)).block, (a.add (i * 7)).off + 3, none⟩ = some (.int .i64 y.prio) ∧ w'.cell? ⟨(a.add (i * 7)).block, (a.add (i * 7)).off + 4, none⟩ = some (.int .i64 y.dl) ∧ w'.cell? ⟨(a.add (i * 7)).block, (a.add (i * 7)).off + 5, none⟩ = some (.slice B1 y.parts.length e1) ∧ w'.cell? ⟨(a.add (i * 7)).block, (a.add (i * 7)).off + 6, none⟩ = some (.int .i64 y.ver)) (exact HST.out _ (by repeat (first | exact HM4.out | exact HM3.out | exact Turn.refl _ _ | refine Turn.drew ?_))) (first
        | (go_at_call 10; refine (HOW1.out _ (by repeat (first | exact Below.refl _ _ | refine Below.drew ?_))).mono ?_; rintro e w3 ⟨L3, m3, B3, e3, rfl, hr3, hb3⟩; have HR3 := Lib.hid ((kObj_parts hr3).1.mono fun k hk => show w2.heap.size ≤ k from by have h1 := hk.1; first | exact h1 | simpa using h1); have HB3 := Lib.hid (show Below w2.heap.size w2 w3 from BJp hb3 (by repeat (first | exact Below.refl _ _ | refine Below.drew ?_))); have HM3 := Lib.hid (Turn.of_below (S := mapB b1 b2) HB3.out); clear hr3 hb3; clear HOW1)
        | (go_at_call 18; refine (HCH.out _ _ _ _ _ _ (HR3.out.below (by repeat (first | exact Below.refl _ _ | refine Below.drew ?_))) (by repeat (first | exact HB3.out | refine Below.drew ?_))).mono ?_; rintro e w4 ⟨rfl, hl4, ht4⟩; have HL4 := Lib.hid hl4; have HM4 := Lib.hid (show Turn (mapB b1 b2) w2 w4 from TJ ht4 (by repeat (first | exact HM3.out | refine Turn.drew ?_)) (fun i hi => hi)); clear hl4 ht4))
      all_goals (go_wp2_with fail; go_meet; exact ⟨rfl, HL4.out, HM4.out⟩)
    case rest =>
      obtain ⟨rfl, hl5, hm5⟩ := hcut
      rename World => w5
      have HM5 := Lib.hid hm5
      have HBK := Lib.hid (HH2.out.book.led' hm5 hl5 HOK'.out)
      have HTW := Lib.hid ((Turn.of_below HW2.out).trans (HM5.out.mono (S' := fun i => bookT bb b1 b2 (some a) n c i ∨ w.heap.size ≤ i) fun i _ hi => .inl (.inr (.inl hi))))
      have hss := releaseV_same HZV.out
      have hS : S' = S := by rw [← HSC.out.1, hss]
      have hC : C' = C := by rw [← HSC.out.2, hss]
      subst hS
      subst hC
      have HV := Lib.hid (show stepV S' C' held x = (false, S', C', held) from by unfold stepV; rw [HP.out]; simp only; rw [HYI.out]; simp only; rw [if_pos HKK.out, if_neg HZV.out])
      clear hss hl5 hm5
      go_wp2
      go_ret
      rw [HV.out]
      exact ⟨rfl, ⟨some a, n, c, R, HBK.out, fun k hk => .inl hk, fun k hk => .inl hk⟩, HTW.out⟩
set_option maxRecDepth 100000 in
set_option maxHeartbeats 2000000 in
theorem step_g {w : World} {x : OpM} {d : OpAd} {P R : Nat → Prop} {N bb g b1 b2 m n c : Nat} {A : Option Addr} {S : Pl → Int} {C : ByteArray → Int} {held : List ObjM} (h : StepIn w x d P N bb g b1 b2 m A n c R S C held) (i : Nat) (y : ObjM) (hp : placeO held x.o.path x.o.name = some i) (hy : held[i]? = some y) (hk : x.kind ≠ 2) (hzv : (changeV S C y.v x.o.v).1 ≠ 0) :
    Calls Tryz.prog 23 #[.pointer (some ⟨bb, 0, none⟩), .agg #[.bool x.two, .int .i64 x.kind, .string x.o.path, .string x.o.name, .slice d.L x.o.ls.length d.m, .int .i64 x.o.prio, .int .i64 x.o.dl, .slice d.B x.o.parts.length d.c, .int .i64 x.o.ver, .string x.p.path, .string x.p.name, .slice d.L' x.p.ls.length d.m', .int .i64 x.p.prio, .int .i64 x.p.dl, .slice d.B' x.p.parts.length d.c', .int .i64 x.p.ver, .int .i64 x.s.kind, .int .i64 x.s.arg, .string x.r]] w (StepPost N bb g b1 b2 m A n c R (stepV S C held x) w) := by
  have hb0 : Below w.heap.size w (w.alloc (.cells #[.bool x.two, .int .i64 x.kind, .string x.o.path, .string x.o.name, .slice d.L x.o.ls.length d.m, .int .i64 x.o.prio, .int .i64 x.o.dl, .slice d.B x.o.parts.length d.c, .int .i64 x.o.ver, .string x.p.path, .string x.p.name, .slice d.L' x.p.ls.length d.m', .int .i64 x.p.prio, .int .i64 x.p.dl, .slice d.B' x.p.parts.length d.c', .int .i64 x.p.ver, .int .i64 x.s.kind, .int .i64 x.s.arg, .string x.r] 58)) := (Below.refl _ _).alloc (Nat.le_refl _) _
  have hx := OpBox.mk (heap_alloc_new w (.cells #[.bool x.two, .int .i64 x.kind, .string x.o.path, .string x.o.name, .slice d.L x.o.ls.length d.m, .int .i64 x.o.prio, .int .i64 x.o.dl, .slice d.B x.o.parts.length d.c, .int .i64 x.o.ver, .string x.p.path, .string x.p.name, .slice d.L' x.p.ls.length d.m', .int .i64 x.p.prio, .int .i64 x.p.dl, .slice d.B' x.p.parts.length d.c', .int .i64 x.p.ver, .int .i64 x.s.kind, .int .i64 x.s.arg, .string x.r] 58))
  obtain ⟨w0, hw0⟩ : ∃ w0, w.alloc (.cells #[.bool x.two, .int .i64 x.kind, .string x.o.path, .string x.o.name, .slice d.L x.o.ls.length d.m, .int .i64 x.o.prio, .int .i64 x.o.dl, .slice d.B x.o.parts.length d.c, .int .i64 x.o.ver, .string x.p.path, .string x.p.name, .slice d.L' x.p.ls.length d.m', .int .i64 x.p.prio, .int .i64 x.p.dl, .slice d.B' x.p.parts.length d.c', .int .i64 x.p.ver, .int .i64 x.s.kind, .int .i64 x.s.arg, .string x.r] 58) = w0 := ⟨_, rfl⟩
  rw [hw0] at hb0 hx
  have HB0 := Lib.hid hb0
  have HX := Lib.hid hx
  obtain ⟨t3, ht3⟩ : ∃ t, w.heap.size = t := ⟨_, rfl⟩
  have HNO := Lib.hid (show (Value.slice A n c).ownBlock ≠ some t3 from fun e => by have := (h.book.list.own.block_lt _ e).2; omega)
  have HT3 := Lib.hid (show N ≤ t3 from by rw [← ht3]; exact h.low)
  have HLT := Lib.hid (show t3 < w0.heap.size from by rw [← ht3]; exact (Array.getElem?_eq_some_iff.1 hx.blk).1)
  have h := h.below hb0
  have HH := Lib.hid h
  have HY := Lib.hid (show placeZ held x.o.path x.o.name = (i : Int) from by unfold placeZ; rw [hp])
  have HN := Lib.hid h.book.hn
  have hlen := h.book.len
  rw [← HN.out] at hlen
  have HPL := Lib.hid (fun W (hb : Below w0.heap.size w0 W) => (show Calls Tryz.prog 50 #[.slice A n c, .agg #[.string x.o.path, .string x.o.name, .slice d.L x.o.ls.length d.m, .int .i64 x.o.prio, .int .i64 x.o.dl, .slice d.B x.o.parts.length d.c, .int .i64 x.o.ver]] W (fun e w' => e = .returned (.int .i64 (placeZ held x.o.path x.o.name)) ∧ Below W.heap.size W w') from
    place_any held n HN.out.symm A c _ x.o d.L x.o.ls.length d.m d.B x.o.parts.length d.c W (h.book.below hb).list.row.2.1 (by omega)))
  have HRW := Lib.hid (show ∀ W, Below w0.heap.size w0 W → Calls Tryz.prog 14 #[.pointer (some ⟨g, 0, none⟩)] W _ from fun W hb => lrows_any W (h.ml.below hb) (h.book.led.below hb) h.book.ok (by have := h.hm; omega))
  rw [ht3] at hx HX
  have HS := Lib.hid (show ∀ W, Below w0.heap.size w0 W → (W.cell? ⟨bb, 0, none⟩ = some (.pointer (some ⟨g, 0, none⟩)) ∧ W.cell? ⟨bb, 1, none⟩ = some (.slice A n c) ∧ W.cell? ⟨t3, 2, none⟩ = some (.string x.o.path) ∧ W.cell? ⟨t3, 3, none⟩ = some (.string x.o.name) ∧ W.cell? ⟨t3, 4, none⟩ = some (.slice d.L x.o.ls.length d.m) ∧ W.cell? ⟨t3, 5, none⟩ = some (.int .i64 x.o.prio) ∧ W.cell? ⟨t3, 6, none⟩ = some (.int .i64 x.o.dl) ∧ W.cell? ⟨t3, 7, none⟩ = some (.slice d.B x.o.parts.length d.c) ∧ W.cell? ⟨t3, 8, none⟩ = some (.int .i64 x.o.ver)) from fun W hb => by
    obtain ⟨k0, k1⟩ := (h.book.below hb).cells
    obtain ⟨-, -, f2, f3, f4, f5, f6, f7, f8, -⟩ := (hx.below hb).lit
    exact ⟨k0, k1, f2, f3, f4, f5, f6, f7, f8⟩)
  clear h hb0 hx
  have HKK := Lib.hid hk
  clear hk
  go_enter Tryz.func23, Tryz.ntmps23
  go_upto_region 1 with fail
  go_cut [5] (fun v wx => v = .int .i64 (placeZ held x.o.path x.o.name) ∧ Below w0.heap.size w0 wx)
  case first =>
    go_region_held3 (fun w' => w'.cell? ⟨bb, 0, none⟩ = some (.pointer (some ⟨g, 0, none⟩)) ∧ w'.cell? ⟨bb, 1, none⟩ = some (.slice A n c) ∧ w'.cell? ⟨t3, 2, none⟩ = some (.string x.o.path) ∧ w'.cell? ⟨t3, 3, none⟩ = some (.string x.o.name) ∧ w'.cell? ⟨t3, 4, none⟩ = some (.slice d.L x.o.ls.length d.m) ∧ w'.cell? ⟨t3, 5, none⟩ = some (.int .i64 x.o.prio) ∧ w'.cell? ⟨t3, 6, none⟩ = some (.int .i64 x.o.dl) ∧ w'.cell? ⟨t3, 7, none⟩ = some (.slice d.B x.o.parts.length d.c) ∧ w'.cell? ⟨t3, 8, none⟩ = some (.int .i64 x.o.ver)) (exact HS.out _ (by repeat (first | exact HK1.out | exact Below.refl _ _ | refine Below.drew ?_))) (first
      | (go_at_call 50; refine (HPL.out _ (by repeat (first | exact Below.refl _ _ | refine Below.drew ?_))).mono ?_; rintro e v1 ⟨rfl, hb1⟩; have HK1 := Lib.hid (show Below w0.heap.size w0 v1 from BJp hb1 (by repeat (first | exact Below.refl _ _ | refine Below.drew ?_))); clear hb1))
    all_goals (go_wp2_with fail; go_meet; exact ⟨rfl, HK1.out⟩)
  case rest =>
    obtain ⟨rfl, hb1⟩ := hcut
    rename World => w1
    have HB1 := Lib.hid hb1
    obtain ⟨k0, k1, -⟩ := HS.out _ hb1
    clear hb1
    rw [show placeZ held x.o.path x.o.name = _ from HY.out]
    go_upto_region 3 with (go_at_call 14; refine (HRW.out _ HB1.out).mono ?_; rintro e w2 ⟨A6, c6, R6, rfl, ho6, hr6, hb6⟩; have HR6 := Lib.hid hr6; have HB2 := Lib.hid (HB1.out.trans (hb6.mono HB1.out.size)); have HO6 := Lib.hid (own_from ho6 (Nat.le_trans HT3.out (Nat.le_trans (Nat.le_of_lt HLT.out) HB1.out.size))); have HLE := Lib.hid (show R6.length ≤ 9223372036854775807 by have h1 := ho6.row'.2.2.1; have h2 := ho6.row'.2.2.2; unfold maxLen at h2; omega); clear ho6 hr6 hb6)
    clear k0 k1
    have HSB := Lib.hid (HS.out _ HB2.out)
    have HH2 := Lib.hid (HH.out.below HB2.out)
    have HW2 := Lib.hid (HB0.out.trans (HB2.out.mono HB0.out.size))
    obtain ⟨k0, k1, f2, f3, f4, f5, f6, f7, f8⟩ := HSB.out
    clear HB1 HPL HRW
    obtain ⟨z, hz⟩ : ∃ z, (changeV S C y.v x.o.v).1 = z := ⟨_, rfl⟩
    obtain ⟨S', hS⟩ : ∃ S', (changeV S C y.v x.o.v).2.1 = S' := ⟨_, rfl⟩
    obtain ⟨C', hC⟩ : ∃ C', (changeV S C y.v x.o.v).2.2 = C' := ⟨_, rfl⟩
    have hh := HH2.out
    have hil : i < held.length := placeO_lt hp
    have hyi : held[i] = y := Option.some.inj ((List.getElem?_eq_getElem hil).symm.trans hy)
    have hfy : ObjMFit y := hyi ▸ hh.book.fit _ (List.getElem_mem hil)
    have hok' := changeV_six hh.book.ok hfy.ok hh.fit.ok
    rw [hS, hC] at hok'
    have HOK' := Lib.hid hok'
    obtain ⟨a, L1, m1, B1, e1, hA, hNa, hoa⟩ := obj_at hh.book.list.row.2.1 i hil
    rw [hyi] at hoa
    subst hA
    have HOW1 := Lib.hid (fun W (hb : Below w2.heap.size w2 W) => own_objM y L1 m1 B1 e1 W ((hoa.below hb).fit hfy))
    have HOW2 := Lib.hid (fun W (hb : Below w2.heap.size w2 W) => own_objM x.o d.L d.m d.B d.c W (hh.below hb).fo)
    have HCH := Lib.hid (fun (L3 : Option Addr) (m3 : Nat) (B3 : Option Addr) (e3 : Nat) (Q : Nat → Prop) (L4 : Option Addr) (m4 : Nat) (B4 : Option Addr) (e4 : Nat) (Q' : Nat → Prop) W (hr : Row kPart Q W B3 y.parts) (hr' : Row kPart Q' W B4 x.o.parts) (hQ : ∀ j, Q' j → N ≤ j) (hb : Below w2.heap.size w2 W) => (show Calls Tryz.prog 24 #[.pointer (some ⟨g, 0, none⟩), .agg #[.string y.path, .string y.name, .slice L3 y.ls.length m3, .int .i64 y.prio, .int .i64 y.dl, .slice B3 y.parts.length e3, .int .i64 y.ver], .agg #[.string x.o.path, .string x.o.name, .slice L4 x.o.ls.length m4, .int .i64 x.o.prio, .int .i64 x.o.dl, .slice B4 x.o.parts.length e4, .int .i64 x.o.ver]] W (fun e w' => e = .returned (.int .i64 z) ∧ IsLed w' g b1 b2 (m + 180000000000) S' C' ∧ Turn (mapB b1 b2) W w') from by
      have q := change_any (g := g) (b1 := b1) (b2 := b2) (n := m) (S := S) (C := C) y.v x.o.v m L3 y.ls.length m3 B3 e3 Q L4 x.o.ls.length m4 B4 e4 Q' W (oarg_row L3 m3 hr hfy.ok (hh.ml.below hb) (hh.tx.below hb)) (oarg_row L4 m4 hr' hh.fit.ok (hh.ml.below hb) (hh.tx.below hb)) (hh.book.led.below hb) hh.book.ok (by have := hh.hm; omega) (m + 180000000000) (Nat.le_refl _) (by have := hh.hm; unfold maxLen; omega) ⟨fun e => hh.sg.2.2 (.inr (.inl e.symm)), fun e => hh.sg.2.2 (.inr (.inr e.symm))⟩ ⟨fun e => hh.st.2.2 (.inr (.inl e.symm)), fun e => hh.st.2.2 (.inr (.inr e.symm))⟩ (fun j hj => ⟨fun e => by have h1 := hQ j hj; have := (hh.book.llo j (.inr (.inl e))).1; omega, fun e => by have h1 := hQ j hj; have := (hh.book.llo j (.inr (.inr e))).1; omega⟩)
      unfold LedPost at q
      rw [hz, hS, hC] at q
      exact q))
    have HST := Lib.hid (show ∀ W, Turn (mapB b1 b2) w2 W → (W.cell? ⟨bb, 0, none⟩ = some (.pointer (some ⟨g, 0, none⟩)) ∧ W.cell? ⟨bb, 1, none⟩ = some (.slice (some a) n c) ∧ W.cell? (a.add (i * 7)) = some (.string y.path) ∧ W.cell? ⟨(a.add (i * 7)).block, (a.add (i * 7)).off + 1, none⟩ = some (.string y.name) ∧ W.cell? ⟨(a.add (i * 7)).block, (a.add (i * 7)).off + 2, none⟩ = some (.slice L1 y.ls.length m1) ∧ W.cell? ⟨(a.add (i * 7)).block, (a.add (i * 7)).off + 3, none⟩ = some (.int .i64 y.prio) ∧ W.cell? ⟨(a.add (i * 7)).block, (a.add (i * 7)).off + 4, none⟩ = some (.int .i64 y.dl) ∧ W.cell? ⟨(a.add (i * 7)).block, (a.add (i * 7)).off + 5, none⟩ = some (.slice B1 y.parts.length e1) ∧ W.cell? ⟨(a.add (i * 7)).block, (a.add (i * 7)).off + 6, none⟩ = some (.int .i64 y.ver) ∧ W.cell? ⟨t3, 2, none⟩ = some (.string x.o.path) ∧ W.cell? ⟨t3, 3, none⟩ = some (.string x.o.name) ∧ W.cell? ⟨t3, 4, none⟩ = some (.slice d.L x.o.ls.length d.m) ∧ W.cell? ⟨t3, 5, none⟩ = some (.int .i64 x.o.prio) ∧ W.cell? ⟨t3, 6, none⟩ = some (.int .i64 x.o.dl) ∧ W.cell? ⟨t3, 7, none⟩ = some (.slice d.B x.o.parts.length d.c) ∧ W.cell? ⟨t3, 8, none⟩ = some (.int .i64 x.o.ver)) from fun W ht => by
      have hbk : ¬ mapB b1 b2 bb := fun e => (hh.book.llo bb (.inr e)).2 rfl
      have htk : ¬ mapB b1 b2 t3 := fun e => by have := (hh.book.llo t3 (.inr e)).1; have := HT3.out; omega
      obtain ⟨k0, k1⟩ := hh.book.cells
      obtain ⟨y0, y1, y2, y3, y4, y5, y6, -, -⟩ := hoa.turn ht (fun e => by rw [add_block] at e; have h1 := (hh.book.llo _ (.inr e)).1; have h2 : N ≤ a.block := hNa; omega) (fun k hk e => by have h1 := (hh.book.llo _ (.inr e)).1; have h2 : N ≤ k := hk; omega)
      obtain ⟨-, -, f2, f3, f4, f5, f6, f7, f8, -⟩ := ((HX.out.below HB2.out).turn ht htk).lit
      exact ⟨ht.cell k0 hbk, ht.cell k1 hbk, y0, y1, y2, y3, y4, y5, y6, f2, f3, f4, f5, f6, f7, f8⟩)
    have HLI := Lib.hid hil
    have hi0 : (0 : Int) ≤ (i : Int) := by omega
    have hin : (i : Int) < (n : Int) := by have := HN.out; omega
    have hil0 : ¬ ((i : Int) < 0) := by omega
    have f1 := (HX.out.below HB2.out).lit.2.1
    have HZ := Lib.hid hz
    have HSC := Lib.hid (And.intro hS hC)
    have HP := Lib.hid hp
    have HYI := Lib.hid hy
    have HZV := Lib.hid hzv
    clear hh hok' hz hS hC hp hy hyi hzv hil hfy hoa
    have hk := HKK.out
    have ek : (x.kind == 2) = false := by simpa using hk
    clear hk
    go_upto_region 13 with fail
    clear k0 k1 f1 f2 f3 f4 f5 f6 f7 f8
    go_cut [7] (fun v wx => v = .int .i64 z ∧ IsLed wx g b1 b2 (m + 180000000000) S' C' ∧ Turn (mapB b1 b2) w2 wx)
    case first =>
      go_region_held3 (fun w' => w'.cell? ⟨bb, 0, none⟩ = some (.pointer (some ⟨g, 0, none⟩)) ∧ w'.cell? ⟨bb, 1, none⟩ = some (.slice (some a) n c) ∧ w'.cell? (a.add (i * 7)) = some (.string y.path) ∧ w'.cell? ⟨(a.add (i * 7)).block, (a.add (i * 7)).off + 1, none⟩ = some (.string y.name) ∧ w'.cell? ⟨(a.add (i * 7)).block, (a.add (i * 7)).off + 2, none⟩ = some (.slice L1 y.ls.length m1) ∧ w'.cell? ⟨(a.add (i * 7)).block, (a.add (i * 7)).off + 3, none⟩ = some (.int .i64 y.prio) ∧ w'.cell? ⟨(a.add (i * 7)).block, (a.add (i * 7)).off + 4, none⟩ = some (.int .i64 y.dl) ∧ w'.cell? ⟨(a.add (i * 7)).block, (a.add (i * 7)).off + 5, none⟩ = some (.slice B1 y.parts.length e1) ∧ w'.cell? ⟨(a.add (i * 7)).block, (a.add (i * 7)).off + 6, none⟩ = some (.int .i64 y.ver) ∧ w'.cell? ⟨t3, 2, none⟩ = some (.string x.o.path) ∧ w'.cell? ⟨t3, 3, none⟩ = some (.string x.o.name) ∧ w'.cell? ⟨t3, 4, none⟩ = some (.slice d.L x.o.ls.length d.m) ∧ w'.cell? ⟨t3, 5, none⟩ = some (.int .i64 x.o.prio) ∧ w'.cell? ⟨t3, 6, none⟩ = some (.int .i64 x.o.dl) ∧ w'.cell? ⟨t3, 7, none⟩ = some (.slice d.B x.o.parts.length d.c) ∧ w'.cell? ⟨t3, 8, none⟩ = some (.int .i64 x.o.ver)) (exact HST.out _ (by repeat (first | exact HM4.out | exact HM33.out | exact HM3.out | exact Turn.refl _ _ | refine Turn.drew ?_))) (first
        | (go_at_call 10; refine (HOW1.out _ (by repeat (first | exact Below.refl _ _ | refine Below.drew ?_))).mono ?_; rintro e w3 ⟨L3, m3, B3, e3, rfl, hr3, hb3⟩; have HR3 := Lib.hid ((kObj_parts hr3).1.mono fun k hk => show w2.heap.size ≤ k from by have h1 := hk.1; first | exact h1 | simpa using h1); have HB3 := Lib.hid (show Below w2.heap.size w2 w3 from BJp hb3 (by repeat (first | exact Below.refl _ _ | refine Below.drew ?_))); have HM3 := Lib.hid (Turn.of_below (S := mapB b1 b2) HB3.out); clear hr3 hb3; clear HOW1)
        | (go_at_call 10; refine (HOW2.out _ (by repeat (first | exact HB3.out | refine Below.drew ?_))).mono ?_; rintro e w33 ⟨L4, m4, B4, e4, rfl, hr4, hb4⟩; have HR4 := Lib.hid ((kObj_parts hr4).1.mono fun k hk => show N ≤ k from by have h1 := hk.1; have h2 := HB3.out.size; have h3 := HH2.out.low; first | omega | (simp at h1; omega)); have HB33 := Lib.hid (show Below w3.heap.size w3 w33 from BJp hb4 (by repeat (first | exact Below.refl _ _ | refine Below.drew ?_))); have HB4 := Lib.hid (show Below w2.heap.size w2 w33 from HB3.out.trans (HB33.out.mono HB3.out.size)); have HR33 := Lib.hid (HR3.out.below HB33.out); have HM33 := Lib.hid (Turn.of_below (S := mapB b1 b2) HB4.out); clear hr4 hb4; clear HOW2)
        | (go_at_call 24; refine (HCH.out _ _ _ _ _ _ _ _ _ _ _ (HR33.out.below (by repeat (first | exact Below.refl _ _ | refine Below.drew ?_))) (HR4.out.below (by repeat (first | exact Below.refl _ _ | refine Below.drew ?_))) (by exact fun j hj => hj) (by repeat (first | exact HB4.out | refine Below.drew ?_))).mono ?_; rintro e w4 ⟨rfl, hl4, ht4⟩; have HL4 := Lib.hid hl4; have HM4 := Lib.hid (show Turn (mapB b1 b2) w2 w4 from TJ ht4 (by repeat (first | exact HM33.out | refine Turn.drew ?_)) (fun i hi => hi)); clear hl4 ht4))
      all_goals (go_wp2_with fail; go_meet; exact ⟨rfl, HL4.out, HM4.out⟩)
    case rest =>
      obtain ⟨rfl, hl5, hm5⟩ := hcut
      rename World => w5
      have HM5 := Lib.hid hm5
      have HBK := Lib.hid (HH2.out.book.led' hm5 hl5 HOK'.out)
      have HO65 := Lib.hid (HO6.out.turn hm5 fun k hk e => by have := (HH2.out.book.llo k (.inr e)).1; omega)
      have HTW := Lib.hid ((Turn.of_below HW2.out).trans (HM5.out.mono (S' := fun i => bookT bb b1 b2 (some a) n c i ∨ w.heap.size ≤ i) fun i _ hi => .inl (.inr (.inl hi))))
      have HML := Lib.hid (HH2.out.ml.turn hm5 fun e => HH2.out.sg.2.2 (.inr e))
      have HMM := HH2.out.hm
      have k0 := HBK.out.cells.1
      have hss := changeV_same HZV.out
      have hS : S' = S := by rw [← HSC.out.1, hss]
      have hC : C' = C := by rw [← HSC.out.2, hss]
      subst hS
      subst hC
      have HV := Lib.hid (show stepV S' C' held x = (true, S', C', held) from by unfold stepV; rw [HP.out]; simp only; rw [HYI.out]; simp only; rw [if_neg HKK.out, if_neg HZV.out])
      have ez : (z == 0) = false := by rw [← HZ.out]; simpa using HZV.out
      clear hss hl5 hm5
      have HLR := Lib.hid (show Calls Tryz.prog 14 #[.pointer (some ⟨g, 0, none⟩)] w5 _ from lrows_any w5 HML.out HBK.out.led HBK.out.ok (by omega))
      go_wp2_with (first
        | (go_at_call 14; refine HLR.out.mono ?_; rintro e w7 ⟨A7, c7, R7, rfl, ho7, hr7, hb7⟩; have h7 := rowsOf_unique hr7 HR6.out; have HO7 := Lib.hid (h7 ▸ ho7.row'.2.1); have HB7 := Lib.hid hb7; rw [h7]; clear ho7 hr7 hb7 h7)
        | (go_at_call 13; have q := sameRows_val A6 A7 _ c6 c7 _ _ R6 w7 (HO65.out.below HB7.out) HO7.out rfl HLE.out; refine q.mono ?_; clear q; rintro e w8 ⟨rfl, hb8⟩; have HB8 := Lib.hid (HB7.out.trans (hb8.mono HB7.out.size)); clear hb8))
      go_ret
      rw [HV.out]
      exact ⟨rfl, ⟨some a, n, c, R, HBK.out.below HB8.out, fun k hk => .inl hk, fun k hk => .inl hk⟩, HTW.out.then_below HB8.out⟩
end Go.Proofs.YtalkdddeiebfmaaGreatDoor
