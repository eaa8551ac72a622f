/- A step of the book: one more way (printed by mkstep.py). -/
import Derived.Test.YtalkdddeiebfmaaGreatDoorJ64
import Derived.Deep.MidRow
namespace Go.Proofs.YtalkdddeiebfmaaGreatDoor
open Go.RowKit
theorem Own.head {α : Type} {d : Kn α} {e base : Nat} {P : Nat → Prop} {w : World} {a : Addr} {n c : Nat} {xs : List α} (h : Own d e base P w (.slice (some a) n c) xs) : ∃ q cur, a = ⟨q, 0, none⟩ ∧ w.heap[q]? = some (.cells cur e (0, 0)) := by
  obtain ⟨cells, ⟨hlen, ho⟩, hf⟩ := h
  rcases ho with ⟨hv, _⟩ | ⟨g', cap', cur, hv, hbg, hg, _⟩
  · cases hv
  · cases hv
    exact ⟨g', cur, rfl, hg⟩
/-- an element of the book's list is written anew -/
theorem IsBook.set {w w6 : World} {N bb g b1 b2 m q n c : Nat} {R Q : Nat → Prop} {S : Pl → Int} {C : ByteArray → Int} {held : List ObjM} (k : IsBook w N bb g b1 b2 m (some ⟨q, 0, none⟩) n c R S C held) (hb : Below w.heap.size w w6) (i : Nat) (hi : i < held.length) (y : ObjM) (cs : List Value) (hy : kObj.R Q w6 y cs)
    (hQ : ∀ j, Q j → w.heap.size ≤ j ∧ j < w6.heap.size) (hf : ObjMFit y) (hN : N ≤ w.heap.size) : IsBook (w6.setCells q (i * 7) cs) N bb g b1 b2 m (some ⟨q, 0, none⟩) n c (fun j => R j ∨ Q j) S C (held.set i y) ∧ Turn (fun j => j = q) w (w6.setCells q (i * 7) cs) := by
  have hq := k.list.own.block_lt q rfl
  have ht : Turn (fun j => j = q) w (w6.setCells q (i * 7) cs) := setCells_turn (S := fun j => j = q) (.inl rfl) cs w6 _ (Turn.of_below hb)
  have hown := Own.setK (k.list.below hb).own i hi y cs hy (fun j hj e => (k.list.low j hj).2.2 (by rw [e]; rfl)) (fun j hj e => by have := hQ j hj; omega)
  refine ⟨⟨(ht.block bb (Array.getElem?_eq_some_iff.1 k.box).1 fun e => by have := k.blo; omega).trans k.box, k.led.turn ht fun j hj e => by have := (k.llo j hj).1; omega, k.ok, ⟨hown, fun j hj => ?_⟩, fun o ho => ?_, by rw [List.length_set]; exact k.len, k.blo, k.llo⟩, ht⟩
  · have hs := (setCells_turn (S := fun j => j = q) (w0 := w6) (.inl rfl) cs w6 (i * 7) (Turn.refl _ _)).size
    rcases hj with hj | hj
    · have h1 := k.list.low j hj
      exact ⟨h1.1, Nat.lt_of_lt_of_le h1.2.1 (Nat.le_trans hb.size hs), h1.2.2⟩
    · have h1 := hQ j hj
      exact ⟨by omega, by omega, fun e => by have := Option.some.inj e; have h2 : q = j := this; omega⟩
  · rcases List.mem_or_eq_of_mem_set ho with ho | ho
    · exact k.fit o ho
    · rw [ho]; exact hf
set_option maxRecDepth 100000 in
set_option maxHeartbeats 2000000 in
theorem step_f {w : World} {x : OpM} {d : OpAd} {P R : Nat → Prop} {N bb g b1 b2 m n c : Nat} {A : Option Addr} {S : Pl → Int} {C : ByteArray → Int} {held : List ObjM} (h : StepIn w x d P N bb g b1 b2 m A n c R S C held) (i : Nat) (y : ObjM) (hp : placeO held x.o.path x.o.name = some i) (hy : held[i]? = some y) (hk : x.kind ≠ 2) (hzv : (changeV S C y.v x.o.v).1 = 0) :
    Calls Tryz.prog 23 #[.pointer (some ⟨bb, 0, none⟩), .agg #[.bool x.two, .int .i64 x.kind, .string x.o.path, .string x.o.name, .slice d.L x.o.ls.length d.m, .int .i64 x.o.prio, .int .i64 x.o.dl, .slice d.B x.o.parts.length d.c, .int .i64 x.o.ver, .string x.p.path, .string x.p.name, .slice d.L' x.p.ls.length d.m', .int .i64 x.p.prio, .int .i64 x.p.dl, .slice d.B' x.p.parts.length d.c', .int .i64 x.p.ver, .int .i64 x.s.kind, .int .i64 x.s.arg, .string x.r]] w (StepPost N bb g b1 b2 m A n c R (stepV S C held x) w) := by
  have hb0 : Below w.heap.size w (w.alloc (.cells #[.bool x.two, .int .i64 x.kind, .string x.o.path, .string x.o.name, .slice d.L x.o.ls.length d.m, .int .i64 x.o.prio, .int .i64 x.o.dl, .slice d.B x.o.parts.length d.c, .int .i64 x.o.ver, .string x.p.path, .string x.p.name, .slice d.L' x.p.ls.length d.m', .int .i64 x.p.prio, .int .i64 x.p.dl, .slice d.B' x.p.parts.length d.c', .int .i64 x.p.ver, .int .i64 x.s.kind, .int .i64 x.s.arg, .string x.r] 58)) := (Below.refl _ _).alloc (Nat.le_refl _) _
  have hx := OpBox.mk (heap_alloc_new w (.cells #[.bool x.two, .int .i64 x.kind, .string x.o.path, .string x.o.name, .slice d.L x.o.ls.length d.m, .int .i64 x.o.prio, .int .i64 x.o.dl, .slice d.B x.o.parts.length d.c, .int .i64 x.o.ver, .string x.p.path, .string x.p.name, .slice d.L' x.p.ls.length d.m', .int .i64 x.p.prio, .int .i64 x.p.dl, .slice d.B' x.p.parts.length d.c', .int .i64 x.p.ver, .int .i64 x.s.kind, .int .i64 x.s.arg, .string x.r] 58))
  obtain ⟨w0, hw0⟩ : ∃ w0, w.alloc (.cells #[.bool x.two, .int .i64 x.kind, .string x.o.path, .string x.o.name, .slice d.L x.o.ls.length d.m, .int .i64 x.o.prio, .int .i64 x.o.dl, .slice d.B x.o.parts.length d.c, .int .i64 x.o.ver, .string x.p.path, .string x.p.name, .slice d.L' x.p.ls.length d.m', .int .i64 x.p.prio, .int .i64 x.p.dl, .slice d.B' x.p.parts.length d.c', .int .i64 x.p.ver, .int .i64 x.s.kind, .int .i64 x.s.arg, .string x.r] 58) = w0 := ⟨_, rfl⟩
  rw [hw0] at hb0 hx
  have HB0 := Lib.hid hb0
  have HX := Lib.hid hx
  obtain ⟨t3, ht3⟩ : ∃ t, w.heap.size = t := ⟨_, rfl⟩
  have HNO := Lib.hid (show (Value.slice A n c).ownBlock ≠ some t3 from fun e => by have := (h.book.list.own.block_lt _ e).2; omega)
  have HT3 := Lib.hid (show N ≤ t3 from by rw [← ht3]; exact h.low)
  have HLT := Lib.hid (show t3 < w0.heap.size from by rw [← ht3]; exact (Array.getElem?_eq_some_iff.1 hx.blk).1)
  have h := h.below hb0
  have HH := Lib.hid h
  have HY := Lib.hid (show placeZ held x.o.path x.o.name = (i : Int) from by unfold placeZ; rw [hp])
  have HN := Lib.hid h.book.hn
  have hlen := h.book.len
  rw [← HN.out] at hlen
  have HPL := Lib.hid (fun W (hb : Below w0.heap.size w0 W) => (show Calls Tryz.prog 50 #[.slice A n c, .agg #[.string x.o.path, .string x.o.name, .slice d.L x.o.ls.length d.m, .int .i64 x.o.prio, .int .i64 x.o.dl, .slice d.B x.o.parts.length d.c, .int .i64 x.o.ver]] W (fun e w' => e = .returned (.int .i64 (placeZ held x.o.path x.o.name)) ∧ Below W.heap.size W w') from
    place_any held n HN.out.symm A c _ x.o d.L x.o.ls.length d.m d.B x.o.parts.length d.c W (h.book.below hb).list.row.2.1 (by omega)))
  have HRW := Lib.hid (show ∀ W, Below w0.heap.size w0 W → Calls Tryz.prog 14 #[.pointer (some ⟨g, 0, none⟩)] W _ from fun W hb => lrows_any W (h.ml.below hb) (h.book.led.below hb) h.book.ok (by have := h.hm; omega))
  rw [ht3] at hx HX
  have HS := Lib.hid (show ∀ W, Below w0.heap.size w0 W → (W.cell? ⟨bb, 0, none⟩ = some (.pointer (some ⟨g, 0, none⟩)) ∧ W.cell? ⟨bb, 1, none⟩ = some (.slice A n c) ∧ W.cell? ⟨t3, 2, none⟩ = some (.string x.o.path) ∧ W.cell? ⟨t3, 3, none⟩ = some (.string x.o.name) ∧ W.cell? ⟨t3, 4, none⟩ = some (.slice d.L x.o.ls.length d.m) ∧ W.cell? ⟨t3, 5, none⟩ = some (.int .i64 x.o.prio) ∧ W.cell? ⟨t3, 6, none⟩ = some (.int .i64 x.o.dl) ∧ W.cell? ⟨t3, 7, none⟩ = some (.slice d.B x.o.parts.length d.c) ∧ W.cell? ⟨t3, 8, none⟩ = some (.int .i64 x.o.ver)) from fun W hb => by
    obtain ⟨k0, k1⟩ := (h.book.below hb).cells
    obtain ⟨-, -, f2, f3, f4, f5, f6, f7, f8, -⟩ := (hx.below hb).lit
    exact ⟨k0, k1, f2, f3, f4, f5, f6, f7, f8⟩)
  clear h hb0 hx
  have HKK := Lib.hid hk
  clear hk
  go_enter Tryz.func23, Tryz.ntmps23
  go_upto_region 1 with fail
  go_cut [5] (fun v wx => v = .int .i64 (placeZ held x.o.path x.o.name) ∧ Below w0.heap.size w0 wx)
  case first =>
    go_region_held3 (fun w' => w'.cell? ⟨bb, 0, none⟩ = some (.pointer (some ⟨g, 0, none⟩)) ∧ w'.cell? ⟨bb, 1, none⟩ = some (.slice A n c) ∧ w'.cell? ⟨t3, 2, none⟩ = some (.string x.o.path) ∧ w'.cell? ⟨t3, 3, none⟩ = some (.string x.o.name) ∧ w'.cell? ⟨t3, 4, none⟩ = some (.slice d.L x.o.ls.length d.m) ∧ w'.cell? ⟨t3, 5, none⟩ = some (.int .i64 x.o.prio) ∧ w'.cell? ⟨t3, 6, none⟩ = some (.int .i64 x.o.dl) ∧ w'.cell? ⟨t3, 7, none⟩ = some (.slice d.B x.o.parts.length d.c) ∧ w'.cell? ⟨t3, 8, none⟩ = some (.int .i64 x.o.ver)) (exact HS.out _ (by repeat (first | exact HK1.out | exact Below.refl _ _ | refine Below.drew ?_))) (first
      | (go_at_call 50; refine (HPL.out _ (by repeat (first | exact Below.refl _ _ | refine Below.drew ?_))).mono ?_; rintro e v1 ⟨rfl, hb1⟩; have HK1 := Lib.hid (show Below w0.heap.size w0 v1 from BJp hb1 (by repeat (first | exact Below.refl _ _ | refine Below.drew ?_))); clear hb1))
    all_goals (go_wp2_with fail; go_meet; exact ⟨rfl, HK1.out⟩)
  case rest =>
    obtain ⟨rfl, hb1⟩ := hcut
    rename World => w1
    have HB1 := Lib.hid hb1
    obtain ⟨k0, k1, -⟩ := HS.out _ hb1
    clear hb1
    rw [show placeZ held x.o.path x.o.name = _ from HY.out]
    go_upto_region 3 with (go_at_call 14; refine (HRW.out _ HB1.out).mono ?_; rintro e w2 ⟨A6, c6, R6, rfl, ho6, hr6, hb6⟩; have HR6 := Lib.hid hr6; have HB2 := Lib.hid (HB1.out.trans (hb6.mono HB1.out.size)); have HO6 := Lib.hid (own_from ho6 (Nat.le_trans HT3.out (Nat.le_trans (Nat.le_of_lt HLT.out) HB1.out.size))); have HLE := Lib.hid (show R6.length ≤ 9223372036854775807 by have h1 := ho6.row'.2.2.1; have h2 := ho6.row'.2.2.2; unfold maxLen at h2; omega); clear ho6 hr6 hb6)
    clear k0 k1
    have HSB := Lib.hid (HS.out _ HB2.out)
    have HH2 := Lib.hid (HH.out.below HB2.out)
    have HW2 := Lib.hid (HB0.out.trans (HB2.out.mono HB0.out.size))
    obtain ⟨k0, k1, f2, f3, f4, f5, f6, f7, f8⟩ := HSB.out
    clear HB1 HPL HRW
    obtain ⟨z, hz⟩ : ∃ z, (changeV S C y.v x.o.v).1 = z := ⟨_, rfl⟩
    obtain ⟨S', hS⟩ : ∃ S', (changeV S C y.v x.o.v).2.1 = S' := ⟨_, rfl⟩
    obtain ⟨C', hC⟩ : ∃ C', (changeV S C y.v x.o.v).2.2 = C' := ⟨_, rfl⟩
    have hh := HH2.out
    have hil : i < held.length := placeO_lt hp
    have hyi : held[i] = y := Option.some.inj ((List.getElem?_eq_getElem hil).symm.trans hy)
    have hfy : ObjMFit y := hyi ▸ hh.book.fit _ (List.getElem_mem hil)
    have hok' := changeV_six hh.book.ok hfy.ok hh.fit.ok
    rw [hS, hC] at hok'
    have HOK' := Lib.hid hok'
    obtain ⟨a, L1, m1, B1, e1, hA, hNa, hoa⟩ := obj_at hh.book.list.row.2.1 i hil
    rw [hyi] at hoa
    subst hA
    have HOW1 := Lib.hid (fun W (hb : Below w2.heap.size w2 W) => own_objM y L1 m1 B1 e1 W ((hoa.below hb).fit hfy))
    have HOW2 := Lib.hid (fun W (hb : Below w2.heap.size w2 W) => own_objM x.o d.L d.m d.B d.c W (hh.below hb).fo)
    have HCH := Lib.hid (fun (L3 : Option Addr) (m3 : Nat) (B3 : Option Addr) (e3 : Nat) (Q : Nat → Prop) (L4 : Option Addr) (m4 : Nat) (B4 : Option Addr) (e4 : Nat) (Q' : Nat → Prop) W (hr : Row kPart Q W B3 y.parts) (hr' : Row kPart Q' W B4 x.o.parts) (hQ : ∀ j, Q' j → N ≤ j) (hb : Below w2.heap.size w2 W) => (show Calls Tryz.prog 24 #[.pointer (some ⟨g, 0, none⟩), .agg #[.string y.path, .string y.name, .slice L3 y.ls.length m3, .int .i64 y.prio, .int .i64 y.dl, .slice B3 y.parts.length e3, .int .i64 y.ver], .agg #[.string x.o.path, .string x.o.name, .slice L4 x.o.ls.length m4, .int .i64 x.o.prio, .int .i64 x.o.dl, .slice B4 x.o.parts.length e4, .int .i64 x.o.ver]] W (fun e w' => e = .returned (.int .i64 z) ∧ IsLed w' g b1 b2 (m + 180000000000) S' C' ∧ Turn (mapB b1 b2) W w') from by
      have q := change_any (g := g) (b1 := b1) (b2 := b2) (n := m) (S := S) (C := C) y.v x.o.v m L3 y.ls.length m3 B3 e3 Q L4 x.o.ls.length m4 B4 e4 Q' W (oarg_row L3 m3 hr hfy.ok (hh.ml.below hb) (hh.tx.below hb)) (oarg_row L4 m4 hr' hh.fit.ok (hh.ml.below hb) (hh.tx.below hb)) (hh.book.led.below hb) hh.book.ok (by have := hh.hm; omega) (m + 180000000000) (Nat.le_refl _) (by have := hh.hm; unfold maxLen; omega) ⟨fun e => hh.sg.2.2 (.inr (.inl e.symm)), fun e => hh.sg.2.2 (.inr (.inr e.symm))⟩ ⟨fun e => hh.st.2.2 (.inr (.inl e.symm)), fun e => hh.st.2.2 (.inr (.inr e.symm))⟩ (fun j hj => ⟨fun e => by have h1 := hQ j hj; have := (hh.book.llo j (.inr (.inl e))).1; omega, fun e => by have h1 := hQ j hj; have := (hh.book.llo j (.inr (.inr e))).1; omega⟩)
      unfold LedPost at q
      rw [hz, hS, hC] at q
      exact q))
    have HST := Lib.hid (show ∀ W, Turn (mapB b1 b2) w2 W → (W.cell? ⟨bb, 0, none⟩ = some (.pointer (some ⟨g, 0, none⟩)) ∧ W.cell? ⟨bb, 1, none⟩ = some (.slice (some a) n c) ∧ W.cell? (a.add (i * 7)) = some (.string y.path) ∧ W.cell? ⟨(a.add (i * 7)).block, (a.add (i * 7)).off + 1, none⟩ = some (.string y.name) ∧ W.cell? ⟨(a.add (i * 7)).block, (a.add (i * 7)).off + 2, none⟩ = some (.slice L1 y.ls.length m1) ∧ W.cell? ⟨(a.add (i * 7)).block, (a.add (i * 7)).off + 3, none⟩ = some (.int .i64 y.prio) ∧ W.cell? ⟨(a.add (i * 7)).block, (a.add (i * 7)).off + 4, none⟩ = some (.int .i64 y.dl) ∧ W.cell? ⟨(a.add (i * 7)).block, (a.add (i * 7)).off + 5, none⟩ = some (.slice B1 y.parts.length e1) ∧ W.cell? ⟨(a.add (i * 7)).block, (a.add (i * 7)).off + 6, none⟩ = some (.int .i64 y.ver) ∧ W.cell? ⟨t3, 2, none⟩ = some (.string x.o.path) ∧ W.cell? ⟨t3, 3, none⟩ = some (.string x.o.name) ∧ W.cell? ⟨t3, 4, none⟩ = some (.slice d.L x.o.ls.length d.m) ∧ W.cell? ⟨t3, 5, none⟩ = some (.int .i64 x.o.prio) ∧ W.cell? ⟨t3, 6, none⟩ = some (.int .i64 x.o.dl) ∧ W.cell? ⟨t3, 7, none⟩ = some (.slice d.B x.o.parts.length d.c) ∧ W.cell? ⟨t3, 8, none⟩ = some (.int .i64 x.o.ver)) from fun W ht => by
      have hbk : ¬ mapB b1 b2 bb := fun e => (hh.book.llo bb (.inr e)).2 rfl
      have htk : ¬ mapB b1 b2 t3 := fun e => by have := (hh.book.llo t3 (.inr e)).1; have := HT3.out; omega
      obtain ⟨k0, k1⟩ := hh.book.cells
      obtain ⟨y0, y1, y2, y3, y4, y5, y6, -, -⟩ := hoa.turn ht (fun e => by rw [add_block] at e; have h1 := (hh.book.llo _ (.inr e)).1; have h2 : N ≤ a.block := hNa; omega) (fun k hk e => by have h1 := (hh.book.llo _ (.inr e)).1; have h2 : N ≤ k := hk; omega)
      obtain ⟨-, -, f2, f3, f4, f5, f6, f7, f8, -⟩ := ((HX.out.below HB2.out).turn ht htk).lit
      exact ⟨ht.cell k0 hbk, ht.cell k1 hbk, y0, y1, y2, y3, y4, y5, y6, f2, f3, f4, f5, f6, f7, f8⟩)
    have HLI := Lib.hid hil
    have hi0 : (0 : Int) ≤ (i : Int) := by omega
    have hin : (i : Int) < (n : Int) := by have := HN.out; omega
    have hil0 : ¬ ((i : Int) < 0) := by omega
    have f1 := (HX.out.below HB2.out).lit.2.1
    have HZ := Lib.hid hz
    have HSC := Lib.hid (And.intro hS hC)
    have HP := Lib.hid hp
    have HYI := Lib.hid hy
    have HZV := Lib.hid hzv
    clear hh hok' hz hS hC hp hy hyi hzv hil hfy hoa
    have hk := HKK.out
    have ek : (x.kind == 2) = false := by simpa using hk
    clear hk
    go_upto_region 13 with fail
    clear k0 k1 f1 f2 f3 f4 f5 f6 f7 f8
    have hz0 : z = 0 := by rw [← HZ.out]; exact HZV.out
    subst hz0
    go_cut [7] (fun v wx => v = .int .i64 0 ∧ IsLed wx g b1 b2 (m + 180000000000) S' C' ∧ Turn (mapB b1 b2) w2 wx)
    case first =>
      go_region_held3 (fun w' => w'.cell? ⟨bb, 0, none⟩ = some (.pointer (some ⟨g, 0, none⟩)) ∧ w'.cell? ⟨bb, 1, none⟩ = some (.slice (some a) n c) ∧ w'.cell? (a.add (i * 7)) = some (.string y.path) ∧ w'.cell? ⟨(a.add (i * 7)).block, (a.add (i * 7)).off + 1, none⟩ = some (.string y.name) ∧ w'.cell? ⟨(a.add (i * 7)).block, (a.add (i * 7)).off + 2, none⟩ = some (.slice L1 y.ls.length m1) ∧ w'.cell? ⟨(a.add (i * 7)).block, (a.add (i * 7)).off + 3, none⟩ = some (.int .i64 y.prio) ∧ w'.cell? ⟨(a.add (i * 7)).block, (a.add (i * 7)).off + 4, none⟩ = some (.int .i64 y.dl) ∧ w'.cell? ⟨(a.add (i * 7)).block, (a.add (i * 7)).off + 5, none⟩ = some (.slice B1 y.parts.length e1) ∧ w'.cell? ⟨(a.add (i * 7)).block, (a.add (i * 7)).off + 6, none⟩ = some (.int .i64 y.ver) ∧ w'.cell? ⟨t3, 2, none⟩ = some (.string x.o.path) ∧ w'.cell? ⟨t3, 3, none⟩ = some (.string x.o.name) ∧ w'.cell? ⟨t3, 4, none⟩ = some (.slice d.L x.o.ls.length d.m) ∧ w'.cell? ⟨t3, 5, none⟩ = some (.int .i64 x.o.prio) ∧ w'.cell? ⟨t3, 6, none⟩ = some (.int .i64 x.o.dl) ∧ w'.cell? ⟨t3, 7, none⟩ = some (.slice d.B x.o.parts.length d.c) ∧ w'.cell? ⟨t3, 8, none⟩ = some (.int .i64 x.o.ver)) (exact HST.out _ (by repeat (first | exact HM4.out | exact HM33.out | exact HM3.out | exact Turn.refl _ _ | refine Turn.drew ?_))) (first
        | (go_at_call 10; refine (HOW1.out _ (by repeat (first | exact Below.refl _ _ | refine Below.drew ?_))).mono ?_; rintro e w3 ⟨L3, m3, B3, e3, rfl, hr3, hb3⟩; have HR3 := Lib.hid ((kObj_parts hr3).1.mono fun k hk => show w2.heap.size ≤ k from by have h1 := hk.1; first | exact h1 | simpa using h1); have HB3 := Lib.hid (show Below w2.heap.size w2 w3 from BJp hb3 (by repeat (first | exact Below.refl _ _ | refine Below.drew ?_))); have HM3 := Lib.hid (Turn.of_below (S := mapB b1 b2) HB3.out); clear hr3 hb3; clear HOW1)
        | (go_at_call 10; refine (HOW2.out _ (by repeat (first | exact HB3.out | refine Below.drew ?_))).mono ?_; rintro e w33 ⟨L4, m4, B4, e4, rfl, hr4, hb4⟩; have HR4 := Lib.hid ((kObj_parts hr4).1.mono fun k hk => show N ≤ k from by have h1 := hk.1; have h2 := HB3.out.size; have h3 := HH2.out.low; first | omega | (simp at h1; omega)); have HB33 := Lib.hid (show Below w3.heap.size w3 w33 from BJp hb4 (by repeat (first | exact Below.refl _ _ | refine Below.drew ?_))); have HB4 := Lib.hid (show Below w2.heap.size w2 w33 from HB3.out.trans (HB33.out.mono HB3.out.size)); have HR33 := Lib.hid (HR3.out.below HB33.out); have HM33 := Lib.hid (Turn.of_below (S := mapB b1 b2) HB4.out); clear hr4 hb4; clear HOW2)
        | (go_at_call 24; refine (HCH.out _ _ _ _ _ _ _ _ _ _ _ (HR33.out.below (by repeat (first | exact Below.refl _ _ | refine Below.drew ?_))) (HR4.out.below (by repeat (first | exact Below.refl _ _ | refine Below.drew ?_))) (by exact fun j hj => hj) (by repeat (first | exact HB4.out | refine Below.drew ?_))).mono ?_; rintro e w4 ⟨rfl, hl4, ht4⟩; have HL4 := Lib.hid hl4; have HM4 := Lib.hid (show Turn (mapB b1 b2) w2 w4 from TJ ht4 (by repeat (first | exact HM33.out | refine Turn.drew ?_)) (fun i hi => hi)); clear hl4 ht4))
      all_goals (go_wp2_with fail; go_meet; exact ⟨rfl, HL4.out, HM4.out⟩)
    case rest =>
      obtain ⟨rfl, hl5, hm5⟩ := hcut
      rename World => w5
      have HM5 := Lib.hid hm5
      have HBK := Lib.hid (HH2.out.book.led' hm5 hl5 HOK'.out)
      have HTW := Lib.hid ((Turn.of_below HW2.out).trans (HM5.out.mono (S' := fun i => bookT bb b1 b2 (some a) n c i ∨ w.heap.size ≤ i) fun i _ hi => .inl (.inr (.inl hi))))
      have HV := Lib.hid (show stepV S C held x = (true, S', C', held.set i x.o) from by unfold stepV; rw [HP.out]; simp only; rw [HYI.out]; simp only; rw [if_neg HKK.out, if_pos HZV.out, HSC.out.1, HSC.out.2])
      obtain ⟨q, cur, hq, hcur⟩ := HBK.out.list.own.head
      have HAQ := Lib.hid hq
      have HX5 := Lib.hid ((HX.out.below HB2.out).turn HM5.out fun e => by have := (HH2.out.book.llo t3 (.inr e)).1; have := HT3.out; omega)
      have HH5 := Lib.hid (show ObjFit w5 (x.o.at_ d.L d.m) d.B x.o.ls from by
        have h1 := HH2.out
        have hfar : ∀ i, P i → ¬ mapB b1 b2 i := fun i hi e => (h1.far i hi).2.2 (.inr e)
        exact ⟨(h1.par.turn HM5.out hfar).mono fun _ _ => trivial, ⟨d.L, d.m, rfl, (h1.lab.turn HM5.out hfar).mono fun _ _ => trivial⟩, h1.fit.n64, h1.fit.n24, h1.fit.n32⟩)
      have HO5 := Lib.hid (fun W (hb : Below w5.heap.size w5 W) => own_objM x.o d.L d.m d.B d.c W ⟨HH5.out.row.below hb, let ⟨L, m, e, h⟩ := HH5.out.lab; ⟨L, m, e, h.below hb⟩, HH5.out.n64, HH5.out.n24, HH5.out.n32⟩)
      have HNW := Lib.hid (show N ≤ w5.heap.size from Nat.le_trans HH2.out.low HM5.out.size)
      have HA5 := Lib.hid (show ∃ L1 m1 B1 e1, ObjMAt (fun k => N ≤ k) w5 (a.add (i * 7)) held[i] L1 m1 B1 e1 from by
        obtain ⟨a', L1, m1, B1, e1, hA, -, ho⟩ := obj_at HBK.out.list.row.2.1 i HLI.out
        cases hA
        exact ⟨_, _, _, _, ho⟩)
      obtain ⟨L9, m9, B9, e9, hoa9⟩ := HA5.out
      have hAQ : a.add (i * 7) = ⟨q, i * 7, none⟩ := by rw [HAQ.out, add_new]
      have HS5 := Lib.hid (show ∀ w, Below w5.heap.size w5 w → (w.cell? ⟨bb, 0, none⟩ = some (.pointer (some ⟨g, 0, none⟩)) ∧ w.cell? ⟨bb, 1, none⟩ = some (.slice (some a) n c) ∧ w.cell? ⟨t3, 2, none⟩ = some (.string x.o.path) ∧ w.cell? ⟨t3, 3, none⟩ = some (.string x.o.name) ∧ w.cell? ⟨t3, 4, none⟩ = some (.slice d.L x.o.ls.length d.m) ∧ w.cell? ⟨t3, 5, none⟩ = some (.int .i64 x.o.prio) ∧ w.cell? ⟨t3, 6, none⟩ = some (.int .i64 x.o.dl) ∧ w.cell? ⟨t3, 7, none⟩ = some (.slice d.B x.o.parts.length d.c) ∧ w.cell? ⟨t3, 8, none⟩ = some (.int .i64 x.o.ver) ∧ w.cell? ⟨q, i * 7, none⟩ = some (.string held[i].path) ∧ w.cell? ⟨q, i * 7 + 1, none⟩ = some (.string held[i].name) ∧ w.cell? ⟨q, i * 7 + 2, none⟩ = some (.slice L9 held[i].ls.length m9) ∧ w.cell? ⟨q, i * 7 + 3, none⟩ = some (.int .i64 held[i].prio) ∧ w.cell? ⟨q, i * 7 + 4, none⟩ = some (.int .i64 held[i].dl) ∧ w.cell? ⟨q, i * 7 + 5, none⟩ = some (.slice B9 held[i].parts.length e9) ∧ w.cell? ⟨q, i * 7 + 6, none⟩ = some (.int .i64 held[i].ver) ∧ w.frozen? ⟨q, i * 7, none⟩ = false ∧ w.frozen? ⟨q, i * 7 + 1, none⟩ = false ∧ w.frozen? ⟨q, i * 7 + 2, none⟩ = false ∧ w.frozen? ⟨q, i * 7 + 3, none⟩ = false ∧ w.frozen? ⟨q, i * 7 + 4, none⟩ = false ∧ w.frozen? ⟨q, i * 7 + 5, none⟩ = false ∧ w.frozen? ⟨q, i * 7 + 6, none⟩ = false) from fun w hb => by
        obtain ⟨k0, k1⟩ := (HBK.out.below hb).cells
        obtain ⟨-, -, f2, f3, f4, f5, f6, f7, f8, -⟩ := (HX5.out.below hb).lit
        obtain ⟨y0, y1, y2, y3, y4, y5, y6, -, -⟩ := hoa9.below hb
        rw [hAQ] at y0 y1 y2 y3 y4 y5 y6
        have hw : w.heap[q]? = some (.cells cur 26 (0, 0)) := (hb.block q (Array.getElem?_eq_some_iff.1 hcur).1).trans hcur
        refine ⟨k0, k1, f2, f3, f4, f5, f6, f7, f8, y0, y1, y2, y3, y4, y5, y6, ?_, ?_, ?_, ?_, ?_, ?_, ?_⟩ <;> exact frozen_of_row _ _ _ _ _ hw)
      clear hl5 hm5 hq hcur hoa9
      go_upto_region 15 with fail
      obtain ⟨k0, k1, f2, f3, f4, f5, f6, f7, f8, y0, y1, y2, y3, y4, y5, y6, z0, z1, z2, z3, z4, z5, z6⟩ := HS5.out _ (Below.refl _ _)
      go_region_law? (first
        | (go_simp; go_at_call 10; refine (HO5.out _ (by repeat (first | exact Below.refl _ _ | refine Below.drew ?_))).mono ?_; rintro e w6 ⟨L6, m6, B6, e6, rfl, hr6, hb6⟩
           have HR6 := Lib.hid hr6
           have HB6 := Lib.hid (show Below w5.heap.size w5 w6 from BJp hb6 (by repeat (first | exact Below.refl _ _ | refine Below.drew ?_)))
           clear k0 k1 f2 f3 f4 f5 f6 f7 f8 y0 y1 y2 y3 y4 y5 y6 z0 z1 z2 z3 z4 z5 z6
           obtain ⟨k0, k1, f2, f3, f4, f5, f6, f7, f8, y0, y1, y2, y3, y4, y5, y6, z0, z1, z2, z3, z4, z5, z6⟩ := HS5.out w6 HB6.out
           clear hr6 hb6))
      all_goals
        have HE := Lib.hid (show ((((((w6.setCell ⟨q, i * 7, none⟩ (.string x.o.path)).setCell ⟨q, i * 7 + 1, none⟩ (.string x.o.name)).setCell ⟨q, i * 7 + 2, none⟩ (.slice L6 x.o.ls.length m6)).setCell ⟨q, i * 7 + 3, none⟩ (.int .i64 x.o.prio)).setCell ⟨q, i * 7 + 4, none⟩ (.int .i64 x.o.dl)).setCell ⟨q, i * 7 + 5, none⟩ (.slice B6 x.o.parts.length e6)).setCell ⟨q, i * 7 + 6, none⟩ (.int .i64 x.o.ver) = w6.setCells q (i * 7) [.string x.o.path, .string x.o.name, .slice L6 x.o.ls.length m6, .int .i64 x.o.prio, .int .i64 x.o.dl, .slice B6 x.o.parts.length e6, .int .i64 x.o.ver] from rfl)
        have HBQ := Lib.hid (show IsBook w5 N bb g b1 b2 _ (some ⟨q, 0, none⟩) n c R S' C' held from HAQ.out ▸ HBK.out)
        have HP9 := Lib.hid (HBQ.out.set HB6.out i HLI.out x.o _ HR6.out (fun j hj => ⟨by have h1 := hj.1; first | exact h1 | (simp at h1; exact h1), hj.2⟩) HH2.out.fit HNW.out)
        have HSZ := Lib.hid (show w.heap.size ≤ w5.heap.size from Nat.le_trans HW2.out.size HM5.out.size)
        clear k0 k1 f2 f3 f4 f5 f6 f7 f8 y0 y1 y2 y3 y4 y5 y6 z0 z1 z2 z3 z4 z5 z6 hAQ
        go_wp2_with fail
        go_ret
        rw [HV.out]
        rw [HE.out]
        refine ⟨rfl, ⟨some ⟨q, 0, none⟩, n, c, _, HP9.out.1.mono (by omega), fun k hk => .inl (by rw [HAQ.out]; exact hk), fun k hk => ?_⟩, HTW.out.trans (HP9.out.2.mono fun i _ hi => .inl (.inr (.inr (by rw [HAQ.out, hi]; rfl))))⟩
        rcases hk with hk | hk
        · exact .inl hk
        · have h1 := hk.1
          have h2 := HSZ.out
          exact .inr (.inr (by first | omega | (simp at h1; omega)))
theorem step_any {w : World} {x : OpM} {d : OpAd} {P R : Nat → Prop} {N bb g b1 b2 m n c : Nat} {A : Option Addr} {S : Pl → Int} {C : ByteArray → Int} {held : List ObjM} (h : StepIn w x d P N bb g b1 b2 m A n c R S C held) :
    Calls Tryz.prog 23 #[.pointer (some ⟨bb, 0, none⟩), .agg #[.bool x.two, .int .i64 x.kind, .string x.o.path, .string x.o.name, .slice d.L x.o.ls.length d.m, .int .i64 x.o.prio, .int .i64 x.o.dl, .slice d.B x.o.parts.length d.c, .int .i64 x.o.ver, .string x.p.path, .string x.p.name, .slice d.L' x.p.ls.length d.m', .int .i64 x.p.prio, .int .i64 x.p.dl, .slice d.B' x.p.parts.length d.c', .int .i64 x.p.ver, .int .i64 x.s.kind, .int .i64 x.s.arg, .string x.r]] w (StepPost N bb g b1 b2 m A n c R (stepV S C held x) w) := by
  cases hp : placeO held x.o.path x.o.name with
  | none =>
    by_cases hf : held.length < 40
    · by_cases hz : (chargeV S C x.o.v).1 = 0
      · exact step_a h hp hf hz
      · exact step_b h hp hf hz
    · exact step_c h hp hf
  | some i =>
    have hy : held[i]? = some (held[i]'(placeO_lt hp)) := List.getElem?_eq_getElem _
    by_cases hk : x.kind = 2
    · by_cases hz : (releaseV S C (held[i]'(placeO_lt hp)).v).1 = 0
      · exact step_d h i _ hp hy hk hz
      · exact step_e h i _ hp hy hk hz
    · by_cases hz : (changeV S C (held[i]'(placeO_lt hp)).v x.o.v).1 = 0
      · exact step_f h i _ hp hy hk hz
      · exact step_g h i _ hp hy hk hz
end Go.Proofs.YtalkdddeiebfmaaGreatDoor
