/- A step of the book: one more way (printed by mkstep.py). -/
import Derived.Test.YtalkdddeiebfmaaGreatDoorJ63
import Derived.Deep.MidRow
namespace Go.Proofs.YtalkdddeiebfmaaGreatDoor
open Go.RowKit
set_option maxRecDepth 100000 in
set_option maxHeartbeats 2000000 in
theorem step_d {w : World} {x : OpM} {d : OpAd} {P R : Nat → Prop} {N bb g b1 b2 m n c : Nat} {A : Option Addr} {S : Pl → Int} {C : ByteArray → Int} {held : List ObjM} (h : StepIn w x d P N bb g b1 b2 m A n c R S C held) (i : Nat) (y : ObjM) (hp : placeO held x.o.path x.o.name = some i) (hy : held[i]? = some y) (hk : x.kind = 2) (hzv : (releaseV S C y.v).1 = 0) :
    Calls Tryz.prog 23 #[.pointer (some ⟨bb, 0, none⟩), .agg #[.bool x.two, .int .i64 x.kind, .string x.o.path, .string x.o.name, .slice d.L x.o.ls.length d.m, .int .i64 x.o.prio, .int .i64 x.o.dl, .slice d.B x.o.parts.length d.c, .int .i64 x.o.ver, .string x.p.path, .string x.p.name, .slice d.L' x.p.ls.length d.m', .int .i64 x.p.prio, .int .i64 x.p.dl, .slice d.B' x.p.parts.length d.c', .int .i64 x.p.ver, .int .i64 x.s.kind, .int .i64 x.s.arg, .string x.r]] w (StepPost N bb g b1 b2 m A n c R (stepV S C held x) w) := by
  have hb0 : Below w.heap.size w (w.alloc (.cells #[.bool x.two, .int .i64 x.kind, .string x.o.path, .string x.o.name, .slice d.L x.o.ls.length d.m, .int .i64 x.o.prio, .int .i64 x.o.dl, .slice d.B x.o.parts.length d.c, .int .i64 x.o.ver, .string x.p.path, .string x.p.name, .slice d.L' x.p.ls.length d.m', .int .i64 x.p.prio, .int .i64 x.p.dl, .slice d.B' x.p.parts.length d.c', .int .i64 x.p.ver, .int .i64 x.s.kind, .int .i64 x.s.arg, .string x.r] 58)) := (Below.refl _ _).alloc (Nat.le_refl _) _
  have hx := OpBox.mk (heap_alloc_new w (.cells #[.bool x.two, .int .i64 x.kind, .string x.o.path, .string x.o.name, .slice d.L x.o.ls.length d.m, .int .i64 x.o.prio, .int .i64 x.o.dl, .slice d.B x.o.parts.length d.c, .int .i64 x.o.ver, .string x.p.path, .string x.p.name, .slice d.L' x.p.ls.length d.m', .int .i64 x.p.prio, .int .i64 x.p.dl, .slice d.B' x.p.parts.length d.c', .int .i64 x.p.ver, .int .i64 x.s.kind, .int .i64 x.s.arg, .string x.r] 58))
  obtain ⟨w0, hw0⟩ : ∃ w0, w.alloc (.cells #[.bool x.two, .int .i64 x.kind, .string x.o.path, .string x.o.name, .slice d.L x.o.ls.length d.m, .int .i64 x.o.prio, .int .i64 x.o.dl, .slice d.B x.o.parts.length d.c, .int .i64 x.o.ver, .string x.p.path, .string x.p.name, .slice d.L' x.p.ls.length d.m', .int .i64 x.p.prio, .int .i64 x.p.dl, .slice d.B' x.p.parts.length d.c', .int .i64 x.p.ver, .int .i64 x.s.kind, .int .i64 x.s.arg, .string x.r] 58) = w0 := ⟨_, rfl⟩
  rw [hw0] at hb0 hx
  have HB0 := Lib.hid hb0
  have HX := Lib.hid hx
  obtain ⟨t3, ht3⟩ : ∃ t, w.heap.size = t := ⟨_, rfl⟩
  have HNO := Lib.hid (show (Value.slice A n c).ownBlock ≠ some t3 from fun e => by have := (h.book.list.own.block_lt _ e).2; omega)
  have HT3 := Lib.hid (show N ≤ t3 from by rw [← ht3]; exact h.low)
  have HLT := Lib.hid (show t3 < w0.heap.size from by rw [← ht3]; exact (Array.getElem?_eq_some_iff.1 hx.blk).1)
  have h := h.below hb0
  have HH := Lib.hid h
  have HY := Lib.hid (show placeZ held x.o.path x.o.name = (i : Int) from by unfold placeZ; rw [hp])
  have HN := Lib.hid h.book.hn
  have hlen := h.book.len
  rw [← HN.out] at hlen
  have HPL := Lib.hid (fun W (hb : Below w0.heap.size w0 W) => (show Calls Tryz.prog 50 #[.slice A n c, .agg #[.string x.o.path, .string x.o.name, .slice d.L x.o.ls.length d.m, .int .i64 x.o.prio, .int .i64 x.o.dl, .slice d.B x.o.parts.length d.c, .int .i64 x.o.ver]] W (fun e w' => e = .returned (.int .i64 (placeZ held x.o.path x.o.name)) ∧ Below W.heap.size W w') from
    place_any held n HN.out.symm A c _ x.o d.L x.o.ls.length d.m d.B x.o.parts.length d.c W (h.book.below hb).list.row.2.1 (by omega)))
  have HRW := Lib.hid (show ∀ W, Below w0.heap.size w0 W → Calls Tryz.prog 14 #[.pointer (some ⟨g, 0, none⟩)] W _ from fun W hb => lrows_any W (h.ml.below hb) (h.book.led.below hb) h.book.ok (by have := h.hm; omega))
  rw [ht3] at hx HX
  have HS := Lib.hid (show ∀ W, Below w0.heap.size w0 W → (W.cell? ⟨bb, 0, none⟩ = some (.pointer (some ⟨g, 0, none⟩)) ∧ W.cell? ⟨bb, 1, none⟩ = some (.slice A n c) ∧ W.cell? ⟨t3, 2, none⟩ = some (.string x.o.path) ∧ W.cell? ⟨t3, 3, none⟩ = some (.string x.o.name) ∧ W.cell? ⟨t3, 4, none⟩ = some (.slice d.L x.o.ls.length d.m) ∧ W.cell? ⟨t3, 5, none⟩ = some (.int .i64 x.o.prio) ∧ W.cell? ⟨t3, 6, none⟩ = some (.int .i64 x.o.dl) ∧ W.cell? ⟨t3, 7, none⟩ = some (.slice d.B x.o.parts.length d.c) ∧ W.cell? ⟨t3, 8, none⟩ = some (.int .i64 x.o.ver)) from fun W hb => by
    obtain ⟨k0, k1⟩ := (h.book.below hb).cells
    obtain ⟨-, -, f2, f3, f4, f5, f6, f7, f8, -⟩ := (hx.below hb).lit
    exact ⟨k0, k1, f2, f3, f4, f5, f6, f7, f8⟩)
  clear h hb0 hx
  have HKK := Lib.hid hk
  clear hk
  go_enter Tryz.func23, Tryz.ntmps23
  go_upto_region 1 with fail
  go_cut [5] (fun v wx => v = .int .i64 (placeZ held x.o.path x.o.name) ∧ Below w0.heap.size w0 wx)
  case first =>
    go_region_held3 (fun w' => w'.cell? ⟨bb, 0, none⟩ = some (.pointer (some ⟨g, 0, none⟩)) ∧ w'.cell? ⟨bb, 1, none⟩ = some (.slice A n c) ∧ w'.cell? ⟨t3, 2, none⟩ = some (.string x.o.path) ∧ w'.cell? ⟨t3, 3, none⟩ = some (.string x.o.name) ∧ w'.cell? ⟨t3, 4, none⟩ = some (.slice d.L x.o.ls.length d.m) ∧ w'.cell? ⟨t3, 5, none⟩ = some (.int .i64 x.o.prio) ∧ w'.cell? ⟨t3, 6, none⟩ = some (.int .i64 x.o.dl) ∧ w'.cell? ⟨t3, 7, none⟩ = some (.slice d.B x.o.parts.length d.c) ∧ w'.cell? ⟨t3, 8, none⟩ = some (.int .i64 x.o.ver)) (exact HS.out _ (by repeat (first | exact HK1.out | exact Below.refl _ _ | refine Below.drew ?_))) (first
      | (go_at_call 50; refine (HPL.out _ (by repeat (first | exact Below.refl _ _ | refine Below.drew ?_))).mono ?_; rintro e v1 ⟨rfl, hb1⟩; have HK1 := Lib.hid (show Below w0.heap.size w0 v1 from BJp hb1 (by repeat (first | exact Below.refl _ _ | refine Below.drew ?_))); clear hb1))
    all_goals (go_wp2_with fail; go_meet; exact ⟨rfl, HK1.out⟩)
  case rest =>
    obtain ⟨rfl, hb1⟩ := hcut
    rename World => w1
    have HB1 := Lib.hid hb1
    obtain ⟨k0, k1, -⟩ := HS.out _ hb1
    clear hb1
    rw [show placeZ held x.o.path x.o.name = _ from HY.out]
    go_upto_region 3 with (go_at_call 14; refine (HRW.out _ HB1.out).mono ?_; rintro e w2 ⟨A6, c6, R6, rfl, ho6, hr6, hb6⟩; have HR6 := Lib.hid hr6; have HB2 := Lib.hid (HB1.out.trans (hb6.mono HB1.out.size)); have HO6 := Lib.hid (own_from ho6 (Nat.le_trans HT3.out (Nat.le_trans (Nat.le_of_lt HLT.out) HB1.out.size))); have HLE := Lib.hid (show R6.length ≤ 9223372036854775807 by have h1 := ho6.row'.2.2.1; have h2 := ho6.row'.2.2.2; unfold maxLen at h2; omega); clear ho6 hr6 hb6)
    clear k0 k1
    have HSB := Lib.hid (HS.out _ HB2.out)
    have HH2 := Lib.hid (HH.out.below HB2.out)
    have HW2 := Lib.hid (HB0.out.trans (HB2.out.mono HB0.out.size))
    obtain ⟨k0, k1, f2, f3, f4, f5, f6, f7, f8⟩ := HSB.out
    clear HB1 HPL HRW
    obtain ⟨z, hz⟩ : ∃ z, (releaseV S C y.v).1 = z := ⟨_, rfl⟩
    obtain ⟨S', hS⟩ : ∃ S', (releaseV S C y.v).2.1 = S' := ⟨_, rfl⟩
    obtain ⟨C', hC⟩ : ∃ C', (releaseV S C y.v).2.2 = C' := ⟨_, rfl⟩
    have hh := HH2.out
    have hil : i < held.length := placeO_lt hp
    have hyi : held[i] = y := Option.some.inj ((List.getElem?_eq_getElem hil).symm.trans hy)
    have hfy : ObjMFit y := hyi ▸ hh.book.fit _ (List.getElem_mem hil)
    have hok' := (releaseV_ok hh.book.ok hfy.ok.use).mono (show m ≤ m + 60000000000 by omega)
    rw [hS, hC] at hok'
    have HOK' := Lib.hid hok'
    obtain ⟨a, L1, m1, B1, e1, hA, hNa, hoa⟩ := obj_at hh.book.list.row.2.1 i hil
    rw [hyi] at hoa
    subst hA
    have HOW1 := Lib.hid (fun W (hb : Below w2.heap.size w2 W) => own_objM y L1 m1 B1 e1 W ((hoa.below hb).fit hfy))
    have HOW2 := Lib.hid (fun W (hb : Below w2.heap.size w2 W) => own_objM x.o d.L d.m d.B d.c W (hh.below hb).fo)
    have HCH := Lib.hid (fun (L3 : Option Addr) (m3 : Nat) (B3 : Option Addr) (e3 : Nat) (Q : Nat → Prop) W (hr : Row kPart Q W B3 y.parts) (hb : Below w2.heap.size w2 W) => (show Calls Tryz.prog 18 #[.pointer (some ⟨g, 0, none⟩), .agg #[.string y.path, .string y.name, .slice L3 y.ls.length m3, .int .i64 y.prio, .int .i64 y.dl, .slice B3 y.parts.length e3, .int .i64 y.ver]] W (fun e w' => e = .returned (.int .i64 z) ∧ IsLed w' g b1 b2 (m + 60000000000) S' C' ∧ Turn (mapB b1 b2) W w') from by
      have q := release_any (g := g) (b1 := b1) (b2 := b2) (n := m) (S := S) (C := C) y.v m L3 y.ls.length m3 B3 e3 Q W (oarg_row L3 m3 hr hfy.ok (hh.ml.below hb) (hh.tx.below hb)) (hh.book.led.below hb) hh.book.ok (by have := hh.hm; omega) (m + 60000000000) (Nat.le_refl _) (by have := hh.hm; unfold maxLen; omega)
      unfold LedPost at q
      rw [hz, hS, hC] at q
      exact q))
    have HST := Lib.hid (show ∀ W, Turn (mapB b1 b2) w2 W → (W.cell? ⟨bb, 0, none⟩ = some (.pointer (some ⟨g, 0, none⟩)) ∧ W.cell? ⟨bb, 1, none⟩ = some (.slice (some a) n c) ∧ W.cell? (a.add (i * 7)) = some (.string y.path) ∧ W.cell? ⟨(a.add (i * 7)).block, (a.add (i * 7)).off + 1, none⟩ = some (.string y.name) ∧ W.cell? ⟨(a.add (i * 7)).block, (a.add (i * 7)).off + 2, none⟩ = some (.slice L1 y.ls.length m1) ∧ W.cell? ⟨(a.add (i * 7)).block, (a.add (i * 7)).off + 3, none⟩ = some (.int .i64 y.prio) ∧ W.cell? ⟨(a.add (i * 7)).block, (a.add (i * 7)).off + 4, none⟩ = some (.int .i64 y.dl) ∧ W.cell? ⟨(a.add (i * 7)).block, (a.add (i * 7)).off + 5, none⟩ = some (.slice B1 y.parts.length e1) ∧ W.cell? ⟨(a.add (i * 7)).block, (a.add (i * 7)).off + 6, none⟩ = some (.int .i64 y.ver)) from fun W ht => by
      have hbk : ¬ mapB b1 b2 bb := fun e => (hh.book.llo bb (.inr e)).2 rfl
      have htk : ¬ mapB b1 b2 t3 := fun e => by have := (hh.book.llo t3 (.inr e)).1; have := HT3.out; omega
      obtain ⟨k0, k1⟩ := hh.book.cells
      obtain ⟨y0, y1, y2, y3, y4, y5, y6, -, -⟩ := hoa.turn ht (fun e => by rw [add_block] at e; have h1 := (hh.book.llo _ (.inr e)).1; have h2 : N ≤ a.block := hNa; omega) (fun k hk e => by have h1 := (hh.book.llo _ (.inr e)).1; have h2 : N ≤ k := hk; omega)
      obtain ⟨-, -, f2, f3, f4, f5, f6, f7, f8, -⟩ := ((HX.out.below HB2.out).turn ht htk).lit
      exact ⟨ht.cell k0 hbk, ht.cell k1 hbk, y0, y1, y2, y3, y4, y5, y6⟩)
    have HLI := Lib.hid hil
    have hi0 : (0 : Int) ≤ (i : Int) := by omega
    have hin : (i : Int) < (n : Int) := by have := HN.out; omega
    have hil0 : ¬ ((i : Int) < 0) := by omega
    have f1 := (HX.out.below HB2.out).lit.2.1
    have HZ := Lib.hid hz
    have HSC := Lib.hid (And.intro hS hC)
    have HP := Lib.hid hp
    have HYI := Lib.hid hy
    have HZV := Lib.hid hzv
    clear hh hok' hz hS hC hp hy hyi hzv hil hfy hoa
    have hk := HKK.out
    rw [hk] at f1
    clear hk
    go_upto_region 9 with fail
    clear k0 k1 f1 f2 f3 f4 f5 f6 f7 f8
    have hz0 : z = 0 := by rw [← HZ.out]; exact HZV.out
    subst hz0
    go_cut [74] (fun v wx => v = .bool false ∧ IsLed wx g b1 b2 (m + 60000000000) S' C' ∧ Turn (mapB b1 b2) w2 wx)
    case first =>
      go_region_held3 (fun w' => w'.cell? ⟨bb, 0, none⟩ = some (.pointer (some ⟨g, 0, none⟩)) ∧ w'.cell? ⟨bb, 1, none⟩ = some (.slice (some a) n c) ∧ w'.cell? (a.add (i * 7)) = some (.string y.path) ∧ w'.cell? ⟨(a.add (i * 7)).block, (a.add (i * 7)).off + 1, none⟩ = some (.string y.name) ∧ w'.cell? ⟨(a.add (i * 7)).block, (a.add (i * 7)).off + 2, none⟩ = some (.slice L1 y.ls.length m1) ∧ w'.cell? ⟨(a.add (i * 7)).block, (a.add (i * 7)).off + 3, none⟩ = some (.int .i64 y.prio) ∧ w'.cell? ⟨(a.add (i * 7)).block, (a.add (i * 7)).off + 4, none⟩ = some (.int .i64 y.dl) ∧ w'.cell? ⟨(a.add (i * 7)).block, (a.add (i * 7)).off + 5, none⟩ = some (.slice B1 y.parts.length e1) ∧ w'.cell? ⟨(a.add (i * 7)).block, (a.add (i * 7)).off + 6, none⟩ = some (.int .i64 y.ver)) (exact HST.out _ (by repeat (first | exact HM4.out | exact HM3.out | exact Turn.refl _ _ | refine Turn.drew ?_))) (first
        | (go_at_call 10; refine (HOW1.out _ (by repeat (first | exact Below.refl _ _ | refine Below.drew ?_))).mono ?_; rintro e w3 ⟨L3, m3, B3, e3, rfl, hr3, hb3⟩; have HR3 := Lib.hid ((kObj_parts hr3).1.mono fun k hk => show w2.heap.size ≤ k from by have h1 := hk.1; first | exact h1 | simpa using h1); have HB3 := Lib.hid (show Below w2.heap.size w2 w3 from BJp hb3 (by repeat (first | exact Below.refl _ _ | refine Below.drew ?_))); have HM3 := Lib.hid (Turn.of_below (S := mapB b1 b2) HB3.out); clear hr3 hb3; clear HOW1)
        | (go_at_call 18; refine (HCH.out _ _ _ _ _ _ (HR3.out.below (by repeat (first | exact Below.refl _ _ | refine Below.drew ?_))) (by repeat (first | exact HB3.out | refine Below.drew ?_))).mono ?_; rintro e w4 ⟨rfl, hl4, ht4⟩; have HL4 := Lib.hid hl4; have HM4 := Lib.hid (show Turn (mapB b1 b2) w2 w4 from TJ ht4 (by repeat (first | exact HM3.out | refine Turn.drew ?_)) (fun i hi => hi)); clear hl4 ht4))
      all_goals (go_wp2_with fail; go_meet; exact ⟨rfl, HL4.out, HM4.out⟩)
    case rest =>
      obtain ⟨rfl, hl5, hm5⟩ := hcut
      rename World => w5
      have HM5 := Lib.hid hm5
      have HBK := Lib.hid (HH2.out.book.led' hm5 hl5 HOK'.out)
      have HTW := Lib.hid ((Turn.of_below HW2.out).trans (HM5.out.mono (S' := fun i => bookT bb b1 b2 (some a) n c i ∨ w.heap.size ≤ i) fun i _ hi => .inl (.inr (.inl hi))))
      have HV := Lib.hid (show stepV S C held x = (true, S', C', held.take i ++ held.drop (i + 1)) from by unfold stepV; rw [HP.out]; simp only; rw [HYI.out]; simp only; rw [if_pos HKK.out, if_pos HZV.out, HSC.out.1, HSC.out.2])
      have HCP := Lib.hid (HBK.out.list.row.2.2)
      obtain ⟨k0, k1⟩ := HBK.out.cells
      have hic : (i : Int) ≤ (c : Int) := by have := HLI.out; have := HCP.out.1; omega
      have hin1 : (i : Int) + 1 ≤ (n : Int) := by omega
      have hnc : (n : Int) ≤ (c : Int) := by have := HN.out; have := HCP.out.1; omega
      have hw1 : wrap64 ((i : Int) + 1) = (i : Int) + 1 := wrap_id (by omega) (by omega)
      have hw2 : IntKind.i64.wrap ((i : Int) + 1) = (i : Int) + 1 := by rw [IntWalk.i64_left, hw1]
      have hw3 : ((i : Int) + 1).toNat = i + 1 := by omega
      have hw4 : (0 : Int) ≤ (i : Int) + 1 := by omega
      clear hl5 hm5
      go_upto_region 11 with fail
      have HLT7 := Lib.hid (show (held.take i).length = i from by rw [List.length_take]; have := HLI.out; omega)
      have HLD8 := Lib.hid (show n - (i + 1) = (held.drop (i + 1)).length from by rw [List.length_drop, ← HN.out])
      have HLS8 := Lib.hid (show (held.take i ++ held.drop (i + 1)).length = n - 1 from by rw [List.length_append, List.length_take, List.length_drop, ← HN.out]; have := HLI.out; have := HN.out; omega)
      have HRW5 := Lib.hid (show Row kObj (fun k => R k ∨ (Value.slice (some a) n c).ownBlock = some k) w5 (some a) held from by
        obtain ⟨A', c', hv, _, _, hr⟩ := HBK.out.list.own.row
        cases hv
        exact hr)
      have HRT := Lib.hid (HRW5.out.take i)
      have HRD := Lib.hid (show Row kObj (fun k => R k ∨ (Value.slice (some a) n c).ownBlock = some k) w5 (if c = i + 1 then some a else some (a.add ((i + 1) * 7))) (held.drop (i + 1)) from HRW5.out.drop (i + 1) c HCP.out.1)
      have HS1L := Lib.hid (show ∀ k, (R k ∨ (Value.slice (some a) n c).ownBlock = some k) → N ≤ k ∧ k < w5.heap.size from fun k hk => hk.elim (fun hk => ⟨(HBK.out.list.low k hk).1, (HBK.out.list.low k hk).2.1⟩) (fun hk => HBK.out.list.own.block_lt k hk))
      have HNW := Lib.hid (show N ≤ w5.heap.size from Nat.le_trans HH2.out.low HM5.out.size)
      have HFX := Lib.hid HH2.out.book.fit
      have HBB := Lib.hid HBK.out.box
      have hi104 : i * 104 ≤ 140737488355328 := by omega
      have hn104 : (n - 1) * 104 ≤ 140737488355328 := by omega
      go_region_law (first
        | (refine step_appN objElem N (by rfl) (.const (.slice none 0 0)) (.tmp 81) (by rfl) (v := .slice none 0 0) (xs := []) (ys := held.take i) (zs := held.take i) (nz := i) (R := fun _ => False) (S := fun k => R k ∨ (Value.slice (some a) n c).ownBlock = some k) (by rfl) HLT7.out (by rfl) (by exact Own.nil _ _ _ _ _) (by exact fun _ h => h.elim) (by exact fun k _ => by simp [Value.ownBlock]) (by rfl) (by exact HLT7.out.symm) (by exact HRT.out.below (by repeat (first | exact Below.refl _ _ | refine Below.drew ?_))) hi104 (by have := HNW.out; first | omega | (simp; omega)) ?_
           intro A7 c7 w7 happ
           have HA7 := Lib.hid happ.own
           have HT7 := Lib.hid (show ∀ k, (Value.slice A7 i c7).ownBlock = some k → w5.heap.size ≤ k from fun k e => by
             rcases happ.at_ with e1 | e1
             · rw [e1] at e; cases e
             · rw [e1] at e; have := Option.some.inj e; first | omega | (simp at this; omega))
           have HB7 := Lib.hid (show Below w5.heap.size w5 w7 from happ.below (show Below w5.heap.size w5 _ from (by repeat (first | exact Below.refl _ _ | refine Below.drew ?_))) (by first | exact Nat.le_refl _ | simp) (fun k e => by simp [Value.ownBlock] at e))
           obtain ⟨g0, g1⟩ := (HBK.out.below HB7.out).cells
           clear happ)
        | (refine step_appN objElem N (by rfl) (.tmp 82) (.tmp 89) (by rfl) (v := .slice A7 i c7) (xs := held.take i) (ys := held.drop (i + 1)) (zs := held.take i ++ held.drop (i + 1)) (nz := n - 1) (R := fun k => False ∨ (R k ∨ (Value.slice (some a) n c).ownBlock = some k)) (S := fun k => R k ∨ (Value.slice (some a) n c).ownBlock = some k) (by rfl) HLS8.out (by rfl) (by exact HA7.out.below (by repeat (first | exact Below.refl _ _ | refine Below.drew ?_))) (by exact fun k hk e => by have h1 := HT7.out k e; have h2 := HS1L.out k (hk.elim (fun f => f.elim) id); omega) (by exact fun k hk e => by have h1 := HT7.out k e; have h2 := HS1L.out k hk; omega) (by rfl) HLD8.out (by exact HRD.out.below (by repeat (first | exact HB7.out | refine Below.drew ?_))) hn104 (by have := HNW.out; have := HB7.out.size; first | omega | (simp; omega)) ?_
           intro A8 c8 w8 happ
           have HB8 := Lib.hid (show Below w5.heap.size w5 w8 from happ.below (show Below w5.heap.size w5 _ from (by repeat (first | exact HB7.out | refine Below.drew ?_))) (by have := HB7.out.size; first | omega | (simp; omega)) (fun k e => HT7.out k e))
           have HT8 := Lib.hid (show ∀ k, (Value.slice A8 (n - 1) c8).ownBlock = some k → w5.heap.size ≤ k from fun k e => by
             rcases happ.at_ with e1 | e1
             · rw [e1] at e; exact HT7.out k e
             · rw [e1] at e; have := Option.some.inj e; have := HB7.out.size; first | omega | (simp at this; omega))
           have HL8 := Lib.hid (show ListAt kObj 26 N w8 (.slice A8 (n - 1) c8) (held.take i ++ held.drop (i + 1)) _ from ⟨happ.own, fun k hk => by
             have h1 := HS1L.out k (hk.elim (fun h => h.elim (fun f => f.elim) id) id)
             exact ⟨h1.1, Nat.lt_of_lt_of_le h1.2 HB8.out.size, fun e => by have := HT8.out k e; omega⟩⟩)
           have hb8 : w8.heap[bb]? = _ := (HB8.out.block bb (Array.getElem?_eq_some_iff.1 HBB.out).1).trans HBB.out
           have k1 : w8.cell? ⟨bb, 1, none⟩ = some (.slice (some a) n c) := (cell_of_row _ _ _ _ _ _ hb8).trans rfl
           have kf : ∀ j, w8.frozen? ⟨bb, j, none⟩ = false := fun j => frozen_of_row _ _ _ _ _ hb8
           clear happ hb8))
      all_goals
        have HP9 := Lib.hid (HBK.out.put (Turn.of_below HB8.out) HL8.out (fun o ho => by
          rcases List.mem_append.1 ho with ho | ho
          · exact HFX.out o (List.mem_of_mem_take ho)
          · exact HFX.out o (List.mem_of_mem_drop ho)) (by rw [HLS8.out]; omega))
        have HSZ := Lib.hid (show w.heap.size ≤ w5.heap.size from Nat.le_trans HW2.out.size HM5.out.size)
        go_wp2_with fail
        all_goals
          go_ret
          rw [HV.out]
          refine ⟨rfl, ⟨A8, n - 1, c8, _, HP9.out.1, fun k hk => ?_, fun k hk => ?_⟩, HTW.out.trans (HP9.out.2.mono fun i _ hi => .inl (hi.elim .inl (fun h => .inr (.inr h))))⟩
          · have h1 := HT8.out k hk
            have h2 := HSZ.out
            exact .inr (by omega)
          · rcases hk with (hk | hk) | hk
            · exact hk.elim
            · exact hk.elim .inl (fun h => .inr (.inl h))
            · exact hk.elim .inl (fun h => .inr (.inl h))
end Go.Proofs.YtalkdddeiebfmaaGreatDoor
