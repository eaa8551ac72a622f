/- Laid together: X1 X2 X3 X6 X7 X8 X4 X5 Y1 W6. -/
import Derived.Test.YtalkdddeiebfmaaGreatDoorBD
import Derived.Laws.Tables
import Derived.Test.YtalkdddeiebfmaaGreatDoorBA
import Derived.Deep.RegionWith
import Derived.Laws.IdiomStrings
/- fixed: the document's one answer. -/
namespace Go.Proofs.YtalkdddeiebfmaaGreatDoor
open Go.RowKit

def cpuB : ByteArray := ⟨#[99, 112, 117]⟩
def fxReq : List Amt := [⟨cpuB, 5⟩, ⟨cpuB, 6⟩]
def fxParts : List PartV := [⟨⟨#[]⟩, fxReq, []⟩]
def fxObj : ObjV := ⟨⟨#[]⟩, ⟨#[]⟩, .slice none 0 0, 0, 0, fxParts, 0⟩
def fxReqAll : List Amt := [⟨⟨#[99, 111, 117, 110, 116]⟩, 1000⟩, ⟨⟨#[114, 101, 113, 117, 101, 115, 116, 115, 46, 99, 112, 117]⟩, 11⟩]
theorem fx_uses : (usesV fxParts).2 = 0 ∧ (usesV fxParts).1.map amtOf = fxReqAll ∧ (usesV fxParts).1.length = 2 := by
  have h : usesV fxParts = ([(countK, 1000), ([114, 101, 113, 117, 101, 115, 116, 115, 46, 99, 112, 117], 11)], 0) := by decide
  rw [h]
  exact ⟨rfl, rfl, rfl⟩
theorem fx_row (w : World) : Row kPart (fun _ => True) ((w.alloc (.cells #[.string cpuB, .int .i64 5, .string cpuB, .int .i64 6] 45)).alloc (.cells #[.string ⟨#[]⟩, .slice (some ⟨w.heap.size, 0, none⟩) 2 2, .slice none 0 0] 43)) (some ⟨w.heap.size + 1, 0, none⟩) fxParts := by
  have h0 := heap_alloc_new w (.cells #[.string cpuB, .int .i64 5, .string cpuB, .int .i64 6] 45)
  have hs : (w.alloc (.cells #[.string cpuB, .int .i64 5, .string cpuB, .int .i64 6] 45)).heap.size = w.heap.size + 1 := by simp
  have hb := (Below.refl (w.alloc (.cells #[.string cpuB, .int .i64 5, .string cpuB, .int .i64 6] 45)).heap.size _).alloc (Nat.le_refl _) (.cells #[.string ⟨#[]⟩, .slice (some ⟨w.heap.size, 0, none⟩) 2 2, .slice none 0 0] 43)
  have hreq : Row kAmt (fun _ => True) (w.alloc (.cells #[.string cpuB, .int .i64 5, .string cpuB, .int .i64 6] 45)) (some ⟨w.heap.size, 0, none⟩) fxReq := fun _ =>
    ⟨_, rfl, trivial, [.string cpuB, .int .i64 5, .string cpuB, .int .i64 6], ⟨rfl, fun i hi => by
      match i, hi with
      | 0, _ => rfl
      | 1, _ => rfl⟩, fun j u hu => by rw [add_new, cell_of_row _ _ _ _ _ _ h0]; simpa using hu⟩
  have h1 := heap_alloc_new (w.alloc (.cells #[.string cpuB, .int .i64 5, .string cpuB, .int .i64 6] 45)) (.cells #[.string ⟨#[]⟩, .slice (some ⟨w.heap.size, 0, none⟩) 2 2, .slice none 0 0] 43)
  rw [hs] at h1
  refine fun _ => ⟨_, rfl, trivial, [.string ⟨#[]⟩, .slice (some ⟨w.heap.size, 0, none⟩) 2 2, .slice none 0 0], Flat.single ?_, fun j u hu => by rw [add_new, cell_of_row _ _ _ _ _ _ h1]; simpa using hu⟩
  exact ⟨[.string ⟨#[]⟩], [.slice (some ⟨w.heap.size, 0, none⟩) 2 2, .slice none 0 0], rfl, rfl, [.slice (some ⟨w.heap.size, 0, none⟩) 2 2], [.slice none 0 0], rfl,
    ⟨_, rfl, _, 2, rfl, by decide, by unfold maxLen; omega, hreq.below hb⟩, ⟨_, rfl, none, 0, rfl, Nat.le_refl _, by unfold maxLen; omega, Row.nil _ _ _ _⟩⟩
theorem fx_names : NamesOk fxParts := by
  intro p hp
  obtain rfl : p = ⟨⟨#[]⟩, fxReq, []⟩ := by simpa [fxParts] using hp
  refine ⟨fun a ha => ?_, fun a ha => by simp at ha⟩
  simp only [fxReq, List.mem_cons, List.not_mem_nil, or_false] at ha
  rcases ha with rfl | rfl <;> exact ⟨by show 3 ≤ _; omega, by simp, by simp⟩
theorem fx_calls (w : World) : Calls Tryz.prog 29 #[.agg #[.string ⟨#[]⟩, .string ⟨#[]⟩, .slice none 0 0, .int .i64 0, .int .i64 0, .slice (some ⟨w.heap.size + 1, 0, none⟩) 1 1, .int .i64 0]]
    ((w.alloc (.cells #[.string cpuB, .int .i64 5, .string cpuB, .int .i64 6] 45)).alloc (.cells #[.string ⟨#[]⟩, .slice (some ⟨w.heap.size, 0, none⟩) 2 2, .slice none 0 0] 43))
    fun e w' => ∃ A c, e = .returned (.tuple #[.slice A 2 c, .int .i64 0]) ∧ Row kAmt (fun _ => True) w' A fxReqAll ∧ Below w.heap.size w w' := by
  have hok : ObjOk ((w.alloc (.cells #[.string cpuB, .int .i64 5, .string cpuB, .int .i64 6] 45)).alloc (.cells #[.string ⟨#[]⟩, .slice (some ⟨w.heap.size, 0, none⟩) 2 2, .slice none 0 0] 43)) fxObj (some ⟨w.heap.size + 1, 0, none⟩) (fun _ => True) :=
    ⟨⟨none, 0, 0, rfl⟩, fx_row w, by decide, by
      intro p hp
      obtain rfl : p = ⟨⟨#[]⟩, fxReq, []⟩ := by simpa [fxObj, fxParts] using hp
      exact ⟨by decide, by decide⟩⟩
  refine (uses_any fxObj _ 1 _ _ hok fx_names (by decide)).mono fun e w' h => ?_
  obtain ⟨A, c, he, hown, hb⟩ := h
  obtain ⟨f1, f2, f3⟩ := fx_uses
  rw [show fxObj.parts = fxParts from rfl] at he hown
  rw [f3, f2] at hown
  rw [f3, f1] at he
  refine ⟨A, c, he, hown.row'.2.1, ?_⟩
  have hb0 : Below w.heap.size w ((w.alloc (.cells #[.string cpuB, .int .i64 5, .string cpuB, .int .i64 6] 45)).alloc (.cells #[.string ⟨#[]⟩, .slice (some ⟨w.heap.size, 0, none⟩) 2 2, .slice none 0 0] 43)) :=
    ((Below.refl _ _).alloc (Nat.le_refl _) _).alloc (by simp) _
  exact hb0.trans (hb.mono hb0.size)
end Go.Proofs.YtalkdddeiebfmaaGreatDoor
/- own: the walk. -/
namespace Go.Proofs.YtalkdddeiebfmaaGreatDoor
open Go.RowKit

theorem Appended.rowAt {α : Type} {d : Kn α} {e base : Nat} {R : Nat → Prop} {w w' : World} {v : Value} {A : Option Addr} {n c : Nat} {zs : List α} (hd : d.Plain) (h : Appended d e base R w w' v (.slice A n c) zs) : Row d (fun k => base ≤ k) w' A zs ∧ n = zs.length ∧ zs.length ≤ c ∧ c ≤ maxLen := by
  have h1 := h.own.plain (Q := fun _ => False) hd
  obtain ⟨A', c', hv, h2, h3, h4⟩ := h1.row
  cases hv
  exact ⟨h4.mono fun k hk => hk.elim (fun f => f.elim) (fun e => (h1.block_lt k e).1), rfl, h2, h3⟩
theorem row_setCell {α : Type} {d : Kn α} {base : Nat} {w : World} {A : Option Addr} {xs : List α} (h : Row d (fun k => base ≤ k) w A xs) {p : Addr} (hp : p.block < base) (u : Value) : Row d (fun k => base ≤ k) (w.setCell p u) A xs :=
  h.keep fun k hk _ => Below.heap_setCell _ _ _ _ (fun e => by subst e; exact Nat.lt_irrefl _ (Nat.lt_of_lt_of_le hp hk))
/-- the copied part's own block -/
structure XAt (w : World) (b : Nat) (v0 v1 v2 : Value) : Prop where
  blk : w.heap[b]? = some (.cells #[v0, v1, v2] 43 (0, 0))
  c0 : w.cell? ⟨b, 0, none⟩ = some v0
  c1 : w.cell? ⟨b, 1, none⟩ = some v1
  c2 : w.cell? ⟨b, 2, none⟩ = some v2
  fz : ∀ j, w.frozen? ⟨b, j, none⟩ = false
theorem XAt.of {w : World} {b : Nat} {v0 v1 v2 : Value} (h : w.heap[b]? = some (.cells #[v0, v1, v2] 43 (0, 0))) : XAt w b v0 v1 v2 :=
  ⟨h, (cell_of_row _ _ _ _ _ _ h).trans rfl, (cell_of_row _ _ _ _ _ _ h).trans rfl, (cell_of_row _ _ _ _ _ _ h).trans rfl, fun j => frozen_of_row _ _ _ _ _ h⟩
theorem XAt.grown {w w' : World} {b : Nat} {v0 v1 v2 : Value} (h : XAt w b v0 v1 v2) (hg : w.grownBy w' none) : XAt w' b v0 v1 v2 :=
  .of ((hg.block b (Array.getElem?_eq_some_iff.1 h.blk).1 (by simp)).trans h.blk)
theorem XAt.set1 {w : World} {b : Nat} {v0 v1 v2 : Value} (h : XAt w b v0 v1 v2) (u : Value) : XAt (w.setCell ⟨b, 1, none⟩ u) b v0 u v2 :=
  .of ((heap_setCell_same _ _ _ _ _ _ h.blk).trans rfl)
theorem XAt.set2 {w : World} {b : Nat} {v0 v1 v2 : Value} (h : XAt w b v0 v1 v2) (u : Value) : XAt (w.setCell ⟨b, 2, none⟩ u) b v0 v1 u :=
  .of ((heap_setCell_same _ _ _ _ _ _ h.blk).trans rfl)
theorem xAt_new (w : World) (v0 v1 v2 : Value) : XAt (w.alloc (.cells #[v0, v1, v2] 43)) w.heap.size v0 v1 v2 := .of (heap_alloc_new _ _)
/-- behind the requests' copy -/
structure Mid1 (w0 w : World) (b : Nat) (x : PartV) (A1 : Option Addr) (c1 : Nat) (v2 : Value) : Prop where
  at_ : XAt w b (.string x.name) (.slice A1 x.req.length c1) v2
  row : Row kAmt (fun k => b + 1 ≤ k) w A1 x.req
  le : x.req.length ≤ c1 ∧ c1 ≤ maxLen
  below : Below b w0 w
/-- behind the limits' copy -/
structure Mid2 (w0 w : World) (b : Nat) (x : PartV) (A1 : Option Addr) (c1 : Nat) (A2 : Option Addr) (c2 : Nat) : Prop extends Mid1 w0 w b x A1 c1 (.slice A2 x.lim.length c2) where
  row2 : Row kAmt (fun k => b + 1 ≤ k) w A2 x.lim
  le2 : x.lim.length ≤ c2 ∧ c2 ≤ maxLen
theorem mid1 {wo w1 : World} {x : PartV} {A1 : Option Addr} {c1 n : Nat} {v1 v2 : Value} (ha : Appended kAmt 45 (wo.heap.size + 1) (fun _ => True) (wo.alloc (.cells #[.string x.name, v1, v2] 43)) w1 (.slice none 0 0) (.slice A1 n c1) x.req) :
    Mid1 wo (w1.setCell ⟨wo.heap.size, 1, none⟩ (.slice A1 n c1)) wo.heap.size x A1 c1 v2 := by
  obtain ⟨h1, rfl, h2, h3⟩ := ha.rowAt kAmt_plain
  have hg : (wo.alloc (.cells #[.string x.name, v1, v2] 43)).grownBy w1 none := ha.grown
  refine ⟨((xAt_new wo _ v1 v2).grown hg).set1 _, row_setCell h1 (Nat.lt_succ_self _) _, ⟨h2, h3⟩, Below.setCell ?_ (Nat.le_refl wo.heap.size) _⟩
  exact (((Below.refl _ _).alloc (Nat.le_refl _) _).grown hg (by simp) (fun j hj => by cases hj))
theorem mid2 {wo wm w2 : World} {x : PartV} {A1 A2 : Option Addr} {c1 c2 n : Nat} {v2 : Value} (h : Mid1 wo wm wo.heap.size x A1 c1 v2) (ha : Appended kAmt 45 (wo.heap.size + 1) (fun _ => True) wm w2 (.slice none 0 0) (.slice A2 n c2) x.lim) :
    Mid2 wo (w2.setCell ⟨wo.heap.size, 2, none⟩ (.slice A2 n c2)) wo.heap.size x A1 c1 A2 c2 := by
  obtain ⟨h1, rfl, h2, h3⟩ := ha.rowAt kAmt_plain
  have hg : wm.grownBy w2 none := ha.grown
  refine ⟨⟨(h.at_.grown hg).set2 _, row_setCell (h.row.keep fun k _ hk => hg.block k hk (by simp)) (Nat.lt_succ_self _) _, h.le, Below.setCell (h.below.grown hg h.below.size (fun j hj => by cases hj)) (Nat.le_refl wo.heap.size) _⟩, row_setCell h1 (Nat.lt_succ_self _) _, ⟨h2, h3⟩⟩
theorem mid_row {wo wm : World} {x : PartV} {A1 A2 : Option Addr} {c1 c2 : Nat} (h : Mid2 wo wm wo.heap.size x A1 c1 A2 c2) :
    Row kPart (fun k => wo.heap.size + 1 ≤ k ∧ k < wm.heap.size + 1) (wm.alloc (.cells #[.string x.name, .slice A1 x.req.length c1, .slice A2 x.lim.length c2] 43)) (some ⟨wm.heap.size, 0, none⟩) [x] := by
  have hsz : wo.heap.size + 1 ≤ wm.heap.size := (Array.getElem?_eq_some_iff.1 h.at_.blk).1
  have hb := (Below.refl wm.heap.size wm).alloc (Nat.le_refl _) (.cells #[.string x.name, .slice A1 x.req.length c1, .slice A2 x.lim.length c2] 43)
  have := Row.newOne (d := kPart) (w := wm) (e := 43) (S := fun k => wo.heap.size + 1 ≤ k ∧ k < wm.heap.size) (cs := [.string x.name, .slice A1 x.req.length c1, .slice A2 x.lim.length c2]) (x := x)
    ⟨[.string x.name], [.slice A1 x.req.length c1, .slice A2 x.lim.length c2], rfl, rfl, [.slice A1 x.req.length c1], [.slice A2 x.lim.length c2], rfl, ⟨_, rfl, A1, c1, rfl, h.le.1, h.le.2, h.row.lt.below hb⟩, ⟨_, rfl, A2, c2, rfl, h.le2.1, h.le2.2, h.row2.lt.below hb⟩⟩
  exact this.mono fun k hk => hk.elim (fun h => ⟨h.1, by omega⟩) (fun e => ⟨by omega, by omega⟩)
/-- an object's own block -/
structure OBox (w : World) (b : Nat) (v0 v1 v2 v3 v4 v5 v6 : Value) : Prop where
  blk : w.heap[b]? = some (.cells #[v0, v1, v2, v3, v4, v5, v6] 26 (0, 0))
  c0 : w.cell? ⟨b, 0, none⟩ = some v0
  c1 : w.cell? ⟨b, 1, none⟩ = some v1
  c2 : w.cell? ⟨b, 2, none⟩ = some v2
  c3 : w.cell? ⟨b, 3, none⟩ = some v3
  c4 : w.cell? ⟨b, 4, none⟩ = some v4
  c5 : w.cell? ⟨b, 5, none⟩ = some v5
  c6 : w.cell? ⟨b, 6, none⟩ = some v6
  fz : ∀ j, w.frozen? ⟨b, j, none⟩ = false
section
variable {w w' : World} {b : Nat} {v0 v1 v2 v3 v4 v5 v6 : Value}
theorem OBox.of (h : w.heap[b]? = some (.cells #[v0, v1, v2, v3, v4, v5, v6] 26 (0, 0))) : OBox w b v0 v1 v2 v3 v4 v5 v6 :=
  ⟨h, (cell_of_row _ _ _ _ _ _ h).trans rfl, (cell_of_row _ _ _ _ _ _ h).trans rfl, (cell_of_row _ _ _ _ _ _ h).trans rfl, (cell_of_row _ _ _ _ _ _ h).trans rfl, (cell_of_row _ _ _ _ _ _ h).trans rfl, (cell_of_row _ _ _ _ _ _ h).trans rfl, (cell_of_row _ _ _ _ _ _ h).trans rfl, fun j => frozen_of_row _ _ _ _ _ h⟩
theorem OBox.below (h : OBox w b v0 v1 v2 v3 v4 v5 v6) (hb : Below w.heap.size w w') : OBox w' b v0 v1 v2 v3 v4 v5 v6 := .of ((hb.block b (Array.getElem?_eq_some_iff.1 h.blk).1).trans h.blk)
theorem OBox.set5 (h : OBox w b v0 v1 v2 v3 v4 v5 v6) (u : Value) : OBox (w.setCell ⟨b, 5, none⟩ u) b v0 v1 v2 v3 v4 u v6 := .of ((heap_setCell_same _ _ _ _ _ _ h.blk).trans rfl)
theorem OBox.set2 (h : OBox w b v0 v1 v2 v3 v4 v5 v6) (u : Value) : OBox (w.setCell ⟨b, 2, none⟩ u) b v0 v1 u v3 v4 v5 v6 := .of ((heap_setCell_same _ _ _ _ _ _ h.blk).trans rfl)
theorem OBox.setOther (h : OBox w b v0 v1 v2 v3 v4 v5 v6) {p : Addr} (hp : b ≠ p.block) (u : Value) : OBox (w.setCell p u) b v0 v1 v2 v3 v4 v5 v6 := .of ((Below.heap_setCell _ _ _ _ hp).trans h.blk)
end
theorem PartsAt.move {base : Nat} {w w' : World} {lv : Value} {L : List PartV} {R : Nat → Prop} (h : PartsAt base w lv L R) (hs : w.heap.size ≤ w'.heap.size) (hm : ∀ k, base ≤ k → k < w.heap.size → w'.heap[k]? = w.heap[k]?) : PartsAt base w' lv L R :=
  ⟨h.own.move fun k hk hl => hm k (hk.elim (fun e => (h.own.block_lt k e).1) (fun r => (h.low k r).1)) hl, fun k hk => ⟨(h.low k hk).1, Nat.lt_of_lt_of_le (h.low k hk).2.1 hs, (h.low k hk).2.2⟩⟩
theorem PartsAt.lower {base base' : Nat} {w : World} {lv : Value} {L : List PartV} {R : Nat → Prop} (h : PartsAt base w lv L R) (hb : base' ≤ base) : PartsAt base' w lv L R :=
  ⟨h.own.lower hb, fun k hk => ⟨Nat.le_trans hb (h.low k hk).1, (h.low k hk).2⟩⟩
theorem below_setRow {B g : Nat} {w w' : World} (h : Below B w w') (hg : B ≤ g) (cs : Array Value) : Below B w (w'.setRow g cs) :=
  ⟨h.os, h.tape, h.output, by simp only [size_setRow]; exact h.size, fun k hk => (setRow_other _ _ _ _ (by omega)).trans (h.block k hk)⟩
/-- the end of own: the box turned, the lists of the call's own -/
structure OwnEnd (w w0 wx : World) (o : ObjV) (ls : List LabV) (lab pv : Value) (R : Nat → Prop) : Prop where
  box : OBox wx w.heap.size (.string o.path) (.string o.name) lab (.int .i64 o.prio) (.int .i64 o.dl) pv (.int .i64 o.ver)
  res : OBox wx (w.heap.size + 1) (.string ⟨#[]⟩) (.string ⟨#[]⟩) (.slice none 0 0) (.int .i64 0) (.int .i64 0) (.slice none 0 0) (.int .i64 0)
  parts : PartsAt w0.heap.size wx pv o.parts R
  below : Below w.heap.size w wx
  size : w0.heap.size ≤ wx.heap.size
theorem own_end1 {w w0 wo : World} {o : ObjV} {ls : List LabV} {lab old pv : Value} {R : Nat → Prop} (hs : w0.heap.size = w.heap.size + 2) (h0 : Below w.heap.size w w0)
    (hb : OBox w0 w.heap.size (.string o.path) (.string o.name) lab (.int .i64 o.prio) (.int .i64 o.dl) old (.int .i64 o.ver))
    (hr : OBox w0 (w.heap.size + 1) (.string ⟨#[]⟩) (.string ⟨#[]⟩) (.slice none 0 0) (.int .i64 0) (.int .i64 0) (.slice none 0 0) (.int .i64 0))
    (hp : PartsAt w0.heap.size wo pv o.parts R) (hbr : Below w0.heap.size w0 wo) : OwnEnd w w0 (wo.setCell ⟨w.heap.size, 5, none⟩ pv) o ls lab pv R :=
  ⟨(hb.below hbr).set5 pv, (hr.below hbr).setOther (by show w.heap.size + 1 ≠ w.heap.size; omega) _, hp.move (by simp [World.setCell]) (fun k hk _ => Below.heap_setCell _ _ _ _ (by show k ≠ w.heap.size; omega)),
    Below.setCell (h0.trans (hbr.mono h0.size)) (Nat.le_refl w.heap.size) _, by have := hbr.size; simp only [World.setCell, Array.size_modify]; exact this⟩
theorem own_end2 {w w0 wx w2 : World} {o : ObjV} {ls : List LabV} {lab pv : Value} {R : Nat → Prop} {A2 : Option Addr} {c2 n : Nat} (hs : w0.heap.size = w.heap.size + 2) (h : OwnEnd w w0 wx o ls lab pv R)
    (ha : Appended kLab 217 w0.heap.size (fun _ => True) wx w2 (.slice none 0 0) (.slice A2 n c2) ls) :
    OwnEnd w w0 (w2.setCell ⟨w.heap.size, 2, none⟩ (.slice A2 n c2)) o ls (.slice A2 ls.length c2) pv R ∧ Row kLab (fun k => w0.heap.size ≤ k) (w2.setCell ⟨w.heap.size, 2, none⟩ (.slice A2 n c2)) A2 ls := by
  obtain ⟨h1, rfl, h2, h3⟩ := ha.rowAt kLab_plain
  have hg : wx.grownBy w2 none := ha.grown
  have hb2 : Below wx.heap.size wx w2 := (Below.refl _ _).grown hg (Nat.le_refl _) (fun j hj => by cases hj)
  have hsz := hb2.size
  refine ⟨⟨(h.box.below hb2).set2 _, (h.res.below hb2).setOther (by show w.heap.size + 1 ≠ w.heap.size; omega) _, (h.parts.below hb2).move (by simp [World.setCell]) (fun k hk _ => Below.heap_setCell _ _ _ _ (by show k ≠ w.heap.size; omega)),
    Below.setCell (h.below.trans (hb2.mono h.below.size)) (Nat.le_refl w.heap.size) _, ?_⟩, row_setCell h1 (by show w.heap.size < _; omega) _⟩
  have := h.size
  simp only [World.setCell, Array.size_modify]; omega
def OwnPost (o : ObjV) (ls : List LabV) (w : World) (e : Ending) (w' : World) : Prop :=
  ∃ (L : Option Addr) (m : Nat) (B : Option Addr) (c : Nat) (R : Nat → Prop), e = .returned (({ o with labels := .slice L ls.length m } : ObjV).val B c) ∧ PartsAt w.heap.size w' (.slice B o.parts.length c) o.parts R ∧ Row kLab (fun k => w.heap.size ≤ k) w' L ls ∧ Below w.heap.size w w'
set_option maxRecDepth 100000 in
set_option maxHeartbeats 1000000 in
theorem own_any (o : ObjV) (A : Option Addr) (c : Nat) (ls : List LabV) (w : World) (h : ObjFit w o A ls) : Calls Tryz.prog 10 #[o.val A c] w (OwnPost o ls w) := by
  obtain ⟨B0, m0, hlab, hlrow⟩ := h.lab
  have hb0 : Below w.heap.size w ((w.alloc (.cells (o.cells A c) 26)).alloc (.cells #[.string ⟨#[]⟩, .string ⟨#[]⟩, .slice none 0 0, .int .i64 0, .int .i64 0, .slice none 0 0, .int .i64 0] 26)) :=
    ((Below.refl _ _).alloc (Nat.le_refl _) _).alloc (by simp) _
  have hbx := heap_alloc2_old w (.cells (o.cells A c) 26) (.cells #[.string ⟨#[]⟩, .string ⟨#[]⟩, .slice none 0 0, .int .i64 0, .int .i64 0, .slice none 0 0, .int .i64 0] 26)
  have hrx := heap_alloc2_new w (.cells (o.cells A c) 26) (.cells #[.string ⟨#[]⟩, .string ⟨#[]⟩, .slice none 0 0, .int .i64 0, .int .i64 0, .slice none 0 0, .int .i64 0] 26)
  have hsz0 : ((w.alloc (.cells (o.cells A c) 26)).alloc (.cells #[.string ⟨#[]⟩, .string ⟨#[]⟩, .slice none 0 0, .int .i64 0, .int .i64 0, .slice none 0 0, .int .i64 0] 26)).heap.size = w.heap.size + 2 := by simp
  have hfit := h.below hb0
  have hlr := hlrow.below hb0
  unfold ObjV.val
  obtain ⟨w0, hw0⟩ : ∃ w0, (w.alloc (.cells (o.cells A c) 26)).alloc (.cells #[.string ⟨#[]⟩, .string ⟨#[]⟩, .slice none 0 0, .int .i64 0, .int .i64 0, .slice none 0 0, .int .i64 0] 26) = w0 := ⟨_, rfl⟩
  rw [hw0] at hb0 hbx hrx hsz0 hfit hlr
  unfold ObjV.cells at hw0 hbx
  rw [hlab] at hw0 hbx ⊢
  have OB := Lib.hid (OBox.of hbx)
  have RB := Lib.hid (OBox.of hrx)
  have HB0 := Lib.hid hb0
  have HS0 := Lib.hid hsz0
  have FIT := Lib.hid hfit
  have LR := Lib.hid hlrow
  have HLAB := Lib.hid hlab
  clear hb0 hbx hrx hsz0 hfit hlr hlab hlrow h
  go_enter Tryz.func10, Tryz.ntmps10
  go_wp2
  clear hw0
  go_loopw [3, 4] (fun lv iv wr => ∃ (k n : Nat) (B : Option Addr) (L : List PartV) (R : Nat → Prop), iv = .int .i64 k ∧ lv = .slice B L.length n ∧ k ≤ o.parts.length ∧ Hid (L = o.parts.take k) ∧ Hid (PartsAt w0.heap.size wr lv L R) ∧ Hid (Below w0.heap.size w0 wr)) (fun _ iv _ => o.parts.length - (intOf iv).toNat)
  case atStart => exact ⟨0, 0, none, [], fun _ => False, rfl, rfl, Nat.zero_le _, rfl, ⟨Own.nil _ _ _ _ _, fun _ h => h.elim⟩, Below.refl _ _⟩
  case round =>
    obtain ⟨k, n, B, L, R, rfl, rfl, hk, HL, hown, hbr⟩ := hrel
    obtain ⟨wo, rfl⟩ : ∃ wo, wo = wr := ⟨_, rfl⟩
    have hsz := hbr.out.size
    obtain ⟨-, -, -, -, -, -, p5, -, -⟩ := OB.out.below hbr.out
    have h64 := FIT.out.n64
    by_cases hlt : k < o.parts.length
    · obtain ⟨a, Rq, M, cr, cm, rfl, hpa⟩ := part_at FIT.out.row k hlt
      have HN24 := Lib.hid (FIT.out.n24 _ (List.getElem_mem hlt))
      have HSTEP := Lib.hid (show L ++ [o.parts[k]] = o.parts.take (k + 1) by rw [List.take_succ_eq_append_getElem hlt, HL.out])
      have HLEN := Lib.hid (show L.length = k by rw [HL.out, List.length_take]; omega)
      obtain ⟨x, hx⟩ : ∃ x, o.parts[k] = x := ⟨_, rfl⟩
      rw [hx] at hpa HN24 HSTEP
      clear hx
      have R1 := Lib.hid (hpa.r1.below hbr.out)
      have R2 := Lib.hid (hpa.r2.below hbr.out)
      have HX1 := Lib.hid ((Below.refl wo.heap.size wo).alloc (Nat.le_refl _) (.cells #[.string x.name, .slice Rq x.req.length cr, .slice M x.lim.length cm] 43))
      have e0 := (hbr.out.cell (World.block_lt_of_cell? _ _ hpa.c0)).trans hpa.c0
      have e1 := (hbr.out.cell (World.block_lt_of_cell? _ _ hpa.c1)).trans hpa.c1
      have e2 := (hbr.out.cell (World.block_lt_of_cell? _ _ hpa.c2)).trans hpa.c2
      clear hpa
      go_upto_region 6 with fail
      go_cut [] (fun wx => ∃ A1 c1, Mid1 wo wx wo.heap.size x A1 c1 (.slice M x.lim.length cm))
      case first =>
        clear p5 e0 e1 e2
        obtain ⟨-, q0, q1, q2, qf⟩ := xAt_new wo (.string x.name) (.slice Rq x.req.length cr) (.slice M x.lim.length cm)
        clear q0 q2
        go_wp2_with (at_builtin; refine wpList_app_plain amtElem kAmt_plain (wo.heap.size + 1) rfl (.const (.slice none 0 0)) (.tmp 19) rfl (v := .slice none 0 0) (xs := []) (ys := x.req) rfl (Own.nil kAmt 45 _ (fun _ => True) _) rfl rfl (R1.out.below HX1.out) (by have := HN24.out.1; simp; omega) (by simp) ?_; intro A1 c1 w1 happ; rw [List.length_nil, Nat.zero_add] at happ ⊢; have HA1 := Lib.hid happ; have z1 := ((xAt_new wo (.string x.name) (.slice Rq x.req.length cr) (.slice M x.lim.length cm)).grown happ.grown).c1; have zf := ((xAt_new wo (.string x.name) (.slice Rq x.req.length cr) (.slice M x.lim.length cm)).grown happ.grown).fz; clear happ)
        go_meet
        exact ⟨A1, c1, mid1 HA1.out⟩
      case rest =>
        clear e0 e1 e2 p5
        obtain ⟨A1, c1, hm1⟩ := hcut
        rename World => wm
        have HM1 := Lib.hid hm1
        clear hm1
        go_upto_region 7 with fail
        go_cut [] (fun wx => ∃ A2 c2, Mid2 wo wx wo.heap.size x A1 c1 A2 c2)
        case first =>
          obtain ⟨-, q0, q1, q2, qf⟩ := HM1.out.at_
          clear q0 q1
          have hszm : wo.heap.size + 1 ≤ wm.heap.size := (Array.getElem?_eq_some_iff.1 HM1.out.at_.blk).1
          go_wp2_with (at_builtin; refine wpList_app_plain amtElem kAmt_plain (wo.heap.size + 1) rfl (.const (.slice none 0 0)) (.tmp 23) rfl (v := .slice none 0 0) (xs := []) (ys := x.lim) rfl (Own.nil kAmt 45 _ (fun _ => True) _) rfl rfl (R2.out.below (HM1.out.below)) (by have := HN24.out.2; simp; omega) (by omega) ?_; intro A2 c2 w2 happ; rw [List.length_nil, Nat.zero_add] at happ ⊢; have HA2 := Lib.hid happ; have z1 := (HM1.out.at_.grown happ.grown).c2; have zf := (HM1.out.at_.grown happ.grown).fz; clear happ)
          go_meet
          exact ⟨A2, c2, mid2 HM1.out HA2.out⟩
        case rest =>
          clear HM1
          obtain ⟨A2, c2, hm2⟩ := hcut
          rename World => wn
          have HM2 := Lib.hid hm2
          obtain ⟨-, q0, q1, q2, -⟩ := hm2.at_
          have hszn : wo.heap.size + 1 ≤ wn.heap.size := (Array.getElem?_eq_some_iff.1 hm2.at_.blk).1
          have h64' : (L.length + 1) * 64 ≤ 140737488355328 := by have := HLEN.out; omega
          have HLO := Lib.hid (show ∀ q, (Value.slice B L.length n).ownBlock = some q → w0.heap.size ≤ q ∧ q < wo.heap.size from hown.out.own.block_lt)
          have HWN := Lib.hid (hm2.below.alloc (Nat.le_trans (Nat.le_succ _) hszn) (.cells #[.string x.name, .slice A1 x.req.length c1, .slice A2 x.lim.length c2] 43))
          clear hm2
          go_wp2_with (at_builtin; refine wpList_app partElem w0.heap.size rfl (.tmp 26) (.tmp 28) rfl (v := .slice B L.length n) (xs := L) (ys := [x]) rfl (hown.out.own.below HWN.out) (fun q hq => (hown.out.low q hq).2.2) (fun q hq e => by have := HLO.out q e; have := hq.1; omega) rfl rfl (mid_row HM2.out) (by exact h64') (by simp; omega) ?_; intro A7 c7 w7 happ; have HA7 := Lib.hid happ; clear happ)
          go_roundw
          case rel =>
            have hl1 : (L ++ [x]).length = L.length + 1 := by rw [List.length_append]; rfl
            exact ⟨k + 1, c7, A7, L ++ [x], _, by go_num, by rw [hl1], hlt, HSTEP.out, (hown.out.below HWN.out).app (fun q hq => ⟨by have := hq.1; omega, by have := hq.2; simp; omega, fun e => by have := HLO.out q e; have := hq.1; omega⟩) HA7.out, HA7.out.below (hbr.out.trans (HWN.out.mono hsz)) (by simp; omega) (fun q hq => (HLO.out q hq).1)⟩
          case measure => simp [intOf]; omega
    · have hge : ¬ ((k : Int) < (o.parts.length : Int)) := by omega
      have hLo : L = o.parts := by rw [HL.out, List.take_of_length_le (by omega)]
      subst hLo
      have HP := Lib.hid hown.out
      have HE1 := Lib.hid (own_end1 (ls := ls) HS0.out HB0.out OB.out RB.out HP.out hbr.out)
      obtain ⟨-, -, -, -, -, -, -, -, pf⟩ := OB.out.below hbr.out
      clear HL hown
      go_upto_region 9 with fail
      go_cut [] (fun wx => OwnEnd w w0 wx o ls (.slice B0 ls.length m0) (.slice B o.parts.length n) R)
      case first =>
        go_wp2_with fail
        go_meet
        exact HE1.out
      case rest =>
        clear p5 pf HE1
        rename World => wm
        have HE := Lib.hid hcut
        have h32 := FIT.out.n32
        clear hcut
        go_upto_region 10 with fail
        go_cut [] (fun wx => ∃ A2 c2, OwnEnd w w0 wx o ls (.slice A2 ls.length c2) (.slice B o.parts.length n) R ∧ Row kLab (fun k => w0.heap.size ≤ k) wx A2 ls)
        case first =>
          obtain ⟨-, -, -, q2, -, -, -, -, qf⟩ := HE.out.box
          go_wp2_with (at_builtin; refine wpList_app_plain labElem kLab_plain w0.heap.size rfl (.const (.slice none 0 0)) (.tmp 33) rfl (v := .slice none 0 0) (xs := []) (ys := ls) rfl (Own.nil kLab 217 _ (fun _ => True) _) rfl rfl (LR.out.below HE.out.below) (by simp; omega) HE.out.size ?_; intro A2 c2 w2 happ; rw [List.length_nil, Nat.zero_add] at happ ⊢; have HA2 := Lib.hid happ; have z2 := (HE.out.box.below ((Below.refl _ _).grown happ.grown (Nat.le_refl _) (fun j hj => by cases hj))).c2; have zf := (HE.out.box.below ((Below.refl _ _).grown happ.grown (Nat.le_refl _) (fun j hj => by cases hj))).fz; clear happ)
          go_meet
          exact ⟨A2, c2, own_end2 HS0.out HE.out HA2.out⟩
        case rest =>
          obtain ⟨A2, c2, he2, hr2⟩ := hcut
          rename World => wn
          have HE2 := Lib.hid he2
          have HR2 := Lib.hid hr2
          obtain ⟨-, q0, q1, q2, q3, q4, q5, q6, -⟩ := he2.box
          clear he2 hr2
          have hone : (#[.string o.path, .string o.name, .slice A2 ls.length c2, .int .i64 o.prio, .int .i64 o.dl, .slice B o.parts.length n, .int .i64 o.ver] : Array Value).all (·.oneCell') = true := by simp [Value.oneCell']
          have hinf : (Tryz.prog.info? 26).map (·.size) = some 7 := by kernel_rfl
          go_wp2_with (refine wpList_store_row rfl 26 (.tmp 2) (.tmp 36) rfl (w.heap.size + 1) #[.string o.path, .string o.name, .slice A2 ls.length c2, .int .i64 o.prio, .int .i64 o.dl, .slice B o.parts.length n, .int .i64 o.ver] rfl rfl _ _ HE2.out.res.blk hinf rfl hone ?_)
          (try simp only [Exit.inBlock, Exit.then])
          refine bodyPost_ret (results_cell_row rfl _ _ (w.heap.size + 1) 26 _ (0, 0) _ rfl (setRow_heap _ _ _ _ _ _ HE2.out.res.blk) Tryz.underlying26 rfl hinf) rfl ?_
          have hs0 := HS0.out
          exact ⟨A2, c2, B, n, R, rfl, (HE2.out.parts.move (by simp) (fun k hk _ => setRow_other _ _ _ _ (by omega))).lower (by omega), (HR2.out.keep fun k hk _ => setRow_other _ _ _ _ (by omega)).mono fun k hk => by omega, below_setRow HE2.out.below (Nat.le_succ _) _⟩
end Go.Proofs.YtalkdddeiebfmaaGreatDoor
/- The scope's functions by their answers, their arguments written out. -/
namespace Go.Proofs.YtalkdddeiebfmaaGreatDoor
open Go.RowKit

/-- the object with other lists -/
def ObjV.re (o : ObjV) (L : Option Addr) (n m : Nat) : ObjV := { o with labels := .slice L n m }
theorem own_val (o : ObjV) (A : Option Addr) (c : Nat) (ls : List LabV) (B0 : Option Addr) (m0 : Nat) (hl : o.labels = .slice B0 ls.length m0) (w : World) (h : ObjFit w o A ls) :
    Calls Tryz.prog 10 #[.agg #[.string o.path, .string o.name, .slice B0 ls.length m0, .int .i64 o.prio, .int .i64 o.dl, .slice A o.parts.length c, .int .i64 o.ver]] w fun e w' =>
      ∃ (L : Option Addr) (m : Nat) (B : Option Addr) (c : Nat), e = .returned (.agg #[.string o.path, .string o.name, .slice L ls.length m, .int .i64 o.prio, .int .i64 o.dl, .slice B o.parts.length c, .int .i64 o.ver]) ∧ ObjFit w' (o.re L ls.length m) B ls ∧ Below w.heap.size w w' := by
  have := own_any o A c ls w h
  unfold ObjV.val at this
  rw [hl] at this
  refine this.mono fun e w' hp => ?_
  obtain ⟨L, m, B, c, R, rfl, hparts, hlr, hb⟩ := hp
  exact ⟨L, m, B, c, rfl, ⟨hparts.row.2.1.mono fun _ _ => trivial, ⟨L, m, rfl, hlr.mono fun _ _ => trivial⟩, h.n64, h.n24, h.n32⟩, hb⟩
theorem in_val (s : ScV) (b : Bool) (o : ObjV) (hb : Hid (inS o.prio o.dl o.parts s = b)) (L : Option Addr) (n m : Nat) (B : Option Addr) (c : Nat) (P : Nat → Prop) (w : World) (ho : ObjOk w (o.re L n m) B P) (ht : TextsAt w) :
    Calls Tryz.prog 28 #[.agg #[.string o.path, .string o.name, .slice L n m, .int .i64 o.prio, .int .i64 o.dl, .slice B o.parts.length c, .int .i64 o.ver], .agg #[.int .i64 s.kind, .int .i64 s.arg]] w fun e w' => e = .returned (.bool b) ∧ Below w.heap.size w w' := by
  have := in_any s (o.re L n m) B c P w ho ht
  rw [show inS (o.re L n m).prio (o.re L n m).dl (o.re L n m).parts s = b from hb.out] at this
  exact this
theorem of_val (o : ObjV) (M : List ScV) (q : Nat) (hM : Hid (ofS o 6 = M)) (hq : M.length = q) (L : Option Addr) (n m : Nat) (B : Option Addr) (c : Nat) (P : Nat → Prop) (w : World) (ho : ObjOk w (o.re L n m) B P) (ht : TextsAt w) :
    Calls Tryz.prog 53 #[.agg #[.string o.path, .string o.name, .slice L n m, .int .i64 o.prio, .int .i64 o.dl, .slice B o.parts.length c, .int .i64 o.ver]] w fun e w' => ∃ A c, e = .returned (.slice A q c) ∧ Row kSc (fun _ => True) w' A M ∧ Below w.heap.size w w' := by
  subst hq
  refine (of_any (o.re L n m) B c P w ho ht).mono fun e w' hp => ?_
  obtain ⟨A, c, he, hown, hb⟩ := hp
  rw [show ofS (o.re L n m) 6 = M from hM.out] at he hown
  exact ⟨A, c, he, hown.row'.2.1, hb⟩
end Go.Proofs.YtalkdddeiebfmaaGreatDoor
/- Amounts and parts that are alike; a row of the call's own that is written to; an append that leaves the old row as it was. -/
namespace Go.Proofs.YtalkdddeiebfmaaGreatDoor
open Go.RowKit

def eqAmtB (x y : Amt) : Bool := x.name.toList == y.name.toList && x.val == y.val
theorem run_eqAmt (x y : Amt) (W : World) : (Op.equalIn 10000 45 (.agg #[.string x.name, .int .i64 x.val]) (.agg #[.string y.name, .int .i64 y.val])).run Tryz.prog W = .ok (eqAmtB x y) W := by
  refine eqf_struct Tryz.underlying45 (by kernel_rfl) ?_
  refine eqf_more (by rfl) (by go_simp; rfl) (by go_simp; rfl) (by go_simp) ?_
  exact eqf_end (by rfl) (by go_simp; rfl) (by go_simp; rfl) (by go_simp)
theorem run_neqAmt (x : Amt) (W : World) : (binOp .neq 45 (.agg #[.string x.name, .int .i64 x.val]) (.agg #[.string x.name, .int .i64 x.val])).run Tryz.prog W = .ok (.bool false) W := by
  rw [run_neq_struct, run_eqAmt, show eqAmtB x x = true by simp [eqAmtB]]; rfl
set_option maxRecDepth 100000 in
theorem sameAmts_val (A B : Option Addr) (n c d : Nat) (P Q : Nat → Prop) (xs : List Amt) (w : World) (hx : Row kAmt P w A xs) (hy : Row kAmt Q w B xs) (hn : xs.length = n) (hlx : n ≤ 9223372036854775807) :
    Calls Tryz.prog 78 #[.slice A n c, .slice B n d] w fun e w' => e = .returned (.bool true) ∧ Below w.heap.size w w' := by
  subst hn
  go_enter Tryz.func78, Tryz.ntmps78
  go_wp2
  go_loopw [5] (fun i wr => ∃ k : Nat, i = .int .i64 k ∧ k ≤ xs.length ∧ Below w.heap.size w wr) (fun i _ => xs.length - (intOf i).toNat)
  case atStart => exact ⟨0, rfl, Nat.zero_le _, Below.refl _ _⟩
  case round =>
    obtain ⟨k, rfl, hk, hbr⟩ := hrel
    by_cases hlt : k < xs.length
    · obtain ⟨a, rfl, -, l0, l1⟩ := amt_at (hx.below hbr) k hlt
      obtain ⟨b, rfl, -, m0, m1⟩ := amt_at (hy.below hbr) k hlt
      have hx1 : (k : Int) < (xs.length : Int) := by omega
      have hk0 : (0 : Int) ≤ (k : Int) := by omega
      have hrun := fun W => run_neqAmt xs[k] W
      go_wp2
      go_quiet (fail)
      go_wp2
      go_roundw
      case rel => exact ⟨k + 1, by go_num, hlt, below_drewN hbr _⟩
      case measure => simp [intOf]; omega
    · have hge : ¬ ((k : Int) < (xs.length : Int)) := by omega
      go_wp2
      go_ret
      exact ⟨rfl, hbr⟩
end Go.Proofs.YtalkdddeiebfmaaGreatDoor
/- Parts that are alike; an append that leaves the old row. -/
namespace Go.Proofs.YtalkdddeiebfmaaGreatDoor
open Go.RowKit


set_option maxRecDepth 100000 in
set_option maxHeartbeats 1000000 in
theorem sameParts_val (o : ObjV) (L1 : Option Addr) (n1 m1 : Nat) (A : Option Addr) (c : Nat) (L2 : Option Addr) (n2 m2 : Nat) (B : Option Addr) (d : Nat) (P Q : Nat → Prop) (w : World) (hx : Row kPart P w A o.parts) (hy : Row kPart Q w B o.parts) (hlen : o.parts.length ≤ 1152921504606846976) (hps : PartsOk o.parts) :
    Calls Tryz.prog 46 #[.agg #[.string o.path, .string o.name, .slice L1 n1 m1, .int .i64 o.prio, .int .i64 o.dl, .slice A o.parts.length c, .int .i64 o.ver], .agg #[.string o.path, .string o.name, .slice L2 n2 m2, .int .i64 o.prio, .int .i64 o.dl, .slice B o.parts.length d, .int .i64 o.ver]] w fun e w' => e = .returned (.bool true) ∧ Below w.heap.size w w' := by
  have hb0 : Below w.heap.size w ((w.alloc (.cells #[.string o.path, .string o.name, .slice L1 n1 m1, .int .i64 o.prio, .int .i64 o.dl, .slice A o.parts.length c, .int .i64 o.ver] 26)).alloc (.cells #[.string o.path, .string o.name, .slice L2 n2 m2, .int .i64 o.prio, .int .i64 o.dl, .slice B o.parts.length d, .int .i64 o.ver] 26)) :=
    ((Below.refl _ _).alloc (Nat.le_refl _) _).alloc (by simp) _
  have hx1 : OBox _ _ _ _ _ _ _ _ _ := .of (heap_alloc2_old w (.cells #[.string o.path, .string o.name, .slice L1 n1 m1, .int .i64 o.prio, .int .i64 o.dl, .slice A o.parts.length c, .int .i64 o.ver] 26) (.cells #[.string o.path, .string o.name, .slice L2 n2 m2, .int .i64 o.prio, .int .i64 o.dl, .slice B o.parts.length d, .int .i64 o.ver] 26))
  have hx2 : OBox _ _ _ _ _ _ _ _ _ := .of (heap_alloc2_new w (.cells #[.string o.path, .string o.name, .slice L1 n1 m1, .int .i64 o.prio, .int .i64 o.dl, .slice A o.parts.length c, .int .i64 o.ver] 26) (.cells #[.string o.path, .string o.name, .slice L2 n2 m2, .int .i64 o.prio, .int .i64 o.dl, .slice B o.parts.length d, .int .i64 o.ver] 26))
  obtain ⟨w0, hw0⟩ : ∃ w0, ((w.alloc (.cells #[.string o.path, .string o.name, .slice L1 n1 m1, .int .i64 o.prio, .int .i64 o.dl, .slice A o.parts.length c, .int .i64 o.ver] 26)).alloc (.cells #[.string o.path, .string o.name, .slice L2 n2 m2, .int .i64 o.prio, .int .i64 o.dl, .slice B o.parts.length d, .int .i64 o.ver] 26)) = w0 := ⟨_, rfl⟩
  rw [hw0] at hb0 hx1 hx2
  have HB0 := Lib.hid hb0
  have X1 := Lib.hid hx1
  have X2 := Lib.hid hx2
  have RX := Lib.hid (hx.below hb0)
  have RY := Lib.hid (hy.below hb0)
  have PS := Lib.hid hps
  have hne : ((o.parts.length : Int) != o.parts.length) = false := by simp
  clear hb0 hx1 hx2 hx hy hps
  go_enter Tryz.func46, Tryz.ntmps46
  go_upto_region 1 with fail
  clear hw0
  obtain ⟨-, -, -, -, -, -, p5, -, -⟩ := X1.out
  obtain ⟨-, -, -, -, -, -, q5, -, -⟩ := X2.out
  go_wp2
  clear p5 q5
  go_loopw [5] (fun i wr => ∃ k : Nat, i = .int .i64 k ∧ k ≤ o.parts.length ∧ Hid (Below w0.heap.size w0 wr)) (fun i _ => o.parts.length - (intOf i).toNat)
  case atStart => exact ⟨0, rfl, Nat.zero_le _, Below.refl _ _⟩
  case round =>
    obtain ⟨k, rfl, hk, hbr⟩ := hrel
    obtain ⟨wo, rfl⟩ : ∃ wo, wo = wr := ⟨_, rfl⟩
    have HBO := Lib.hid (HB0.out.trans (hbr.out.mono HB0.out.size))
    by_cases hlt : k < o.parts.length
    · obtain ⟨a, R1, M1, cr1, cm1, rfl, ha⟩ := part_at (RX.out.below hbr.out) k hlt
      obtain ⟨b, R2, M2, cr2, cm2, rfl, hb⟩ := part_at (RY.out.below hbr.out) k hlt
      have hpx := PS.out _ (List.getElem_mem hlt)
      obtain ⟨x, hx⟩ : ∃ x, o.parts[k] = x := ⟨_, rfl⟩
      rw [hx] at ha hb hpx
      clear hx
      have hx1 : (k : Int) < (o.parts.length : Int) := by omega
      have hk0 : (0 : Int) ≤ (k : Int) := by omega
      obtain ⟨nr, hnr⟩ : ∃ nr, x.req.length = nr := ⟨_, rfl⟩
      obtain ⟨nm, hnm⟩ : ∃ nm, x.lim.length = nm := ⟨_, rfl⟩
      have HNR := Lib.hid hnr
      have HNM := Lib.hid hnm
      have HPX := Lib.hid hpx
      have A1 := Lib.hid ha.r1
      have A2 := Lib.hid ha.r2
      have B1 := Lib.hid hb.r1
      have B2 := Lib.hid hb.r2
      obtain ⟨e0, e1, e2, -, -, -, -⟩ := ha
      obtain ⟨f0, f1, f2, -, -, -, -⟩ := hb
      rw [hnr] at e1 f1
      rw [hnm] at e2 f2
      have E0 := Lib.hid e0
      have E1 := Lib.hid e1
      have E2 := Lib.hid e2
      have F0 := Lib.hid f0
      have F1 := Lib.hid f1
      have F2 := Lib.hid f2
      have hp5 := (X1.out.below hbr.out).c5
      have hq5 := (X2.out.below hbr.out).c5
      have P5 := Lib.hid hp5
      have Q5 := Lib.hid hq5
      clear hnr hnm hpx e0 e1 e2 f0 f1 f2
      go_upto_region 6 with fail
      clear hp5 hq5
      have z1 := fun z : BW wo => (z.h.cell (World.block_lt_of_cell? _ _ P5.out)).trans P5.out
      have z2 := fun z : BW wo => (z.h.cell (World.block_lt_of_cell? _ _ Q5.out)).trans Q5.out
      have z3 := fun z : BW wo => (z.h.cell (World.block_lt_of_cell? _ _ E0.out)).trans E0.out
      have z4 := fun z : BW wo => (z.h.cell (World.block_lt_of_cell? _ _ E1.out)).trans E1.out
      have z5 := fun z : BW wo => (z.h.cell (World.block_lt_of_cell? _ _ E2.out)).trans E2.out
      have z6 := fun z : BW wo => (z.h.cell (World.block_lt_of_cell? _ _ F0.out)).trans F0.out
      have z7 := fun z : BW wo => (z.h.cell (World.block_lt_of_cell? _ _ F1.out)).trans F1.out
      have z8 := fun z : BW wo => (z.h.cell (World.block_lt_of_cell? _ _ F2.out)).trans F2.out
      have C1 := Lib.hid (fun z : BW wo => sameAmts_val R1 R2 nr cr1 cr2 _ _ x.req z.w (A1.out.below z.h) (B1.out.below z.h) HNR.out (by rw [← HNR.out]; exact Nat.le_trans HPX.out.1 (by omega)))
      have C2 := Lib.hid (fun z : BW wo => sameAmts_val M1 M2 nm cm1 cm2 _ _ x.lim z.w (A2.out.below z.h) (B2.out.below z.h) HNM.out (by rw [← HNM.out]; exact Nat.le_trans HPX.out.2 (by omega)))
      have T1 := True.intro
      refine wp_region_pure (by kernel_rfl) (by kernel_rfl) ?_
      repeat (first | go_big_quiet_step (first | (go_at_call_of 78 (Value.slice R1 nr cr1); exact Calls.pure_of (C1.out _)) | (go_at_call_of 78 (Value.slice M1 nm cm1); exact Calls.pure_of (C2.out _))) | quiet_step (first | (go_at_call_of 78 (Value.slice R1 nr cr1); exact Calls.pure_of (C1.out _)) | (go_at_call_of 78 (Value.slice M1 nm cm1); exact Calls.pure_of (C2.out _))))
      refine wpQuiet_nil ?_
      rintro _ ⟨z, rfl⟩
      clear z1 z2 z3 z4 z5 z6 z7 z8
      go_wp2
      go_roundw
      case rel => exact ⟨k + 1, by go_num, hlt, hbr.out.trans (z.h.mono hbr.out.size)⟩
      case measure => simp [intOf]; omega
    · have hge : ¬ ((k : Int) < (o.parts.length : Int)) := by omega
      obtain ⟨-, -, -, -, -, -, p5, -, -⟩ := X1.out.below hbr.out
      go_wp2
      go_ret
      exact ⟨rfl, HBO.out⟩
end Go.Proofs.YtalkdddeiebfmaaGreatDoor
/- What ScopeKeepsApart wants: own's lists as the call's own; Of and Uses with what they own; what is kept while rows of the call's own are written. -/
namespace Go.Proofs.YtalkdddeiebfmaaGreatDoor
open Go.RowKit

theorem own_pt (o : ObjV) (A : Option Addr) (c : Nat) (ls : List LabV) (B0 : Option Addr) (m0 : Nat) (hl : o.labels = .slice B0 ls.length m0) (w : World) (h : ObjFit w o A ls) :
    Calls Tryz.prog 10 #[.agg #[.string o.path, .string o.name, .slice B0 ls.length m0, .int .i64 o.prio, .int .i64 o.dl, .slice A o.parts.length c, .int .i64 o.ver]] w fun e w' =>
      ∃ (L : Option Addr) (m : Nat) (B : Option Addr) (c : Nat) (R : Nat → Prop), e = .returned (.agg #[.string o.path, .string o.name, .slice L ls.length m, .int .i64 o.prio, .int .i64 o.dl, .slice B o.parts.length c, .int .i64 o.ver]) ∧ PartsAt w.heap.size w' (.slice B o.parts.length c) o.parts R ∧ Below w.heap.size w w' := by
  have := own_any o A c ls w h
  unfold ObjV.val at this
  rw [hl] at this
  refine this.mono fun e w' hp => ?_
  obtain ⟨L, m, B, c, R, rfl, hparts, hlr, hb⟩ := hp
  exact ⟨L, m, B, c, R, rfl, hparts, hb⟩
theorem of_own (o : ObjV) (M : List ScV) (q : Nat) (hM : Hid (ofS o 6 = M)) (hq : M.length = q) (L : Option Addr) (n m : Nat) (B : Option Addr) (c : Nat) (P : Nat → Prop) (w : World) (ho : ObjOk w (o.re L n m) B P) (ht : TextsAt w) :
    Calls Tryz.prog 53 #[.agg #[.string o.path, .string o.name, .slice L n m, .int .i64 o.prio, .int .i64 o.dl, .slice B o.parts.length c, .int .i64 o.ver]] w fun e w' => ∃ A c, e = .returned (.slice A q c) ∧ Own kSc 47 w.heap.size (fun _ => False) w' (.slice A q c) M ∧ Below w.heap.size w w' := by
  subst hq
  refine (of_any (o.re L n m) B c P w ho ht).mono fun e w' hp => ?_
  obtain ⟨A, c, he, hown, hb⟩ := hp
  rw [show ofS (o.re L n m) 6 = M from hM.out] at he hown
  exact ⟨A, c, he, hown.plain kSc_plain, hb⟩
theorem uses_own (o : ObjV) (U : List Amt) (q : Nat) (eu : Int) (hU : Hid ((usesV o.parts).1.map amtOf = U)) (hq : U.length = q) (he : Hid ((usesV o.parts).2 = eu)) (hN : NamesOk o.parts) (hT : (allB o.parts).length ≤ 1099511627776)
    (L : Option Addr) (n m : Nat) (B : Option Addr) (c : Nat) (P : Nat → Prop) (w : World) (ho : ObjOk w (o.re L n m) B P) :
    Calls Tryz.prog 29 #[.agg #[.string o.path, .string o.name, .slice L n m, .int .i64 o.prio, .int .i64 o.dl, .slice B o.parts.length c, .int .i64 o.ver]] w fun e w' => ∃ A c, e = .returned (.tuple #[.slice A q c, .int .i64 eu]) ∧ Own kAmt 45 w.heap.size (fun _ => False) w' (.slice A q c) U ∧ Below w.heap.size w w' := by
  subst hq
  refine (uses_any (o.re L n m) B c P w ho hN hT).mono fun e w' hp => ?_
  obtain ⟨A, c, h1, hown, hb⟩ := hp
  have hl : (usesV o.parts).1.length = U.length := by rw [← hU.out, List.length_map]
  rw [show (o.re L n m).parts = o.parts from rfl] at h1 hown
  rw [hl] at h1 hown
  rw [he.out] at h1
  rw [hU.out] at hown
  exact ⟨A, c, h1, hown.plain kAmt_plain, hb⟩
theorem own_rows {α : Type} {d : Kn α} {e base : Nat} {w : World} {A : Option Addr} {n c : Nat} {xs : List α} (h : Own d e base (fun _ => False) w (.slice A n c) xs) : Row d (fun k => base ≤ k ∧ k < w.heap.size) w A xs := by
  obtain ⟨A', c', hv, _, _, h3⟩ := h.row
  cases hv
  exact h3.mono fun k hk => hk.elim (fun f => f.elim) (fun e => h.block_lt k e)
/-- the block of a row of the call's own -/
theorem own_blk {α : Type} {d : Kn α} {e base : Nat} {P : Nat → Prop} {w : World} {A : Option Addr} {n c : Nat} {xs : List α} (h : Own d e base P w (.slice A n c) xs) (hx : xs ≠ []) : ∃ g cur, A = some ⟨g, 0, none⟩ ∧ base ≤ g ∧ w.heap[g]? = some (.cells cur e (0, 0)) := by
  obtain ⟨cells, ho, _⟩ := h
  rcases ho.2 with ⟨hv, h0⟩ | ⟨g, cap, cur, hv, hg, hb, _⟩
  · exact absurd (List.length_eq_zero_iff.1 h0) hx
  · cases hv; exact ⟨g, cur, rfl, hg, hb⟩
def m1P : PartV := ⟨⟨#[109, 49]⟩, [], []⟩
def m2P : PartV := ⟨⟨#[109, 50]⟩, [], []⟩
theorem marks_row (w : World) : Row kPart (fun k => k = w.heap.size) (w.alloc (.cells #[.string ⟨#[109, 49]⟩, .slice none 0 0, .slice none 0 0, .string ⟨#[109, 50]⟩, .slice none 0 0, .slice none 0 0] 43)) (some ⟨w.heap.size, 0, none⟩) [m1P, m2P] := by
  have h0 := heap_alloc_new w (.cells #[.string ⟨#[109, 49]⟩, .slice none 0 0, .slice none 0 0, .string ⟨#[109, 50]⟩, .slice none 0 0, .slice none 0 0] 43)
  refine fun _ => ⟨_, rfl, rfl, [.string ⟨#[109, 49]⟩, .slice none 0 0, .slice none 0 0, .string ⟨#[109, 50]⟩, .slice none 0 0, .slice none 0 0], ⟨rfl, fun i hi => ?_⟩, fun j u hu => by rw [add_new, cell_of_row _ _ _ _ _ _ h0]; simpa using hu⟩
  have hz : ∀ (W : World), Sl kAmt (fun k => k = w.heap.size) W (.slice none 0 0) [] := fun W => Sl.nil _ _ _
  match i, hi with
  | 0, _ => exact ⟨[.string ⟨#[109, 49]⟩], [.slice none 0 0, .slice none 0 0], rfl, rfl, [.slice none 0 0], [.slice none 0 0], rfl, ⟨_, rfl, hz _⟩, ⟨_, rfl, hz _⟩⟩
  | 1, _ => exact ⟨[.string ⟨#[109, 50]⟩], [.slice none 0 0, .slice none 0 0], rfl, rfl, [.slice none 0 0], [.slice none 0 0], rfl, ⟨_, rfl, hz _⟩, ⟨_, rfl, hz _⟩⟩
/-- what is kept while the rows from a up to b and from c up to d are written -/
abbrev Wr (a b c d : Nat) : Nat → Prop := fun k => (a ≤ k ∧ k < b) ∨ (c ≤ k ∧ k < d)
theorem Row.turn {α : Type} {d : Kn α} {P S : Nat → Prop} {w w' : World} {A : Option Addr} {xs : List α} (h : Row d P w A xs) (ht : Turn S w w') (hs : ∀ k, P k → ¬ S k) : Row d P w' A xs := h.keep fun k hk hl => ht.block k hl (hs k hk)
theorem OBox.turn {S : Nat → Prop} {w w' : World} {b : Nat} {v0 v1 v2 v3 v4 v5 v6 : Value} (h : OBox w b v0 v1 v2 v3 v4 v5 v6) (ht : Turn S w w') (hs : ¬ S b) : OBox w' b v0 v1 v2 v3 v4 v5 v6 := .of ((ht.block b (Array.getElem?_eq_some_iff.1 h.blk).1 hs).trans h.blk)
theorem TextsAt.turn {S : Nat → Prop} {w w' : World} (h : TextsAt w) (ht : Turn S w w') (hs : ¬ S 0) : TextsAt w' :=
  ⟨ht.cell h.t0 hs, ht.cell h.t1 hs, ht.cell h.t2 hs, ht.cell h.t3 hs, ht.cell h.t4 hs, ht.cell h.t5 hs⟩
/-- scope i's kind is written -/
theorem own_kind {base g n c : Nat} {w : World} {M : List ScV} (h : Own kSc 47 base (fun _ => False) w (.slice (some ⟨g, 0, none⟩) n c) M) (i : Nat) (hi : i < M.length) (v : Int) :
    Own kSc 47 base (fun _ => False) (w.setCell ⟨g, i * 2, none⟩ (.int .i64 v)) (.slice (some ⟨g, 0, none⟩) n c) (M.set i ⟨v, M[i].arg⟩) :=
  Own.setEnc (f := ScV.cells) (n := 2) h i hi 0 (by omega) _ _ rfl
/-- amount i's value is written -/
theorem own_val5 {base g n c : Nat} {w : World} {M : List Amt} (h : Own kAmt 45 base (fun _ => False) w (.slice (some ⟨g, 0, none⟩) n c) M) (i : Nat) (hi : i < M.length) (v : Int) :
    Own kAmt 45 base (fun _ => False) (w.setCell ⟨g, i * 2 + 1, none⟩ (.int .i64 v)) (.slice (some ⟨g, 0, none⟩) n c) (M.set i ⟨M[i].name, v⟩) :=
  Own.setEnc (f := Amt.cells) (n := 2) h i hi 1 (by omega) _ _ rfl
theorem sumsA_len : ∀ (L S T : List (Key × Int)), sumsA S L = some T → T.length ≤ S.length + L.length
  | [], S, T, h => by
    simp only [sumsA] at h
    cases h; simp
  | a :: L, S, T, h => by
    simp only [sumsA] at h
    split at h
    · cases h
    · have h1 := sumsA_len L _ _ h
      have h2 := addK_len a.1 (getK a.1 S + a.2) S
      simp only [List.length_cons]; omega
theorem usesV_len (ps : List PartV) : (usesV ps).1.length ≤ (allB ps).length + 1 := by
  have hl : (allA ps).length = (allB ps).length := by rw [← allB_kv, List.length_map]
  cases hn : (allB ps).any negA
  · cases hs : sumsA sums0 ((allB ps).map kvOf) with
    | none => rw [usesV_over hn hs]; simp
    | some S =>
      rw [usesV_ok hn hs]
      have := sumsA_len _ _ _ hs
      simp only [sums0, List.length_cons, List.length_nil, List.length_map] at this
      show S.length ≤ _
      omega
  · rw [usesV_neg hn]; simp
end Go.Proofs.YtalkdddeiebfmaaGreatDoor
/- The document's answer for the scopes: Valid, All, Print, Parse. -/
namespace Go.Proofs.YtalkdddeiebfmaaGreatDoor
open Go.RowKit

theorem rvalid_any (s : ScV) (w : World) : Calls Tryz.prog 75 #[.agg #[.int .i64 s.kind, .int .i64 s.arg]] w fun e w' => e = .returned (.bool (validS s)) ∧ Below w.heap.size w w' := by
  obtain ⟨k, a⟩ := s
  have hb0 := Lib.hid ((Below.refl w.heap.size w).alloc (Nat.le_refl _) (.cells #[.int .i64 k, .int .i64 a] 47))
  by_cases h5 : k = 5
  · have e5 : (k == 5) = true := by simpa using h5
    by_cases h1 : 0 ≤ a
    · have e1 : decide (a ≥ 0) = true := by simpa using h1
      have hv := Lib.hid (show validS ⟨k, a⟩ = decide (a ≤ 9) by
        subst h5
        unfold validS
        rw [Bool.eq_iff_iff]
        simp
        omega)
      clear h5
      go_enter Tryz.func75, Tryz.ntmps75
      go_wp2
      go_ret
      exact ⟨by rw [hv.out]; rfl, hb0.out⟩
    · have e1 : decide (a ≥ 0) = false := by simpa using h1
      have hv := Lib.hid (show validS ⟨k, a⟩ = false by
        subst h5
        unfold validS
        simp
        omega)
      clear h5
      go_enter Tryz.func75, Tryz.ntmps75
      go_wp2
      go_ret
      exact ⟨by rw [hv.out]; rfl, hb0.out⟩
  · have e5 : (k == 5) = false := by simpa using h5
    by_cases h1 : 0 ≤ k
    · have e1 : decide (k ≥ 0) = true := by simpa using h1
      by_cases h2 : k < 5
      · have e2 : decide (k < 5) = true := by simpa using h2
        have hv := Lib.hid (show validS ⟨k, a⟩ = (a == 0) by
          unfold validS
          rw [if_neg (by simp only; omega), if_neg h5]
          rw [Bool.eq_iff_iff]; simp)
        clear h5
        go_enter Tryz.func75, Tryz.ntmps75
        go_wp2
        go_ret
        exact ⟨by rw [hv.out]; rfl, hb0.out⟩
      · have e2 : decide (k < 5) = false := by simpa using h2
        have hv := Lib.hid (show validS ⟨k, a⟩ = false by unfold validS; rw [if_pos (.inr (by simp only; omega))])
        clear h5
        go_enter Tryz.func75, Tryz.ntmps75
        go_wp2
        go_ret
        exact ⟨by rw [hv.out]; rfl, hb0.out⟩
    · have e1 : decide (k ≥ 0) = false := by simpa using h1
      have hv := Lib.hid (show validS ⟨k, a⟩ = false by unfold validS; rw [if_pos (.inl (by simp only; omega))])
      clear h5
      go_enter Tryz.func75, Tryz.ntmps75
      go_wp2
      go_ret
      exact ⟨by rw [hv.out]; rfl, hb0.out⟩
theorem rvalid_val (s : ScV) (b : Bool) (hb : Hid (validS s = b)) (w : World) : Calls Tryz.prog 75 #[.agg #[.int .i64 s.kind, .int .i64 s.arg]] w fun e w' => e = .returned (.bool b) ∧ Below w.heap.size w w' := by
  have := rvalid_any s w
  rw [hb.out] at this; exact this
/-- of one kind: those with an argument from 0 on -/
def rowT (k : Int) (n : Nat) : List ScV := ((List.range n).map fun (j : Nat) => ScV.mk k (j : Int)).filter validS
/-- of the kinds from 0 on -/
def scopesUp (k : Nat) : List ScV := (List.range k).flatMap fun (i : Nat) => rowT (i : Int) 10
theorem rowT_len (k : Int) (n : Nat) : (rowT k n).length ≤ n := by
  unfold rowT
  exact Nat.le_trans (List.length_filter_le _ _) (by simp)
theorem rowT_step (k : Int) (n : Nat) : rowT k (n + 1) = rowT k n ++ (if validS ⟨k, (n : Int)⟩ then [⟨k, (n : Int)⟩] else []) := by
  unfold rowT
  rw [List.range_succ, List.map_append, List.filter_append]
  congr 1
  simp only [List.map_cons, List.map_nil, List.filter_cons, List.filter_nil]
theorem scopesUp_step (k : Nat) : scopesUp (k + 1) = scopesUp k ++ rowT (k : Int) 10 := by
  unfold scopesUp
  rw [List.range_succ, List.flatMap_append]
  simp
theorem scopesUp_len (k : Nat) : (scopesUp k).length ≤ 10 * k := by
  induction k with
  | zero => simp [scopesUp]
  | succ k ih =>
    rw [scopesUp_step, List.length_append]
    have := rowT_len (k : Int) 10
    omega
theorem scopesUp_all : scopesUp 6 = allS := by decide
def RAllPost (w : World) (e : Ending) (w' : World) : Prop := ∃ A c, e = .returned (.slice A 15 c) ∧ Own kSc 47 w.heap.size (fun _ => True) w' (.slice A 15 c) allS ∧ Below w.heap.size w w'
set_option maxRecDepth 100000 in
theorem rAll_any (w : World) : Calls Tryz.prog 39 #[] w (RAllPost w) := by
  have HW := Lib.hid (Below.refl w.heap.size w)
  go_enter Tryz.func39, Tryz.ntmps39
  go_wp2
  go_loopw [1, 2] (fun lv kv wr => ∃ (j n : Nat) (B : Option Addr) (M : List ScV), kv = .int .i64 (j : Int) ∧ lv = .slice B M.length n ∧ j ≤ 6 ∧ M.length ≤ 60 ∧ Hid (ScsAt w.heap.size w wr lv M (scopesUp j))) (fun _ kv _ => 6 - (intOf kv).toNat)
  case atStart => exact ⟨0, 0, none, [], by go_num, rfl, Nat.zero_le _, Nat.zero_le _, Own.nil _ _ _ _ _, HW.out, by simp [scopesUp]⟩
  case round =>
    obtain ⟨j, n, B, M, rfl, rfl, hj, hM, hall⟩ := hrel
    obtain ⟨wo, rfl⟩ : ∃ wo, wo = wr := ⟨_, rfl⟩
    by_cases hlt : j < 6
    · have hlt1 : (j : Int) < 6 := by omega
      have HLEN := Lib.hid (show (scopesUp j).length ≤ 10 * j from scopesUp_len j)
      clear hM
      go_wp2
      go_loopw [1, 3] (fun lv av wr => ∃ (a n : Nat) (B : Option Addr) (M : List ScV), av = .int .i64 (a : Int) ∧ lv = .slice B M.length n ∧ a ≤ 10 ∧ M.length ≤ 60 ∧ Hid (ScsAt w.heap.size w wr lv M (scopesUp j ++ rowT (j : Int) a))) (fun _ av _ => 10 - (intOf av).toNat)
      case atStart => exact ⟨0, n, B, M, by go_num, rfl, Nat.zero_le _, by rw [hall.out.eq]; have := HLEN.out; omega, hall.out.own, hall.out.below, by rw [hall.out.eq]; simp [rowT]⟩
      case round =>
        clear hall
        obtain ⟨a, n2, B2, M2, rfl, rfl, ha, hM2, hall2⟩ := hrel
        obtain ⟨wp, rfl⟩ : ∃ wp, wp = wr := ⟨_, rfl⟩
        have hsz := hall2.out.below.size
        by_cases hlta : a < 10
        · have hlt2 : (a : Int) < 10 := by omega
          have HB1 := Lib.hid ((Below.refl wp.heap.size wp).alloc (Nat.le_refl _) (.cells #[.int .i64 (j : Int), .int .i64 (a : Int)] 47))
          obtain ⟨s0, s1⟩ := scAt_new wp (j : Int) (a : Int)
          have HLN := Lib.hid (show M2.length ≤ 10 * j + a by
            rw [hall2.out.eq, List.length_append]
            have := HLEN.out
            have := rowT_len (j : Int) a
            omega)
          have h16 : (M2.length + 1) * 16 ≤ 140737488355328 := by omega
          cases hv : validS ⟨(j : Int), (a : Int)⟩
          · have HV := Lib.hid hv
            have HST := Lib.hid (show rowT (j : Int) (a + 1) = rowT (j : Int) a by rw [rowT_step, hv]; simp)
            clear hv
            go_wp2_with (go_at_call 75; refine (rvalid_val ⟨(j : Int), (a : Int)⟩ false HV _).mono ?_; rintro e w2 ⟨rfl, hb2⟩; have HB2 := Lib.hid (HB1.out.trans (hb2.mono HB1.out.size)); clear hb2)
            go_roundw
            case rel => exact ⟨a + 1, n2, B2, M2, by go_num, rfl, hlta, hM2, by have := hall2.out.mono_below HB2.out hsz; unfold Hid; rw [HST.out]; exact this⟩
            case measure => simp [intOf]; omega
          · have HV := Lib.hid hv
            have HST := Lib.hid (show rowT (j : Int) (a + 1) = rowT (j : Int) a ++ [⟨(j : Int), (a : Int)⟩] by rw [rowT_step, hv]; rfl)
            clear hv
            go_wp2_with (first
              | (go_at_call 75; refine (rvalid_val ⟨(j : Int), (a : Int)⟩ true HV _).mono ?_; rintro e w2 ⟨rfl, hb2⟩; have HB2 := Lib.hid (HB1.out.trans (hb2.mono HB1.out.size)); have m0 := (hb2.cell (World.block_lt_of_cell? _ _ s0)).trans s0; have m1 := (hb2.cell (World.block_lt_of_cell? _ _ s1)).trans s1; clear hb2)
              | (at_builtin; refine wpList_app_plain scElem kSc_plain w.heap.size rfl (.tmp 18) (.tmp 20) rfl (v := .slice B2 M2.length n2) (xs := M2) (ys := [(⟨(j : Int), (a : Int)⟩ : ScV)]) rfl ((hall2.out.own.below HB2.out).alloc _) rfl rfl (Row.newOnePlain (cs := ScV.cells ⟨(j : Int), (a : Int)⟩) kSc_plain rfl) (by exact h16) (by have := HB2.out.size; simp; omega) ?_; intro A7 c7 w7 happ; have HA7 := Lib.hid happ; clear happ))
            go_roundw
            case rel =>
              have hl1 : (M2 ++ [(⟨(j : Int), (a : Int)⟩ : ScV)]).length = M2.length + 1 := by rw [List.length_append]; rfl
              exact ⟨a + 1, c7, A7, M2 ++ [⟨(j : Int), (a : Int)⟩], by go_num, by rw [hl1], hlta, by rw [hl1]; have := HLN.out; omega, by
                have := hall2.out.app (HB2.out.alloc HB2.out.size _) hsz rfl HA7.out
                unfold Hid; rw [HST.out]; rw [List.append_assoc] at this; exact this⟩
            case measure => simp [intOf]; omega
        · have hge2 : ¬ ((a : Int) < 10) := by omega
          have ha13 : a = 10 := by omega
          subst ha13
          go_wp2
          go_roundw
          case rel => exact ⟨j + 1, n2, B2, M2, by go_num, rfl, hlt, hM2, by unfold Hid; rw [scopesUp_step]; exact hall2.out⟩
          case measure => simp [intOf]; omega
    · have hge : ¬ ((j : Int) < 6) := by omega
      have hj9 : j = 6 := by omega
      subst hj9
      have HM9 := Lib.hid (show M = allS by rw [hall.out.eq, scopesUp_all])
      have hl15 : M.length = 15 := by rw [HM9.out]; rfl
      have HO := Lib.hid (show Own kSc 47 w.heap.size (fun _ => True) wo (.slice B 15 n) allS by have := hall.out.own; rw [HM9.out] at this; exact this)
      have HBL := Lib.hid hall.out.below
      rw [hl15]
      clear hall hM hl15
      go_wp2
      go_ret
      exact ⟨_, _, rfl, HO.out, HBL.out⟩

end Go.Proofs.YtalkdddeiebfmaaGreatDoor
/- The document's Parse. -/
namespace Go.Proofs.YtalkdddeiebfmaaGreatDoor
open Go.RowKit

/-- a scope's own block -/
structure SBox (w : World) (b : Nat) (k a : Int) : Prop where
  blk : w.heap[b]? = some (.cells #[.int .i64 k, .int .i64 a] 47 (0, 0))
theorem SBox.below {w w' : World} {b : Nat} {k a : Int} (h : SBox w b k a) (hb : Below w.heap.size w w') : SBox w' b k a := ⟨(hb.block b (Array.getElem?_eq_some_iff.1 h.blk).1).trans h.blk⟩
theorem below_setRow2 {B g : Nat} {w w' : World} (h : Below B w w') (hg : B ≤ g) (cs : Array Value) : Below B w (w'.setRow g cs) :=
  ⟨h.os, h.tape, h.output, by simp only [size_setRow]; exact h.size, fun k hk => (setRow_other _ _ _ _ (by omega)).trans (h.block k hk)⟩
end Go.Proofs.YtalkdddeiebfmaaGreatDoor
/- The document's sums in plain words: rows in the order of their coming; at the end the rising list. They are the program's. -/
namespace Go.Proofs.YtalkdddeiebfmaaGreatDoor

theorem getK_cons (x : Key) (p : Key × Int) (S : List (Key × Int)) : getK x (p :: S) = if x = p.1 then p.2 else getK x S := by
  unfold getK
  by_cases h : x = p.1
  · rw [if_pos h, List.find?_cons_of_pos (by simpa using h.symm)]; rfl
  · rw [if_neg h, List.find?_cons_of_neg (by simpa using fun e => h e.symm)]
/-- an amount to its row -/
def addR (k : Key) (v : Int) : List (Key × Int) → List (Key × Int)
  | [] => [(k, v)]
  | p :: R => if p.1 = k then (k, p.2 + v) :: R else p :: addR k v R
theorem addR_keys (k : Key) (v : Int) : ∀ (R : List (Key × Int)) (x : Key), x ∈ (addR k v R).map Prod.fst ↔ x = k ∨ x ∈ R.map Prod.fst
  | [], x => by simp [addR]
  | p :: R, x => by
    unfold addR
    split
    · rename_i h
      subst h
      simp
    · rw [List.map_cons, List.mem_cons, addR_keys k v R x, List.map_cons, List.mem_cons]
      constructor
      · rintro (h | h | h)
        · exact .inr (.inl h)
        · exact .inl h
        · exact .inr (.inr h)
      · rintro (h | h | h)
        · exact .inr (.inl h)
        · exact .inl h
        · exact .inr (.inr h)
theorem addR_nodup (k : Key) (v : Int) : ∀ (R : List (Key × Int)), (R.map Prod.fst).Nodup → ((addR k v R).map Prod.fst).Nodup
  | [], _ => by simp [addR]
  | p :: R, h => by
    rw [List.map_cons, List.nodup_cons] at h
    unfold addR
    split
    · rename_i he
      subst he
      rw [List.map_cons, List.nodup_cons]; exact h
    · rename_i he
      rw [List.map_cons, List.nodup_cons]
      refine ⟨fun hm => ?_, addR_nodup k v R h.2⟩
      rcases (addR_keys k v R p.1).1 hm with e | e
      · exact he e
      · exact h.1 e
theorem getK_addR (k : Key) (v : Int) : ∀ (R : List (Key × Int)) (x : Key), getK x (addR k v R) = if x = k then getK k R + v else getK x R
  | [], x => by
    show getK x [(k, v)] = _
    rw [getK_cons]
    split <;> simp [getK]
  | p :: R, x => by
    have ih := getK_addR k v R x
    unfold addR
    by_cases hp : p.1 = k
    · rw [if_pos hp, getK_cons]
      by_cases hx : x = k
      · rw [if_pos hx, if_pos hx, getK_cons, if_pos hp.symm]
      · rw [if_neg hx, if_neg hx, getK_cons, if_neg (fun e => hx (e.trans hp))]
    · rw [if_neg hp, getK_cons, ih]
      by_cases hx : x = k
      · subst hx
        rw [if_neg (fun e => hp e.symm), if_pos rfl, if_pos rfl, getK_cons, if_neg (fun e => hp e.symm)]
      · rw [if_neg hx, if_neg hx, getK_cons]
def rowsR (R L : List (Key × Int)) : List (Key × Int) := L.foldl (fun R a => addR a.1 a.2 R) R
def sumsU (S L : List (Key × Int)) : List (Key × Int) := L.foldl (fun S a => addK a.1 (getK a.1 S + a.2) S) S
def insR (S R : List (Key × Int)) : List (Key × Int) := R.foldl (fun S p => addK p.1 p.2 S) S
structure Alike (R S : List (Key × Int)) : Prop where
  nodup : (R.map Prod.fst).Nodup
  asc : AscK S
  keys : ∀ x, x ∈ R.map Prod.fst ↔ x ∈ S.map Prod.fst
  val : ∀ x, getK x R = getK x S
theorem Alike.step {R S : List (Key × Int)} (h : Alike R S) (k : Key) (v : Int) : Alike (addR k v R) (addK k (getK k S + v) S) :=
  ⟨addR_nodup k v R h.nodup, addK_asc _ _ _ h.asc, fun x => by rw [addR_keys, addK_keys, h.keys], fun x => by rw [getK_addR, getK_addK, h.val, h.val]⟩
theorem Alike.all : ∀ (L : List (Key × Int)) {R S : List (Key × Int)}, Alike R S → Alike (rowsR R L) (sumsU S L)
  | [], _, _, h => h
  | a :: L, _, _, h => Alike.all L (h.step a.1 a.2)
theorem alike0 : Alike [(countK, 1000)] sums0 := ⟨by simp, by simp [AscK, sums0], fun x => by simp [sums0], fun x => rfl⟩
theorem sumsA_some : ∀ (L S T : List (Key × Int)), sumsA S L = some T → T = sumsU S L
  | [], S, T, h => by simp only [sumsA] at h; cases h; rfl
  | a :: L, S, T, h => by
    simp only [sumsA] at h
    split at h
    · cases h
    · exact sumsA_some L _ _ h
theorem sumsU_mono : ∀ (L S : List (Key × Int)) (x : Key), (∀ a ∈ L, 0 ≤ a.2) → getK x S ≤ getK x (sumsU S L)
  | [], S, x, _ => Int.le_refl _
  | a :: L, S, x, h => by
    have h1 := sumsU_mono L (addK a.1 (getK a.1 S + a.2) S) x (fun b hb => h b (List.mem_cons_of_mem _ hb))
    have h2 := h a (List.mem_cons_self ..)
    rw [getK_addK] at h1
    show _ ≤ getK x (sumsU (addK a.1 (getK a.1 S + a.2) S) L)
    by_cases hx : x = a.1
    · subst hx
      rw [if_pos rfl] at h1
      omega
    · rw [if_neg hx] at h1; exact h1
theorem sumsA_none : ∀ (L S : List (Key × Int)), (∀ a ∈ L, 0 ≤ a.2) → sumsA S L = none → ∃ x, getK x (sumsU S L) > 9223372036854775807
  | [], S, _, h => by simp [sumsA] at h
  | a :: L, S, hl, h => by
    simp only [sumsA] at h
    split at h
    · rename_i ho
      refine ⟨a.1, ?_⟩
      have h1 := sumsU_mono L (addK a.1 (getK a.1 S + a.2) S) a.1 (fun b hb => hl b (List.mem_cons_of_mem _ hb))
      rw [getK_addK, if_pos rfl] at h1
      show getK a.1 (sumsU (addK a.1 (getK a.1 S + a.2) S) L) > _
      omega
    · exact sumsA_none L _ (fun b hb => hl b (List.mem_cons_of_mem _ hb)) h
theorem sumsA_le : ∀ (L S T : List (Key × Int)), (∀ x, getK x S ≤ 9223372036854775807) → sumsA S L = some T → ∀ x, getK x T ≤ 9223372036854775807
  | [], S, T, h, hs, x => by simp only [sumsA] at hs; cases hs; exact h x
  | a :: L, S, T, h, hs, x => by
    simp only [sumsA] at hs
    split at hs
    · cases hs
    · rename_i ho
      refine sumsA_le L _ T (fun y => ?_) hs x
      rw [getK_addK]
      split
      · omega
      · exact h y
theorem getK_of_mem : ∀ {R : List (Key × Int)}, (R.map Prod.fst).Nodup → ∀ p ∈ R, getK p.1 R = p.2
  | q :: R, h, p, hp => by
    rw [List.map_cons, List.nodup_cons] at h
    rw [getK_cons]
    rcases List.mem_cons.1 hp with rfl | hp'
    · rw [if_pos rfl]
    · rw [if_neg (fun e => h.1 (by rw [← e]; exact List.mem_map_of_mem hp'))]
      exact getK_of_mem h.2 p hp'
theorem getK_ins : ∀ (R S : List (Key × Int)) (x : Key), (R.map Prod.fst).Nodup → getK x (insR S R) = if x ∈ R.map Prod.fst then getK x R else getK x S
  | [], S, x, _ => by simp [insR]
  | p :: R, S, x, h => by
    rw [List.map_cons, List.nodup_cons] at h
    show getK x (insR (addK p.1 p.2 S) R) = _
    rw [getK_ins R _ x h.2, getK_addK, getK_cons]
    by_cases hx : x = p.1
    · subst hx
      rw [if_neg h.1, if_pos rfl, if_pos (by simp), if_pos rfl]
    · rw [if_neg hx, if_neg hx]
      simp only [List.map_cons, List.mem_cons, hx, false_or]
theorem keys_ins : ∀ (R S : List (Key × Int)) (x : Key), x ∈ (insR S R).map Prod.fst ↔ x ∈ R.map Prod.fst ∨ x ∈ S.map Prod.fst
  | [], S, x => by simp [insR]
  | p :: R, S, x => by
    show x ∈ (insR (addK p.1 p.2 S) R).map Prod.fst ↔ _
    rw [keys_ins R _ x, addK_keys, List.map_cons, List.mem_cons]
    constructor
    · rintro (h | h | h)
      · exact .inl (.inr h)
      · exact .inl (.inl h)
      · exact .inr h
    · rintro ((h | h) | h)
      · exact .inr (.inl h)
      · exact .inl h
      · exact .inr (.inr h)
theorem asc_ins : ∀ (R S : List (Key × Int)), AscK S → AscK (insR S R)
  | [], _, h => h
  | p :: R, S, h => asc_ins R _ (addK_asc _ _ _ h)
theorem asc_cons {p : Key × Int} {S : List (Key × Int)} (h : AscK (p :: S)) : (∀ q ∈ S, p.1 < q.1) ∧ AscK S := List.pairwise_cons.1 h
theorem ascK_ext : ∀ {S T : List (Key × Int)}, AscK S → AscK T → (∀ x, x ∈ S.map Prod.fst ↔ x ∈ T.map Prod.fst) → (∀ x, getK x S = getK x T) → S = T
  | [], [], _, _, _, _ => rfl
  | [], q :: T, _, _, hk, _ => absurd ((hk q.1).2 (by simp)) (by simp)
  | p :: S, [], _, _, hk, _ => absurd ((hk p.1).1 (by simp)) (by simp)
  | p :: S, q :: T, hS, hT, hk, hv => by
    obtain ⟨h1, h2⟩ := asc_cons hS
    obtain ⟨h3, h4⟩ := asc_cons hT
    have e1 : p.1 = q.1 := by
      rcases List.mem_cons.1 ((hk p.1).1 (by simp)) with e | e
      · exact e
      · obtain ⟨r, hr, he⟩ := List.mem_map.1 e
        have hlt : q.1 < p.1 := he ▸ h3 r hr
        rcases List.mem_cons.1 ((hk q.1).2 (by simp)) with f | f
        · exact f.symm
        · obtain ⟨r', hr', he'⟩ := List.mem_map.1 f
          have hlt' : p.1 < q.1 := he' ▸ h1 r' hr'
          exact absurd (List.lt_trans hlt hlt') (List.lt_irrefl _)
    have e2 : p.2 = q.2 := by
      have := hv p.1
      rw [getK_cons, getK_cons, if_pos rfl, if_pos e1] at this
      exact this
    have hpS : p.1 ∉ S.map Prod.fst := fun hm => by
      obtain ⟨r, hr, he⟩ := List.mem_map.1 hm
      have := h1 r hr
      rw [he] at this
      exact List.lt_irrefl _ this
    have hqT : p.1 ∉ T.map Prod.fst := fun hm => by
      obtain ⟨r, hr, he⟩ := List.mem_map.1 hm
      have := h3 r hr
      rw [he, e1] at this
      exact List.lt_irrefl _ this
    have hST : S = T := by
      refine ascK_ext h2 h4 (fun x => ?_) (fun x => ?_)
      · have := hk x
        rw [List.map_cons, List.map_cons, List.mem_cons, List.mem_cons, ← e1] at this
        constructor
        · intro hm
          rcases this.1 (.inr hm) with e | e
          · exact absurd (e ▸ hm) hpS
          · exact e
        · intro hm
          rcases this.2 (.inr hm) with e | e
          · exact absurd (e ▸ hm) hqT
          · exact e
      · by_cases hx : x = p.1
        · subst hx
          rw [getK_none hpS, getK_none hqT]
        · have := hv x
          rwa [getK_cons, getK_cons, if_neg hx, if_neg (by rw [← e1]; exact hx)] at this
    rw [hST]
    congr 1
    exact Prod.ext e1 e2
/-- the document's answer -/
def refV (ps : List PartV) : List (Key × Int) × Int :=
  if (allB ps).any negA = true then ([], 1) else if (rowsR [(countK, 1000)] (allA ps)).any (fun p => decide (p.2 > 9223372036854775807)) = true then ([], 7) else (insR [] (rowsR [(countK, 1000)] (allA ps)), 0)
theorem refV_eq (ps : List PartV) : refV ps = usesV ps := by
  unfold refV
  cases hn : (allB ps).any negA
  · have hpos : ∀ a ∈ allA ps, 0 ≤ a.2 := by
      intro a ha
      rw [← allB_kv] at ha
      obtain ⟨b, hb, rfl⟩ := List.mem_map.1 ha
      have := List.any_eq_false.1 hn b hb
      simpa [negA, kvOf] using this
    have hal := Alike.all (allA ps) alike0
    rw [if_neg (by simp)]
    cases hs : sumsA sums0 ((allB ps).map kvOf) with
    | none =>
      rw [usesV_over hn hs, if_pos]
      rw [allB_kv] at hs
      obtain ⟨x, hx⟩ := sumsA_none _ _ hpos hs
      rw [← hal.val] at hx
      have hm : x ∈ (rowsR [(countK, 1000)] (allA ps)).map Prod.fst := by
        by_cases h : x ∈ (rowsR [(countK, 1000)] (allA ps)).map Prod.fst
        · exact h
        · rw [getK_none h] at hx; omega
      obtain ⟨p, hp, rfl⟩ := List.mem_map.1 hm
      rw [getK_of_mem hal.nodup p hp] at hx
      exact List.any_eq_true.2 ⟨p, hp, by simpa using hx⟩
    | some T =>
      rw [usesV_ok hn hs]
      rw [allB_kv] at hs
      have hT := sumsA_some _ _ _ hs
      have hle := sumsA_le _ _ _ (fun x => by
        show getK x sums0 ≤ _
        unfold sums0
        rw [getK_cons]
        split
        · omega
        · simp [getK]) hs
      rw [hT] at hle
      rw [if_neg]
      · congr 1
        rw [hT]
        refine ascK_ext (asc_ins _ _ (by simp [AscK])) hal.asc (fun x => ?_) (fun x => ?_)
        · rw [keys_ins, ← hal.keys]; simp
        · rw [getK_ins _ _ _ hal.nodup, ← hal.val]
          split
          · rfl
          · rename_i h; rw [getK_none h]; simp [getK]
      · rw [Bool.not_eq_true, List.any_eq_false]
        intro p hp
        have := hle p.1
        rw [← hal.val, getK_of_mem hal.nodup p hp] at this
        simpa using this
  · rw [if_pos rfl, usesV_neg hn]
/-- where a name is put in -/
theorem addK_at (k : Key) (v : Int) : ∀ (l r : List (Key × Int)), (∀ p ∈ l, p.1 < k) → (∀ p ∈ r, k < p.1) → addK k v (l ++ r) = l ++ (k, v) :: r
  | [], [], _, _ => rfl
  | [], p :: r, _, h => by
    have hlt := h p (by simp)
    show addK k v (p :: r) = _
    unfold addK
    rw [if_neg (fun e => by rw [e] at hlt; exact List.lt_irrefl _ hlt), if_pos hlt]; rfl
  | p :: l, r, h, h2 => by
    have hlt := h p (by simp)
    show addK k v (p :: (l ++ r)) = _
    unfold addK
    rw [if_neg (fun e => by rw [e] at hlt; exact List.lt_irrefl _ hlt), if_neg (fun e => List.lt_irrefl _ (List.lt_trans hlt e)), addK_at k v l r (fun q hq => h q (List.mem_cons_of_mem _ hq)) h2]; rfl
end Go.Proofs.YtalkdddeiebfmaaGreatDoor
/- The law ScopeParts: the walk. -/
namespace Go.Proofs.YtalkdddeiebfmaaGreatDoor
open Go.RowKit

/-- the box of the law's object; what holds while the law goes on -/
structure LawAt (W : World) (b : Nat) (o : ObjV) (A : Option Addr) (c : Nat) (ls : List LabV) : Prop where
  obj : ObjAt W b o A c
  fit : ObjFit W o A ls
  txt : TextsAt W
theorem LawAt.below {W W' : World} {b : Nat} {o : ObjV} {A : Option Addr} {c : Nat} {ls : List LabV} (h : LawAt W b o A c ls) (hb : Below W.heap.size W W') : LawAt W' b o A c ls := ⟨h.obj.below hb, h.fit.below hb, h.txt.below hb⟩
theorem take_filter_step {p : ScV → Bool} {l : List ScV} {k : Nat} (hk : k < l.length) : (l.take (k + 1)).filter p = (l.take k).filter p ++ (if p l[k] then [l[k]] else []) := by
  rw [List.take_succ_eq_append_getElem hk, List.filter_append]
  congr 1
  simp only [List.filter_cons, List.filter_nil]
/-- where the scopes that the object lies in stand -/
structure ThreeAt (w : World) (a : Addr) (kn ke : Int) : Prop where
  c0 : w.cell? a = some (.int .i64 0)
  c1 : w.cell? ⟨a.block, a.off + 1, none⟩ = some (.int .i64 0)
  c2 : w.cell? ⟨a.block, a.off + 2, none⟩ = some (.int .i64 kn)
  c3 : w.cell? ⟨a.block, a.off + 2 + 1, none⟩ = some (.int .i64 0)
  c4 : w.cell? ⟨a.block, a.off + 4, none⟩ = some (.int .i64 ke)
  c5 : w.cell? ⟨a.block, a.off + 4 + 1, none⟩ = some (.int .i64 0)
theorem add_two (a : Addr) (i : Nat) (h : 0 < i) : a.add (i * 2) = ⟨a.block, a.off + i * 2, none⟩ := by unfold Addr.add; rw [if_neg (by omega)]
theorem three_at {P : Nat → Prop} {w : World} {A : Option Addr} {kn ke : Int} {tl : List ScV} (h : Row kSc P w A ([⟨0, 0⟩, ⟨kn, 0⟩, ⟨ke, 0⟩] ++ tl)) : ∃ a, A = some a ∧ ThreeAt w a kn ke := by
  obtain ⟨a, hA, l0, l1⟩ := sc_at h 0 (by simp)
  obtain ⟨a1, hA1, m0, m1⟩ := sc_at h 1 (by simp)
  obtain ⟨a2, hA2, n0, n1⟩ := sc_at h 2 (by simp)
  obtain rfl : a = a1 := Option.some.inj (hA.symm.trans hA1)
  obtain rfl : a = a2 := Option.some.inj (hA.symm.trans hA2)
  rw [show a.add (0 * 2) = a by simp [Addr.add]] at l0 l1
  rw [add_two a 1 (by omega)] at m0 m1
  rw [add_two a 2 (by omega)] at n0 n1
  exact ⟨a, hA, l0, l1, m0, m1, n0, n1⟩
theorem ThreeAt.below {w w' : World} {a : Addr} {kn ke : Int} (h : ThreeAt w a kn ke) (hb : Below w.heap.size w w') : ThreeAt w' a kn ke :=
  ⟨(hb.cell (World.block_lt_of_cell? _ _ h.c0)).trans h.c0, (hb.cell (World.block_lt_of_cell? _ _ h.c1)).trans h.c1, (hb.cell (World.block_lt_of_cell? _ _ h.c2)).trans h.c2, (hb.cell (World.block_lt_of_cell? _ _ h.c3)).trans h.c3, (hb.cell (World.block_lt_of_cell? _ _ h.c4)).trans h.c4, (hb.cell (World.block_lt_of_cell? _ _ h.c5)).trans h.c5⟩
theorem four_at {P : Nat → Prop} {w : World} {a : Addr} {kn ke pr : Int} (h : Row kSc P w (some a) ([⟨0, 0⟩, ⟨kn, 0⟩, ⟨ke, 0⟩] ++ [⟨5, pr⟩])) : w.cell? ⟨a.block, a.off + 6, none⟩ = some (.int .i64 5) ∧ w.cell? ⟨a.block, a.off + 6 + 1, none⟩ = some (.int .i64 pr) := by
  obtain ⟨a1, hA1, m0, m1⟩ := sc_at h 3 (by simp)
  obtain rfl : a = a1 := Option.some.inj hA1
  rw [add_two a 3 (by omega)] at m0 m1
  exact ⟨m0, m1⟩
end Go.Proofs.YtalkdddeiebfmaaGreatDoor
