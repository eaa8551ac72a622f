/- scope: the kinds' functions, kindOf, In. -/
import Derived.Test.YtdchffghgajbfaaDoorU2
namespace Go.Proofs.YtdchffghgajbfaaDoor
open Go.RowKit

/-- an object's value is a value of this form -/
structure ObjOk (w : World) (o : ObjV) (A : Option Addr) (P : Nat → Prop) : Prop where
  lab : ∃ B n m, o.labels = .slice B n m
  row : Row kPart P w A o.parts
  len : o.parts.length ≤ 9223372036854775807
  small : PartsOk o.parts
theorem ObjOk.below {w w' : World} {o : ObjV} {A : Option Addr} {P : Nat → Prop} (h : ObjOk w o A P) (hb : Below w.heap.size w w') : ObjOk w' o A P := ⟨h.lab, h.row.below hb, h.len, h.small⟩
def ObjV.cells (o : ObjV) (A : Option Addr) (c : Nat) : Array Value := #[.string o.path, .string o.name, o.labels, .int .i64 o.prio, .int .i64 o.dl, .slice A o.parts.length c, .int .i64 o.ver]
structure ObjAt (w : World) (b : Nat) (o : ObjV) (A : Option Addr) (c : Nat) : Prop where
  c0 : w.cell? ⟨b, 0, none⟩ = some (.string o.path)
  c1 : w.cell? ⟨b, 1, none⟩ = some (.string o.name)
  c2 : w.cell? ⟨b, 2, none⟩ = some o.labels
  c3 : w.cell? ⟨b, 3, none⟩ = some (.int .i64 o.prio)
  c4 : w.cell? ⟨b, 4, none⟩ = some (.int .i64 o.dl)
  c5 : w.cell? ⟨b, 5, none⟩ = some (.slice A o.parts.length c)
  c6 : w.cell? ⟨b, 6, none⟩ = some (.int .i64 o.ver)
theorem objAt_new (w : World) (o : ObjV) (A : Option Addr) (c : Nat) : ObjAt (w.alloc (.cells (o.cells A c) 58)) w.heap.size o A c := by
  have h := heap_alloc_new w (.cells (o.cells A c) 58)
  exact ⟨(cell_of_row _ _ _ _ _ _ h).trans rfl, (cell_of_row _ _ _ _ _ _ h).trans rfl, (cell_of_row _ _ _ _ _ _ h).trans rfl, (cell_of_row _ _ _ _ _ _ h).trans rfl, (cell_of_row _ _ _ _ _ _ h).trans rfl, (cell_of_row _ _ _ _ _ _ h).trans rfl, (cell_of_row _ _ _ _ _ _ h).trans rfl⟩
theorem ObjAt.below {w w' : World} {b : Nat} {o : ObjV} {A : Option Addr} {c : Nat} (h : ObjAt w b o A c) (hb : Below w.heap.size w w') : ObjAt w' b o A c := by
  have hl := World.block_lt_of_cell? w _ h.c0
  exact ⟨(hb.cell (p := ⟨b, 0, none⟩) hl).trans h.c0, (hb.cell (p := ⟨b, 1, none⟩) hl).trans h.c1, (hb.cell (p := ⟨b, 2, none⟩) hl).trans h.c2, (hb.cell (p := ⟨b, 3, none⟩) hl).trans h.c3, (hb.cell (p := ⟨b, 4, none⟩) hl).trans h.c4, (hb.cell (p := ⟨b, 5, none⟩) hl).trans h.c5, (hb.cell (p := ⟨b, 6, none⟩) hl).trans h.c6⟩

section
variable (o : ObjV) (A : Option Addr) (c : Nat) (P : Nat → Prop) (arg : Int) (w : World) (ho : ObjOk w o A P)
include ho
theorem kf1_any : Calls Tryd.prog 89 #[o.val A c, .int .i64 arg] w fun e w' => e = .returned (.bool (!namedP o.parts)) ∧ Below w.heap.size w w' := by
  obtain ⟨B, n, m, hlab⟩ := ho.lab
  have hb0 : Below w.heap.size w (w.alloc (.cells (o.cells A c) 58)) := (Below.refl _ _).alloc (Nat.le_refl _) _
  have HB0 := Lib.hid hb0
  obtain ⟨p0, p1, p2, p3, p4, p5, p6⟩ := objAt_new w o A c
  have HC := Lib.hid (snames_any o A c P _ ho.lab (ho.below hb0).row ho.len ho.small)
  unfold ObjV.cells at HB0 HC p0 p1 p2 p3 p4 p5 p6
  unfold ObjV.val at HC ⊢
  rw [hlab] at HC HB0 p0 p1 p2 p3 p4 p5 p6 ⊢
  clear hb0 hlab
  go_enter Tryd.func89, Tryd.ntmps89
  go_wp2_with (go_at_call 90; refine HC.out.mono ?_; rintro e w2 ⟨rfl, hb2⟩)
  go_ret
  exact ⟨rfl, HB0.out.trans (hb2.mono HB0.out.size)⟩
theorem kf2_any : Calls Tryd.prog 91 #[o.val A c, .int .i64 arg] w fun e w' => e = .returned (.bool (namedP o.parts)) ∧ Below w.heap.size w w' := by
  obtain ⟨B, n, m, hlab⟩ := ho.lab
  have hb0 : Below w.heap.size w (w.alloc (.cells (o.cells A c) 58)) := (Below.refl _ _).alloc (Nat.le_refl _) _
  have HB0 := Lib.hid hb0
  obtain ⟨p0, p1, p2, p3, p4, p5, p6⟩ := objAt_new w o A c
  have HC := Lib.hid (snames_any o A c P _ ho.lab (ho.below hb0).row ho.len ho.small)
  unfold ObjV.cells at HB0 HC p0 p1 p2 p3 p4 p5 p6
  unfold ObjV.val at HC ⊢
  rw [hlab] at HC HB0 p0 p1 p2 p3 p4 p5 p6 ⊢
  clear hb0 hlab
  go_enter Tryd.func91, Tryd.ntmps91
  go_wp2_with (go_at_call 90; refine HC.out.mono ?_; rintro e w2 ⟨rfl, hb2⟩)
  go_ret
  exact ⟨rfl, HB0.out.trans (hb2.mono HB0.out.size)⟩
theorem kf3_any : Calls Tryd.prog 92 #[o.val A c, .int .i64 arg] w fun e w' => e = .returned (.bool (decide (o.dl > 0))) ∧ Below w.heap.size w w' := by
  obtain ⟨B, n, m, hlab⟩ := ho.lab
  have HB0 := Lib.hid (show Below w.heap.size w (w.alloc (.cells (o.cells A c) 58)) from (Below.refl _ _).alloc (Nat.le_refl _) _)
  unfold ObjV.cells at HB0
  unfold ObjV.val
  rw [hlab] at HB0 ⊢
  cases hd : decide (o.dl > 0)
  · go_enter Tryd.func92, Tryd.ntmps92
    go_wp2
    go_ret
    exact ⟨by rw [← hd]; first | rfl | simp, HB0.out⟩
  · go_enter Tryd.func92, Tryd.ntmps92
    go_wp2
    go_ret
    exact ⟨by rw [← hd]; first | rfl | simp, HB0.out⟩
theorem kf4_any : Calls Tryd.prog 93 #[o.val A c, .int .i64 arg] w fun e w' => e = .returned (.bool (decide (o.dl ≤ 0))) ∧ Below w.heap.size w w' := by
  obtain ⟨B, n, m, hlab⟩ := ho.lab
  have HB0 := Lib.hid (show Below w.heap.size w (w.alloc (.cells (o.cells A c) 58)) from (Below.refl _ _).alloc (Nat.le_refl _) _)
  unfold ObjV.cells at HB0
  unfold ObjV.val
  rw [hlab] at HB0 ⊢
  cases hd : decide (o.dl ≤ 0)
  · go_enter Tryd.func93, Tryd.ntmps93
    go_wp2
    go_ret
    exact ⟨by rw [← hd]; first | rfl | simp, HB0.out⟩
  · go_enter Tryd.func93, Tryd.ntmps93
    go_wp2
    go_ret
    exact ⟨by rw [← hd]; first | rfl | simp, HB0.out⟩
theorem kf5_any : Calls Tryd.prog 94 #[o.val A c, .int .i64 arg] w fun e w' => e = .returned (.bool (o.prio == arg)) ∧ Below w.heap.size w w' := by
  obtain ⟨B, n, m, hlab⟩ := ho.lab
  have HB0 := Lib.hid (show Below w.heap.size w (w.alloc (.cells (o.cells A c) 58)) from (Below.refl _ _).alloc (Nat.le_refl _) _)
  unfold ObjV.cells at HB0
  unfold ObjV.val
  rw [hlab] at HB0 ⊢
  go_enter Tryd.func94, Tryd.ntmps94
  go_wp2
  go_ret
  exact ⟨rfl, HB0.out⟩
theorem kf6_any : Calls Tryd.prog 95 #[o.val A c, .int .i64 arg] w fun e w' => e = .returned (.bool true) ∧ Below w.heap.size w w' := by
  obtain ⟨B, n, m, hlab⟩ := ho.lab
  have HB0 := Lib.hid (show Below w.heap.size w (w.alloc (.cells (o.cells A c) 58)) from (Below.refl _ _).alloc (Nat.le_refl _) _)
  unfold ObjV.cells at HB0
  unfold ObjV.val
  rw [hlab] at HB0 ⊢
  go_enter Tryd.func95, Tryd.ntmps95
  go_wp2
  go_ret
  exact ⟨rfl, HB0.out⟩
end

/-- what stands in the variable 'texts' -/
structure TextsAt (w : World) : Prop where
  t0 : w.cell? ⟨1, 0, none⟩ = some (.string ⟨#[97, 108, 108]⟩)
  t1 : w.cell? ⟨1, 1, none⟩ = some (.string ⟨#[98, 101, 115, 116]⟩)
  t2 : w.cell? ⟨1, 2, none⟩ = some (.string ⟨#[110, 111, 116, 98, 101, 115, 116]⟩)
  t3 : w.cell? ⟨1, 3, none⟩ = some (.string ⟨#[101, 110, 100, 115]⟩)
  t4 : w.cell? ⟨1, 4, none⟩ = some (.string ⟨#[110, 111, 116, 101, 110, 100, 115]⟩)
  t5 : w.cell? ⟨1, 5, none⟩ = some (.string ⟨#[112, 114, 105, 111, 114, 105, 116, 121, 61]⟩)
theorem TextsAt.below {w w' : World} (h : TextsAt w) (hb : Below w.heap.size w w') : TextsAt w' := by
  have hl := World.block_lt_of_cell? w _ h.t0
  exact ⟨(hb.cell (p := ⟨1, 0, none⟩) hl).trans h.t0, (hb.cell (p := ⟨1, 1, none⟩) hl).trans h.t1, (hb.cell (p := ⟨1, 2, none⟩) hl).trans h.t2, (hb.cell (p := ⟨1, 3, none⟩) hl).trans h.t3, (hb.cell (p := ⟨1, 4, none⟩) hl).trans h.t4, (hb.cell (p := ⟨1, 5, none⟩) hl).trans h.t5⟩
def textK (k : Int) : ByteArray := if k = 0 then ⟨#[97, 108, 108]⟩ else if k = 1 then ⟨#[98, 101, 115, 116]⟩ else if k = 2 then ⟨#[110, 111, 116, 98, 101, 115, 116]⟩ else if k = 3 then ⟨#[101, 110, 100, 115]⟩ else if k = 4 then ⟨#[110, 111, 116, 101, 110, 100, 115]⟩ else ⟨#[112, 114, 105, 111, 114, 105, 116, 121, 61]⟩
def funcK (k : Int) : FuncId := if k = 1 then 89 else if k = 2 then 91 else if k = 3 then 92 else if k = 4 then 93 else if k = 5 then 94 else 95
end Go.Proofs.YtdchffghgajbfaaDoor
