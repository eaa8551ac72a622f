/- scope: the kinds' functions, kindOf, In. -/
import Derived.Test.YtdchffghgajbfaaU2
namespace Go.Proofs.Ytdchffghgajbfaa
open Go.RowKit

/-- an object's value is a value of this form -/
structure ObjOk (w : World) (o : ObjV) (A : Option Addr) (P : Nat → Prop) : Prop where
  lab : ∃ B n m, o.labels = .slice B n m
  row : Row kPart P w A o.parts
  len : o.parts.length ≤ 9223372036854775807
  small : PartsOk o.parts
theorem ObjOk.below {w w' : World} {o : ObjV} {A : Option Addr} {P : Nat → Prop} (h : ObjOk w o A P) (hb : Below w.heap.size w w') : ObjOk w' o A P := ⟨h.lab, h.row.below hb, h.len, h.small⟩
def ObjV.cells (o : ObjV) (A : Option Addr) (c : Nat) : Array Value := #[.string o.path, .string o.name, o.labels, .int .i64 o.prio, .int .i64 o.dl, .slice A o.parts.length c, .int .i64 o.ver]
structure ObjAt (w : World) (b : Nat) (o : ObjV) (A : Option Addr) (c : Nat) : Prop where
  c0 : w.cell? ⟨b, 0, none⟩ = some (.string o.path)
  c1 : w.cell? ⟨b, 1, none⟩ = some (.string o.name)
  c2 : w.cell? ⟨b, 2, none⟩ = some o.labels
  c3 : w.cell? ⟨b, 3, none⟩ = some (.int .i64 o.prio)
  c4 : w.cell? ⟨b, 4, none⟩ = some (.int .i64 o.dl)
  c5 : w.cell? ⟨b, 5, none⟩ = some (.slice A o.parts.length c)
  c6 : w.cell? ⟨b, 6, none⟩ = some (.int .i64 o.ver)
theorem objAt_new (w : World) (o : ObjV) (A : Option Addr) (c : Nat) : ObjAt (w.alloc (.cells (o.cells A c) 25)) w.heap.size o A c := by
  have h := heap_alloc_new w (.cells (o.cells A c) 25)
  exact ⟨(cell_of_row _ _ _ _ _ _ h).trans rfl, (cell_of_row _ _ _ _ _ _ h).trans rfl, (cell_of_row _ _ _ _ _ _ h).trans rfl, (cell_of_row _ _ _ _ _ _ h).trans rfl, (cell_of_row _ _ _ _ _ _ h).trans rfl, (cell_of_row _ _ _ _ _ _ h).trans rfl, (cell_of_row _ _ _ _ _ _ h).trans rfl⟩
theorem ObjAt.below {w w' : World} {b : Nat} {o : ObjV} {A : Option Addr} {c : Nat} (h : ObjAt w b o A c) (hb : Below w.heap.size w w') : ObjAt w' b o A c := by
  have hl := World.block_lt_of_cell? w _ h.c0
  exact ⟨(hb.cell (p := ⟨b, 0, none⟩) hl).trans h.c0, (hb.cell (p := ⟨b, 1, none⟩) hl).trans h.c1, (hb.cell (p := ⟨b, 2, none⟩) hl).trans h.c2, (hb.cell (p := ⟨b, 3, none⟩) hl).trans h.c3, (hb.cell (p := ⟨b, 4, none⟩) hl).trans h.c4, (hb.cell (p := ⟨b, 5, none⟩) hl).trans h.c5, (hb.cell (p := ⟨b, 6, none⟩) hl).trans h.c6⟩

section
variable (o : ObjV) (A : Option Addr) (c : Nat) (P : Nat → Prop) (arg : Int) (w : World) (ho : ObjOk w o A P)
include ho
end

def textK (k : Int) : ByteArray := if k = 0 then ⟨#[97, 108, 108]⟩ else if k = 1 then ⟨#[98, 101, 115, 116]⟩ else if k = 2 then ⟨#[110, 111, 116, 98, 101, 115, 116]⟩ else if k = 3 then ⟨#[101, 110, 100, 115]⟩ else if k = 4 then ⟨#[110, 111, 116, 101, 110, 100, 115]⟩ else ⟨#[112, 114, 105, 111, 114, 105, 116, 121, 61]⟩
end Go.Proofs.Ytdchffghgajbfaa
