/- Events: as they lie in memory; what a hub does to them, in plain words. -/
import Derived.Test.YtdchffghgajbfaaDoorK2
import Derived.Test.YtdchffghgajbfaaDoorP0
import Derived.Test.YtdchffghgajbfaaDoorProg
import Derived.KernelRfl
namespace Go.Proofs.YtdchffghgajbfaaDoor
open Go.RowKit

structure Ev where
  ver : Int
  kind : Int
  gone : Bool
  path : ByteArray
  name : ByteArray
def Ev.cells (e : Ev) : List Value := [.int .i64 e.ver, .int .i64 e.kind, .bool e.gone, .string e.path, .string e.name]
def kEvent : Kn Ev := Kn.enc Ev.cells 5 (by omega) (fun _ => rfl) (fun x u hu => by simp [Ev.cells] at hu; rcases hu with rfl | rfl | rfl | rfl | rfl <;> rfl)
theorem kEvent_plain : kEvent.Plain := Kn.plain_enc
theorem kEvent_sz : kEvent.sz = 5 := rfl
theorem evElem : Elem Tryd.prog 29 41 kEvent 56 :=
  Elem.mk_ (z := .agg #[.int .i64 0, .int .i64 0, .bool false, .string ⟨#[]⟩, .string ⟨#[]⟩]) Tryd.underlying29 (by kernel_rfl) rfl (by omega)

theorem versElem : Elem Tryd.prog 33 29 (Kn.slice kEvent) 24 :=
  Elem.mk_ (z := .slice none 0 0) Tryd.underlying33 (by kernel_rfl) rfl (by omega)
/-- element i's five cells, as the walk spells them -/
structure EvAt (w : World) (a : Addr) (e : Ev) : Prop where
  c0 : w.cell? a = some (.int .i64 e.ver)
  c1 : w.cell? ⟨a.block, a.off + 1, none⟩ = some (.int .i64 e.kind)
  c2 : w.cell? ⟨a.block, a.off + 2, none⟩ = some (.bool e.gone)
  c3 : w.cell? ⟨a.block, a.off + 3, none⟩ = some (.string e.path)
  c4 : w.cell? ⟨a.block, a.off + 4, none⟩ = some (.string e.name)
theorem ev_at {P : Nat → Prop} {w : World} {A : Option Addr} {xs : List Ev} (h : Row kEvent P w A xs) (i : Nat) (hi : i < xs.length) : ∃ a, A = some a ∧ P a.block ∧ EvAt w (a.add (i * 5)) xs[i] := by
  obtain ⟨a, cs, hA, hP, hr, hc⟩ := h.at_ i hi
  obtain rfl : cs = xs[i].cells := hr
  exact ⟨a, hA, hP, hc 0 _ rfl, by rw [← add_off _ _ 1 (by omega)]; exact hc 1 _ rfl, by rw [← add_off _ _ 2 (by omega)]; exact hc 2 _ rfl, by rw [← add_off _ _ 3 (by omega)]; exact hc 3 _ rfl, by rw [← add_off _ _ 4 (by omega)]; exact hc 4 _ rfl⟩
end Go.Proofs.YtdchffghgajbfaaDoor
