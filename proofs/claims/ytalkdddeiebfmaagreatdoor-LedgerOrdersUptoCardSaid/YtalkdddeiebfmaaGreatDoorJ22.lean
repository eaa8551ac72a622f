/- Objects in rows; ledger.Of. -/
import Derived.Test.YtalkdddeiebfmaaGreatDoorJ21
namespace Go.Proofs.YtalkdddeiebfmaaGreatDoor
open Go.RowKit Go.Maps Go.WideMaps

/-- an object, its labels read too -/
structure ObjM where
  path : ByteArray
  name : ByteArray
  ls : List LabV
  prio : Int
  dl : Int
  parts : List PartV
  ver : Int
def ObjM.at_ (o : ObjM) (L : Option Addr) (m : Nat) : ObjV := ⟨o.path, o.name, .slice L o.ls.length m, o.prio, o.dl, o.parts, o.ver⟩
/-- its labels forgotten -/
def ObjM.v (o : ObjM) : ObjV := o.at_ none 0
/-- a slice in a cell, of whatever capacity -/
def Kn.sliceN {α : Type} (d : Kn α) : Kn (List α) where
  sz := 1
  pos := by omega
  R P w xs cs := ∃ A c, cs = [.slice A xs.length c] ∧ Row d P w A xs
  len h := by obtain ⟨A, c, rfl, _⟩ := h; rfl
  one h u hu := by
    obtain ⟨A, c, rfl, _⟩ := h
    rw [List.mem_singleton.1 hu]; rfl
  mono hp h := let ⟨A, c, e, hr⟩ := h; ⟨A, c, e, hr.mono hp⟩
  keep hk h := let ⟨A, c, e, hr⟩ := h; ⟨A, c, e, hr.keep hk⟩
  lt h := let ⟨A, c, e, hr⟩ := h; ⟨A, c, e, hr.lt⟩
def kObj : Kn ObjM := Kn.iso (Kn.pair Kn.str (Kn.pair Kn.str (Kn.pair (Kn.sliceN kLab) (Kn.pair (Kn.int .i64) (Kn.pair (Kn.int .i64) (Kn.pair (Kn.slice kPart) (Kn.int .i64))))))) (fun o : ObjM => (o.path, o.name, o.ls, o.prio, o.dl, o.parts, o.ver))
theorem kObj_sz : kObj.sz = 7 := rfl
theorem objElem : Elem Tryz.prog 22 26 kObj 104 :=
  Elem.mk_ (z := .agg #[.string ⟨#[]⟩, .string ⟨#[]⟩, .slice none 0 0, .int .i64 0, .int .i64 0, .slice none 0 0, .int .i64 0]) Tryz.underlying22 (by kernel_rfl) rfl (by omega)
structure ObjMAt (P : Nat → Prop) (w : World) (a : Addr) (o : ObjM) (L : Option Addr) (m : Nat) (B : Option Addr) (c : Nat) : Prop where
  c0 : w.cell? a = some (.string o.path)
  c1 : w.cell? ⟨a.block, a.off + 1, none⟩ = some (.string o.name)
  c2 : w.cell? ⟨a.block, a.off + 2, none⟩ = some (.slice L o.ls.length m)
  c3 : w.cell? ⟨a.block, a.off + 3, none⟩ = some (.int .i64 o.prio)
  c4 : w.cell? ⟨a.block, a.off + 4, none⟩ = some (.int .i64 o.dl)
  c5 : w.cell? ⟨a.block, a.off + 5, none⟩ = some (.slice B o.parts.length c)
  c6 : w.cell? ⟨a.block, a.off + 6, none⟩ = some (.int .i64 o.ver)
  lab : Row kLab P w L o.ls
  row : Row kPart P w B o.parts
theorem obj_at {P : Nat → Prop} {w : World} {A : Option Addr} {xs : List ObjM} (h : Row kObj P w A xs) (i : Nat) (hi : i < xs.length) : ∃ a L m B c, A = some a ∧ P a.block ∧ ObjMAt P w (a.add (i * 7)) xs[i] L m B c := by
  obtain ⟨a, cs, hA, hP, hr, hc⟩ := h.at_ i hi
  obtain ⟨c1, c2, rfl, h1, c3, c4, rfl, h3, c5, c6, rfl, ⟨L, m, rfl, hrow⟩, c7, c8, rfl, h7, c9, c10, rfl, h9, c11, c12, rfl, ⟨v2, rfl, B, c, rfl, _, _, hrow2⟩, h11⟩ := hr
  obtain rfl : c1 = [.string xs[i].path] := h1
  obtain rfl : c3 = [.string xs[i].name] := h3
  obtain rfl : c7 = [.int .i64 xs[i].prio] := h7
  obtain rfl : c9 = [.int .i64 xs[i].dl] := h9
  obtain rfl : c12 = [.int .i64 xs[i].ver] := h11
  exact ⟨a, L, m, B, c, hA, hP, hc 0 _ rfl, by rw [← add_off _ _ 1 (by omega)]; exact hc 1 _ rfl, by rw [← add_off _ _ 2 (by omega)]; exact hc 2 _ rfl, by rw [← add_off _ _ 3 (by omega)]; exact hc 3 _ rfl, by rw [← add_off _ _ 4 (by omega)]; exact hc 4 _ rfl, by rw [← add_off _ _ 5 (by omega)]; exact hc 5 _ rfl, by rw [← add_off _ _ 6 (by omega)]; exact hc 6 _ rfl, hrow, hrow2⟩
/-- all objects charged, up to the first refusal -/
def ofV (S : Pl → Int) (C : ByteArray → Int) : List ObjM → LRes
  | [] => (0, S, C)
  | o :: os => if (chargeV S C o.v).1 ≠ 0 then ((chargeV S C o.v).1, S, C) else ofV (chargeV S C o.v).2.1 (chargeV S C o.v).2.2 os
/-- what the walks want of an object -/
structure ObjMOk (o : ObjM) : Prop where
  use : UseOk o.v
  len : o.parts.length ≤ 9223372036854775807
  small : PartsOk o.parts
def objWt (o : ObjM) : Nat := 1 + (sharesV o.v).2.1.length + (sharesV o.v).1.length
theorem chargeV_ok {m : Nat} {S : Pl → Int} {C : ByteArray → Int} {o : ObjM} (k : LedOk m S C) (ho : ObjMOk o) : LedOk (m + objWt o) (chargeV S C o.v).2.1 (chargeV S C o.v).2.2 := by
  unfold chargeV objWt
  split
  · exact k.mono (by omega)
  · rename_i h1
    split
    · exact k.mono (by omega)
    · rename_i h2
      have hz : (sharesV o.v).2.2 = 0 := Decidable.of_not_not h1
      have := k.charge (sharesV_ok ho.use (l := (sharesV o.v).1) (T := (sharesV o.v).2.1) (by rw [← hz])) (Decidable.of_not_not h2)
      exact this.mono (by omega)
theorem objWt_le {o : ObjM} (h : (sharesV o.v).2.2 = 0) (ho : ObjMOk o) : objWt o ≤ 60000000000 := by
  have := sharesV_ok ho.use (l := (sharesV o.v).1) (T := (sharesV o.v).2.1) (by rw [← h])
  have h1 := this.few
  have h2 := this.len
  unfold objWt; omega
end Go.Proofs.YtalkdddeiebfmaaGreatDoor
