/- Objects handed on. -/
import Derived.Test.YtalkdddeiebfmaaGreatDoorJ29
namespace Go.Proofs.YtalkdddeiebfmaaGreatDoor
open Go.RowKit

/-- what the laws' walks want of an object: its lists are none of them too long to be laid anew -/
structure ObjMFit (o : ObjM) : Prop where
  ok : ObjMOk o
  n64 : o.parts.length * 64 ≤ 140737488351232
  n24 : ∀ p ∈ o.parts, p.req.length * 24 ≤ 140737488351232 ∧ p.lim.length * 24 ≤ 140737488351232
  n32 : o.ls.length * 32 ≤ 140737488351232
theorem ObjMAt.fit {P : Nat → Prop} {w : World} {a : Addr} {o : ObjM} {L : Option Addr} {m : Nat} {B : Option Addr} {c : Nat} (h : ObjMAt P w a o L m B c) (f : ObjMFit o) : ObjFit w (o.at_ L m) B o.ls :=
  ⟨h.row.mono fun _ _ => trivial, ⟨L, m, rfl, h.lab.mono fun _ _ => trivial⟩, f.n64, f.n24, f.n32⟩
theorem ObjMAt.arg {P : Nat → Prop} {w : World} {a : Addr} {o : ObjM} {L : Option Addr} {m : Nat} {B : Option Addr} {c : Nat} (h : ObjMAt P w a o L m B c) (f : ObjMOk o) (hm : Ml w) (ht : TextsAt w) : OArg w o.v L o.ls.length m B P :=
  ⟨hm, ht, ⟨⟨L, _, m, rfl⟩, h.row, f.len, f.small⟩, f.use⟩
theorem kObj_parts {P : Nat → Prop} {w : World} {o : ObjM} {L : Option Addr} {m : Nat} {B : Option Addr} {c : Nat} (h : kObj.R P w o [.string o.path, .string o.name, .slice L o.ls.length m, .int .i64 o.prio, .int .i64 o.dl, .slice B o.parts.length c, .int .i64 o.ver]) : Row kPart P w B o.parts ∧ Row kLab P w L o.ls := by
  obtain ⟨c1, c2, e1, h1, c3, c4, rfl, h3, c5, c6, rfl, ⟨L', m', rfl, hrow⟩, c7, c8, rfl, h7, c9, c10, rfl, h9, c11, c12, rfl, ⟨v2, rfl, B', c', rfl, _, _, hrow2⟩, h11⟩ := h
  obtain rfl : c1 = [.string o.path] := h1
  obtain rfl : c3 = [.string o.name] := h3
  obtain rfl : c7 = [.int .i64 o.prio] := h7
  obtain rfl : c9 = [.int .i64 o.dl] := h9
  obtain rfl : c12 = [.int .i64 o.ver] := h11
  simp at e1
  obtain ⟨⟨rfl, rfl⟩, rfl, rfl⟩ := e1
  exact ⟨hrow2, hrow⟩
theorem oarg_of {P : Nat → Prop} {w : World} {o : ObjM} {L : Option Addr} {m : Nat} {B : Option Addr} {c : Nat} (h : kObj.R P w o [.string o.path, .string o.name, .slice L o.ls.length m, .int .i64 o.prio, .int .i64 o.dl, .slice B o.parts.length c, .int .i64 o.ver]) (f : ObjMOk o) (hm : Ml w) (ht : TextsAt w) : OArg w o.v L o.ls.length m B P :=
  ⟨hm, ht, ⟨⟨L, _, m, rfl⟩, (kObj_parts h).1, f.len, f.small⟩, f.use⟩
theorem objfit_of {P : Nat → Prop} {w : World} {o : ObjM} {L : Option Addr} {m : Nat} {B : Option Addr} {c : Nat} (h : kObj.R P w o [.string o.path, .string o.name, .slice L o.ls.length m, .int .i64 o.prio, .int .i64 o.dl, .slice B o.parts.length c, .int .i64 o.ver]) (f : ObjMFit o) : ObjFit w (o.at_ L m) B o.ls :=
  ⟨(kObj_parts h).1.mono fun _ _ => trivial, ⟨L, m, rfl, (kObj_parts h).2.mono fun _ _ => trivial⟩, f.n64, f.n24, f.n32⟩
end Go.Proofs.YtalkdddeiebfmaaGreatDoor
