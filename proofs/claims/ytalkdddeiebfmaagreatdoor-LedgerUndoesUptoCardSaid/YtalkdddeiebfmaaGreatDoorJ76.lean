/- An object that is an argument, read as a Lean value. -/
import Derived.Test.YtalkdddeiebfmaaGreatDoorJL
import Derived.Test.YtalkdddeiebfmaaGreatDoorJF
import Derived.Test.YtalkdddeiebfmaaGreatDoorJ66
namespace Go.Proofs.YtalkdddeiebfmaaGreatDoor
open Go.ChangeShapes Go.WideShapes Go.ChangeAt Go.RowKit Go.Deep

set_option maxRecDepth 100000 in
theorem open_objM {H : Type} {enc : TypeId × Value → H} {w : World} {base b0 : Nat} {r : Reach} {sp : Nat → Bool} {held : Bool} {v : Value} {x : DataW H} {p : List MemPlace}
    (hv : Value.okWide Tryz.prog w r b0 26 v) (h : DataW.Trod enc Tryz.prog w base sp held 26 v x p) :
    ∃ (o : ObjM) (L : Option Addr) (m : Nat) (B : Option Addr) (c : Nat), v = .agg #[.string o.path, .string o.name, .slice L o.ls.length m, .int .i64 o.prio, .int .i64 o.dl, .slice B o.parts.length c, .int .i64 o.ver] ∧ Row kLab (fun _ => True) w L o.ls ∧ Row kPart (fun _ => True) w B o.parts ∧ rObj H o x := by
  obtain ⟨cs, rfl, hsz⟩ := okWide_struct Tryz.underlying26 hv
  obtain ⟨v0, v1, v2, v3, v4, v5, v6, rfl⟩ := array7 (hsz.trans (by kernel_rfl))
  obtain ⟨fuel, hf0⟩ := h
  obtain ⟨y, hR, hr⟩ := dec_obj.dec hf0 rfl
  obtain ⟨L, m, B, c, hcs, hl, hp⟩ := kObj_cells hR
  refine ⟨y, L, m, B, c, ?_, hl, hp, hr⟩
  have e : [v0, v1, v2, v3, v4, v5, v6] = _ := hcs
  injection e with e0 e
  injection e with e1 e
  injection e with e2 e
  injection e with e3 e
  injection e with e4 e
  injection e with e5 e
  injection e with e6 e
  rw [e0, e1, e2, e3, e4, e5, e6]
theorem objfit_row {w : World} {o : ObjM} {L : Option Addr} {m : Nat} {B : Option Addr} (f : ObjMFit o) (hl : Row kLab (fun _ => True) w L o.ls) (hp : Row kPart (fun _ => True) w B o.parts) : ObjFit w (o.at_ L m) B o.ls := ⟨hp, ⟨L, m, rfl, hl⟩, f.n64, f.n24, f.n32⟩
theorem change_cases {m : Nat} {S S1 S2 S3 : Pl → Int} {C C1 C2 C3 : ByteArray → Int} {o p : ObjV} {z2 z3 : Int} (k : LedOk m S C) (ho : UseOk o) (h : chargeV S C o = (0, S1, C1)) (hp : chargeV S C p = (z2, S2, C2)) (hc : changeV S1 C1 o p = (z3, S3, C3)) :
    z3 = z2 ∧ ((z2 = 0 ∧ S3 = S2 ∧ C3 = C2) ∨ (z2 ≠ 0 ∧ S3 = S1 ∧ C3 = C1)) := by
  have h1 := changeV_charged (p := p) k ho h
  rw [hc, hp] at h1
  by_cases h2 : z2 = 0
  · rw [if_neg (by simp [h2])] at h1
    injection h1 with a1 a2
    injection a2 with a2 a3
    exact ⟨a1, .inl ⟨h2, a2, a3⟩⟩
  · rw [if_pos h2] at h1
    injection h1 with a1 a2
    injection a2 with a2 a3
    exact ⟨a1, .inr ⟨h2, a2, a3⟩⟩
end Go.Proofs.YtalkdddeiebfmaaGreatDoor
