/- Charge and Release undo each other: plain. No program in sight. -/
import Derived.Test.YtalkdddeiebfmaaGreatDoorJ62
namespace Go.Proofs.YtalkdddeiebfmaaGreatDoor

section
variable {m : Nat} {S S1 : Pl → Int} {C C1 : ByteArray → Int} {o p : ObjV}
theorem goneV_charged (k : LedOk m S C) (ho : UseOk o) (h : chargeV S C o = (0, S1, C1)) : (goneV S1 C1 o).2.2 = 0 := by
  obtain ⟨h1, h2, rfl, rfl⟩ := chargeV_acc h
  have hs := sharesV_ok ho (show sharesV o = ((sharesV o).1, (sharesV o).2.1, 0) by rw [← h1])
  have hj : judgeU (addS 1 S (sharesV o).2.1) (sharesV o).2.1 = 0 := by
    unfold judgeU
    rw [judgeL_zero]
    intro s hx
    rw [if_neg]
    rw [addS_svL, svL_in hs.nod s hx]
    have := k.lo s.1
    omega
  have hc : (sharesV o).1.any (fun p => addC 1 C (sharesV o).1 p == 0) = false := by
    rw [List.any_eq_false]
    intro q hq
    rw [addC_cvL]
    have h3 := cvL_in hq
    have h4 := k.clo q
    simp only [beq_iff_eq]
    omega
  unfold goneV
  rw [if_neg (by simp [h1]), if_neg (by simp [hj]), if_neg (by simp [hc])]
theorem releaseV_charged (k : LedOk m S C) (ho : UseOk o) (h : chargeV S C o = (0, S1, C1)) : releaseV S1 C1 o = (0, S, C) := by
  have hg := goneV_charged k ho h
  obtain ⟨-, -, rfl, rfl⟩ := chargeV_acc h
  exact release_undoes hg
theorem changeV_charged (k : LedOk m S C) (ho : UseOk o) (h : chargeV S C o = (0, S1, C1)) : changeV S1 C1 o p = if (chargeV S C p).1 ≠ 0 then ((chargeV S C p).1, S1, C1) else chargeV S C p := by
  have hg := goneV_charged k ho h
  have hr := releaseV_charged k ho h
  unfold changeV
  rw [if_neg (by simp [hg]), hr]
theorem changeV_self (k : LedOk m S C) (ho : UseOk o) (h : chargeV S C o = (0, S1, C1)) : changeV S1 C1 o o = (0, S1, C1) := by
  rw [changeV_charged k ho h, h]
  rfl
theorem chargeV_eta (h : (chargeV S C o).1 = 0) : chargeV S C o = (0, (chargeV S C o).2.1, (chargeV S C o).2.2) := by rw [← h]
end
end Go.Proofs.YtalkdddeiebfmaaGreatDoor
