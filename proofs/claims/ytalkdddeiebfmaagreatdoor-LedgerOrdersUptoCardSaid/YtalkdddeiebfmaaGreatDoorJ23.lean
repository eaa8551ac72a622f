/- ledger.Of. -/
import Derived.Test.YtalkdddeiebfmaaGreatDoorJ22
namespace Go.Proofs.YtalkdddeiebfmaaGreatDoor
open Go.RowKit Go.Maps Go.WideMaps

def LOfPost (os : List ObjM) (n : Nat) (w : World) (e : Ending) (w' : World) : Prop :=
  ((ofV (fun _ => 0) (fun _ => 0) os).1 ≠ 0 ∧ e = .returned (.tuple #[.pointer none, .int .i64 (ofV (fun _ => 0) (fun _ => 0) os).1]) ∨
    (ofV (fun _ => 0) (fun _ => 0) os).1 = 0 ∧ ∃ g b1 b2, e = .returned (.tuple #[.pointer (some ⟨g, 0, none⟩), .int .i64 0]) ∧ IsLed w' g b1 b2 n (ofV (fun _ => 0) (fun _ => 0) os).2.1 (ofV (fun _ => 0) (fun _ => 0) os).2.2 ∧
      LedOk n (ofV (fun _ => 0) (fun _ => 0) os).2.1 (ofV (fun _ => 0) (fun _ => 0) os).2.2 ∧ ∀ i, ledB g b1 b2 i → w.heap.size ≤ i) ∧ Below w.heap.size w w'
/-- how far the loop is -/
structure OfAt (os : List ObjM) (n i m : Nat) (S : Pl → Int) (C : ByteArray → Int) : Prop where
  eq : ofV (fun _ => 0) (fun _ => 0) os = ofV S C (os.drop i)
  ok : LedOk m S C
  sum : m + ((os.drop i).map objWt).sum = n
theorem OfAt.start (os : List ObjM) : OfAt os ((os.map objWt).sum) 0 0 (fun _ => 0) (fun _ => 0) := ⟨rfl, ledOk_zero, by simp⟩
theorem OfAt.step {os : List ObjM} {n i m : Nat} {S S' : Pl → Int} {C C' : ByteArray → Int} (h : OfAt os n i m S C) (hi : i < os.length) (hok : ObjMOk os[i]) (hc : chargeV S C os[i].v = (0, S', C')) : OfAt os n (i + 1) (m + objWt os[i]) S' C' := by
  obtain ⟨h1, h2, h3⟩ := h
  have hd := List.drop_eq_getElem_cons hi
  refine ⟨?_, ?_, ?_⟩
  · rw [h1, hd]
    show (if (chargeV S C os[i].v).1 ≠ 0 then _ else _) = _
    rw [hc, if_neg (by simp)]
  · have := chargeV_ok h2 hok
    rw [hc] at this
    exact this
  · rw [hd] at h3
    simp only [List.map_cons, List.sum_cons] at h3
    omega
theorem OfAt.stop {os : List ObjM} {n i m : Nat} {S S' : Pl → Int} {C C' : ByteArray → Int} {z : Int} (h : OfAt os n i m S C) (hi : i < os.length) (hc : chargeV S C os[i].v = (z, S', C')) (hz : z ≠ 0) : (ofV (fun _ => 0) (fun _ => 0) os).1 = z := by
  rw [h.eq, List.drop_eq_getElem_cons hi]
  show (if (chargeV S C os[i].v).1 ≠ 0 then _ else _ : LRes).1 = _
  rw [hc, if_pos hz]
theorem OfAt.done {os : List ObjM} {n i m : Nat} {S : Pl → Int} {C : ByteArray → Int} (h : OfAt os n i m S C) (hi : os.length ≤ i) : ofV (fun _ => 0) (fun _ => 0) os = (0, S, C) ∧ m = n := by
  obtain ⟨h1, h2, h3⟩ := h
  rw [List.drop_eq_nil_of_le hi] at h1 h3
  exact ⟨h1, by simpa using h3⟩
set_option maxRecDepth 100000 in
set_option maxHeartbeats 1000000 in
theorem ledgerOf_any (os : List ObjM) (A : Option Addr) (c : Nat) (P : Nat → Prop) (w : World) (hm : Ml w) (ht : TextsAt w) (hr : Row kObj P w A os) (hok : ∀ o ∈ os, ObjMOk o) (hlen : os.length ≤ 9223372036854775806) (hn : (os.map objWt).sum ≤ 4611686018427387904) :
    Calls Tryz.prog 11 #[.slice A os.length c] w (LOfPost os ((os.map objWt).sum) w) := by
  obtain ⟨n, hN⟩ : ∃ n, (os.map objWt).sum = n := ⟨_, rfl⟩
  rw [hN] at hn ⊢
  have HST := Lib.hid (show OfAt os n 0 0 (fun _ => 0) (fun _ => 0) by have := OfAt.start os; rw [hN] at this; exact this)
  have HM := Lib.hid hm
  have HT := Lib.hid ht
  have HR := Lib.hid hr
  have HOK := Lib.hid hok
  clear hm ht hr hok hN
  go_enter Tryz.func11, Tryz.ntmps11
  go_wp2_with (go_at_call 20; refine (new_led _).mono ?_; rintro e w1 ⟨g, b1, b2, rfl, hk1, hlow1, hb1⟩; have HK1 := Lib.hid hk1; have HL1 := Lib.hid hlow1; have HB1 := Lib.hid hb1; clear hk1 hlow1 hb1)
  try go_frame
  go_loopw [11] (fun iv wr => ∃ (i m : Nat) (S : Pl → Int) (C : ByteArray → Int), iv = .int .i64 i ∧ i ≤ os.length ∧ Hid (OfAt os n i m S C) ∧ Hid (IsLed wr g b1 b2 m S C) ∧ Hid (Below w.heap.size w wr)) (fun iv _ => os.length - (intOf iv).toNat)
  case atStart => exact ⟨0, 0, _, _, rfl, Nat.zero_le _, HST.out, HK1.out, HB1.out⟩
  case round =>
    obtain ⟨i, m, S, C, rfl, hi, hat, hk, hb⟩ := hrel
    obtain ⟨wq, rfl⟩ : ∃ wq, wq = wr := ⟨_, rfl⟩
    by_cases hlt : i < os.length
    · obtain ⟨a, L, mo, B, cp, rfl, -, hoa⟩ := obj_at HR.out i hlt
      have hobk := HOK.out _ (List.getElem_mem hlt)
      have HSTEP := Lib.hid (fun S' C' hc => hat.out.step (S' := S') (C' := C') hlt hobk hc)
      have HSTOP := Lib.hid (fun S' C' z hc hz => hat.out.stop (S' := S') (C' := C') (z := z) hlt hc hz)
      have hmn : m ≤ n := by have := hat.out.sum; omega
      obtain ⟨o, ho⟩ : ∃ o, os[i] = o := ⟨_, rfl⟩
      rw [ho] at hoa hobk HSTEP HSTOP
      obtain ⟨⟨z, S', C'⟩, hC⟩ : ∃ r, chargeV S C o.v = r := ⟨_, rfl⟩
      rw [hC] at HSTEP HSTOP
      have HLO := hb.out
      obtain ⟨x0, x1, x2, x3, x4, x5, x6, xl, xr⟩ := hoa
      have y0 := (HLO.cell (World.block_lt_of_cell? _ _ x0)).trans x0
      have y1 := (HLO.cell (p := ⟨_, _, none⟩) (World.block_lt_of_cell? _ _ x1)).trans x1
      have y2 := (HLO.cell (p := ⟨_, _, none⟩) (World.block_lt_of_cell? _ _ x2)).trans x2
      have y3 := (HLO.cell (p := ⟨_, _, none⟩) (World.block_lt_of_cell? _ _ x3)).trans x3
      have y4 := (HLO.cell (p := ⟨_, _, none⟩) (World.block_lt_of_cell? _ _ x4)).trans x4
      have y5 := (HLO.cell (p := ⟨_, _, none⟩) (World.block_lt_of_cell? _ _ x5)).trans x5
      have y6 := (HLO.cell (p := ⟨_, _, none⟩) (World.block_lt_of_cell? _ _ x6)).trans x6
      have HBA := Lib.hid ((Below.refl wq.heap.size wq).alloc (Nat.le_refl _) (.cells #[.string o.path, .string o.name, .slice L o.ls.length mo, .int .i64 o.prio, .int .i64 o.dl, .slice B o.parts.length cp, .int .i64 o.ver] 26))
      have HARG := Lib.hid (show OArg w o.v L o.ls.length mo B P from ⟨HM.out, HT.out, ⟨⟨L, _, mo, rfl⟩, xr, hobk.len, hobk.small⟩, hobk.use⟩)
      have HCH := Lib.hid (charge_any (g := g) (b1 := b1) (b2 := b2) (n := m) (S := S) (C := C) o.v m L o.ls.length mo B cp P _ (HARG.out.below (HLO.trans (HBA.out.mono HLO.size))) (hk.out.below HBA.out) hat.out.ok (by omega) (m + 60000000000) (Nat.le_refl _) (by unfold maxLen; omega))
      have HC := Lib.hid hC
      clear ho x0 x1 x2 x3 x4 x5 x6 xl xr hobk HLO hC
      have HNW := Lib.hid (fun k (hk : mapB b1 b2 k) => (show w.heap.size ≤ k from hk.elim (fun e => HL1.out k (.inr (.inl e))) (fun e => HL1.out k (.inr (.inr e)))))
      by_cases hz : z = 0
      · subst hz
        have HS2 := Lib.hid (HSTEP.out S' C' rfl)
        clear HSTEP HSTOP
        go_wp2_with (go_at_call 17; refine HCH.out.mono ?_; rintro e w2 ⟨rfl, hk2, ht2⟩; rw [HC.out] at hk2 ⊢; have HK2 := Lib.hid hk2; have HT2 := Lib.hid ht2; clear hk2 ht2)
        go_roundw
        case rel =>
          have hsz := hb.out.size
          exact ⟨i + 1, m + objWt o, S', C', by go_num, hlt, HS2.out, HK2.out.tight HS2.out.ok, hb.out.trans ((HBA.out.mono hsz).trans (HT2.out.below (by simp; omega) HNW.out))⟩
        case measure => simp [intOf]; omega
      · have e1 : (z != 0) = true := by simpa using hz
        have HZ := Lib.hid (HSTOP.out S' C' z rfl hz)
        have HZ2 := Lib.hid hz
        clear HSTEP HSTOP hz
        go_wp2_with (go_at_call 17; refine HCH.out.mono ?_; rintro e w2 ⟨rfl, hk2, ht2⟩; rw [HC.out] at hk2 ⊢; have HK2 := Lib.hid hk2; have HT2 := Lib.hid ht2; clear hk2 ht2)
        go_ret2
        have hsz := hb.out.size
        refine ⟨.inl ⟨by rw [HZ.out]; exact HZ2.out, by rw [HZ.out]; rfl⟩, hb.out.trans ((HBA.out.mono hsz).trans (HT2.out.below (by simp; omega) HNW.out))⟩
    · have hge : ¬ ((i : Int) < (os.length : Int)) := by omega
      obtain ⟨hof, rfl⟩ := hat.out.done (by omega)
      have HOF := Lib.hid hof
      clear hof
      go_wp2
      go_ret2
      refine ⟨.inr ?_, hb.out⟩
      rw [HOF.out]
      exact ⟨rfl, g, b1, b2, rfl, hk.out, hat.out.ok, HL1.out⟩
end Go.Proofs.YtalkdddeiebfmaaGreatDoor
