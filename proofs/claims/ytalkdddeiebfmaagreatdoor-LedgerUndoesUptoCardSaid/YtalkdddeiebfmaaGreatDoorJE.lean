/- Laid together: J22 J23 J24 J25 J26 J27 J28 J29 J30 J31 J32. -/
import Derived.Test.YtalkdddeiebfmaaGreatDoorJD
/- Objects in rows; ledger.Of. -/
namespace Go.Proofs.YtalkdddeiebfmaaGreatDoor
open Go.RowKit Go.Maps Go.WideMaps

/-- an object, its labels read too -/
structure ObjM where
  path : ByteArray
  name : ByteArray
  ls : List LabV
  prio : Int
  dl : Int
  parts : List PartV
  ver : Int
def ObjM.at_ (o : ObjM) (L : Option Addr) (m : Nat) : ObjV := ⟨o.path, o.name, .slice L o.ls.length m, o.prio, o.dl, o.parts, o.ver⟩
/-- its labels forgotten -/
def ObjM.v (o : ObjM) : ObjV := o.at_ none 0
/-- a slice in a cell, of whatever capacity -/
def Kn.sliceN {α : Type} (d : Kn α) : Kn (List α) where
  sz := 1
  pos := by omega
  R P w xs cs := ∃ A c, cs = [.slice A xs.length c] ∧ Row d P w A xs
  len h := by obtain ⟨A, c, rfl, _⟩ := h; rfl
  one h u hu := by
    obtain ⟨A, c, rfl, _⟩ := h
    rw [List.mem_singleton.1 hu]; rfl
  mono hp h := let ⟨A, c, e, hr⟩ := h; ⟨A, c, e, hr.mono hp⟩
  keep hk h := let ⟨A, c, e, hr⟩ := h; ⟨A, c, e, hr.keep hk⟩
  lt h := let ⟨A, c, e, hr⟩ := h; ⟨A, c, e, hr.lt⟩
def kObj : Kn ObjM := Kn.iso (Kn.pair Kn.str (Kn.pair Kn.str (Kn.pair (Kn.sliceN kLab) (Kn.pair (Kn.int .i64) (Kn.pair (Kn.int .i64) (Kn.pair (Kn.slice kPart) (Kn.int .i64))))))) (fun o : ObjM => (o.path, o.name, o.ls, o.prio, o.dl, o.parts, o.ver))
theorem kObj_sz : kObj.sz = 7 := rfl
theorem objElem : Elem Tryz.prog 22 26 kObj 104 :=
  Elem.mk_ (z := .agg #[.string ⟨#[]⟩, .string ⟨#[]⟩, .slice none 0 0, .int .i64 0, .int .i64 0, .slice none 0 0, .int .i64 0]) Tryz.underlying22 (by kernel_rfl) rfl (by omega)
structure ObjMAt (P : Nat → Prop) (w : World) (a : Addr) (o : ObjM) (L : Option Addr) (m : Nat) (B : Option Addr) (c : Nat) : Prop where
  c0 : w.cell? a = some (.string o.path)
  c1 : w.cell? ⟨a.block, a.off + 1, none⟩ = some (.string o.name)
  c2 : w.cell? ⟨a.block, a.off + 2, none⟩ = some (.slice L o.ls.length m)
  c3 : w.cell? ⟨a.block, a.off + 3, none⟩ = some (.int .i64 o.prio)
  c4 : w.cell? ⟨a.block, a.off + 4, none⟩ = some (.int .i64 o.dl)
  c5 : w.cell? ⟨a.block, a.off + 5, none⟩ = some (.slice B o.parts.length c)
  c6 : w.cell? ⟨a.block, a.off + 6, none⟩ = some (.int .i64 o.ver)
  lab : Row kLab P w L o.ls
  row : Row kPart P w B o.parts
theorem obj_at {P : Nat → Prop} {w : World} {A : Option Addr} {xs : List ObjM} (h : Row kObj P w A xs) (i : Nat) (hi : i < xs.length) : ∃ a L m B c, A = some a ∧ P a.block ∧ ObjMAt P w (a.add (i * 7)) xs[i] L m B c := by
  obtain ⟨a, cs, hA, hP, hr, hc⟩ := h.at_ i hi
  obtain ⟨c1, c2, rfl, h1, c3, c4, rfl, h3, c5, c6, rfl, ⟨L, m, rfl, hrow⟩, c7, c8, rfl, h7, c9, c10, rfl, h9, c11, c12, rfl, ⟨v2, rfl, B, c, rfl, _, _, hrow2⟩, h11⟩ := hr
  obtain rfl : c1 = [.string xs[i].path] := h1
  obtain rfl : c3 = [.string xs[i].name] := h3
  obtain rfl : c7 = [.int .i64 xs[i].prio] := h7
  obtain rfl : c9 = [.int .i64 xs[i].dl] := h9
  obtain rfl : c12 = [.int .i64 xs[i].ver] := h11
  exact ⟨a, L, m, B, c, hA, hP, hc 0 _ rfl, by rw [← add_off _ _ 1 (by omega)]; exact hc 1 _ rfl, by rw [← add_off _ _ 2 (by omega)]; exact hc 2 _ rfl, by rw [← add_off _ _ 3 (by omega)]; exact hc 3 _ rfl, by rw [← add_off _ _ 4 (by omega)]; exact hc 4 _ rfl, by rw [← add_off _ _ 5 (by omega)]; exact hc 5 _ rfl, by rw [← add_off _ _ 6 (by omega)]; exact hc 6 _ rfl, hrow, hrow2⟩
/-- all objects charged, up to the first refusal -/
def ofV (S : Pl → Int) (C : ByteArray → Int) : List ObjM → LRes
  | [] => (0, S, C)
  | o :: os => if (chargeV S C o.v).1 ≠ 0 then ((chargeV S C o.v).1, S, C) else ofV (chargeV S C o.v).2.1 (chargeV S C o.v).2.2 os
/-- what the walks want of an object -/
structure ObjMOk (o : ObjM) : Prop where
  use : UseOk o.v
  len : o.parts.length ≤ 9223372036854775807
  small : PartsOk o.parts
def objWt (o : ObjM) : Nat := 1 + (sharesV o.v).2.1.length + (sharesV o.v).1.length
theorem chargeV_ok {m : Nat} {S : Pl → Int} {C : ByteArray → Int} {o : ObjM} (k : LedOk m S C) (ho : ObjMOk o) : LedOk (m + objWt o) (chargeV S C o.v).2.1 (chargeV S C o.v).2.2 := by
  unfold chargeV objWt
  split
  · exact k.mono (by omega)
  · rename_i h1
    split
    · exact k.mono (by omega)
    · rename_i h2
      have hz : (sharesV o.v).2.2 = 0 := Decidable.of_not_not h1
      have := k.charge (sharesV_ok ho.use (l := (sharesV o.v).1) (T := (sharesV o.v).2.1) (by rw [← hz])) (Decidable.of_not_not h2)
      exact this.mono (by omega)
theorem objWt_le {o : ObjM} (h : (sharesV o.v).2.2 = 0) (ho : ObjMOk o) : objWt o ≤ 60000000000 := by
  have := sharesV_ok ho.use (l := (sharesV o.v).1) (T := (sharesV o.v).2.1) (by rw [← h])
  have h1 := this.few
  have h2 := this.len
  unfold objWt; omega
end Go.Proofs.YtalkdddeiebfmaaGreatDoor
/- ledger.Of. -/
namespace Go.Proofs.YtalkdddeiebfmaaGreatDoor
open Go.RowKit Go.Maps Go.WideMaps

def LOfPost (os : List ObjM) (n : Nat) (w : World) (e : Ending) (w' : World) : Prop :=
  ((ofV (fun _ => 0) (fun _ => 0) os).1 ≠ 0 ∧ e = .returned (.tuple #[.pointer none, .int .i64 (ofV (fun _ => 0) (fun _ => 0) os).1]) ∨
    (ofV (fun _ => 0) (fun _ => 0) os).1 = 0 ∧ ∃ g b1 b2, e = .returned (.tuple #[.pointer (some ⟨g, 0, none⟩), .int .i64 0]) ∧ IsLed w' g b1 b2 n (ofV (fun _ => 0) (fun _ => 0) os).2.1 (ofV (fun _ => 0) (fun _ => 0) os).2.2 ∧
      LedOk n (ofV (fun _ => 0) (fun _ => 0) os).2.1 (ofV (fun _ => 0) (fun _ => 0) os).2.2 ∧ ∀ i, ledB g b1 b2 i → w.heap.size ≤ i) ∧ Below w.heap.size w w'
/-- how far the loop is -/
structure OfAt (os : List ObjM) (n i m : Nat) (S : Pl → Int) (C : ByteArray → Int) : Prop where
  eq : ofV (fun _ => 0) (fun _ => 0) os = ofV S C (os.drop i)
  ok : LedOk m S C
  sum : m + ((os.drop i).map objWt).sum = n
theorem OfAt.start (os : List ObjM) : OfAt os ((os.map objWt).sum) 0 0 (fun _ => 0) (fun _ => 0) := ⟨rfl, ledOk_zero, by simp⟩
theorem OfAt.step {os : List ObjM} {n i m : Nat} {S S' : Pl → Int} {C C' : ByteArray → Int} (h : OfAt os n i m S C) (hi : i < os.length) (hok : ObjMOk os[i]) (hc : chargeV S C os[i].v = (0, S', C')) : OfAt os n (i + 1) (m + objWt os[i]) S' C' := by
  obtain ⟨h1, h2, h3⟩ := h
  have hd := List.drop_eq_getElem_cons hi
  refine ⟨?_, ?_, ?_⟩
  · rw [h1, hd]
    show (if (chargeV S C os[i].v).1 ≠ 0 then _ else _) = _
    rw [hc, if_neg (by simp)]
  · have := chargeV_ok h2 hok
    rw [hc] at this
    exact this
  · rw [hd] at h3
    simp only [List.map_cons, List.sum_cons] at h3
    omega
theorem OfAt.stop {os : List ObjM} {n i m : Nat} {S S' : Pl → Int} {C C' : ByteArray → Int} {z : Int} (h : OfAt os n i m S C) (hi : i < os.length) (hc : chargeV S C os[i].v = (z, S', C')) (hz : z ≠ 0) : (ofV (fun _ => 0) (fun _ => 0) os).1 = z := by
  rw [h.eq, List.drop_eq_getElem_cons hi]
  show (if (chargeV S C os[i].v).1 ≠ 0 then _ else _ : LRes).1 = _
  rw [hc, if_pos hz]
theorem OfAt.done {os : List ObjM} {n i m : Nat} {S : Pl → Int} {C : ByteArray → Int} (h : OfAt os n i m S C) (hi : os.length ≤ i) : ofV (fun _ => 0) (fun _ => 0) os = (0, S, C) ∧ m = n := by
  obtain ⟨h1, h2, h3⟩ := h
  rw [List.drop_eq_nil_of_le hi] at h1 h3
  exact ⟨h1, by simpa using h3⟩
set_option maxRecDepth 100000 in
set_option maxHeartbeats 1000000 in
theorem ledgerOf_any (os : List ObjM) (A : Option Addr) (c : Nat) (P : Nat → Prop) (w : World) (hm : Ml w) (ht : TextsAt w) (hr : Row kObj P w A os) (hok : ∀ o ∈ os, ObjMOk o) (hlen : os.length ≤ 9223372036854775806) (hn : (os.map objWt).sum ≤ 4611686018427387904) :
    Calls Tryz.prog 11 #[.slice A os.length c] w (LOfPost os ((os.map objWt).sum) w) := by
  obtain ⟨n, hN⟩ : ∃ n, (os.map objWt).sum = n := ⟨_, rfl⟩
  rw [hN] at hn ⊢
  have HST := Lib.hid (show OfAt os n 0 0 (fun _ => 0) (fun _ => 0) by have := OfAt.start os; rw [hN] at this; exact this)
  have HM := Lib.hid hm
  have HT := Lib.hid ht
  have HR := Lib.hid hr
  have HOK := Lib.hid hok
  clear hm ht hr hok hN
  go_enter Tryz.func11, Tryz.ntmps11
  go_wp2_with (go_at_call 20; refine (new_led _).mono ?_; rintro e w1 ⟨g, b1, b2, rfl, hk1, hlow1, hb1⟩; have HK1 := Lib.hid hk1; have HL1 := Lib.hid hlow1; have HB1 := Lib.hid hb1; clear hk1 hlow1 hb1)
  try go_frame
  go_loopw [11] (fun iv wr => ∃ (i m : Nat) (S : Pl → Int) (C : ByteArray → Int), iv = .int .i64 i ∧ i ≤ os.length ∧ Hid (OfAt os n i m S C) ∧ Hid (IsLed wr g b1 b2 m S C) ∧ Hid (Below w.heap.size w wr)) (fun iv _ => os.length - (intOf iv).toNat)
  case atStart => exact ⟨0, 0, _, _, rfl, Nat.zero_le _, HST.out, HK1.out, HB1.out⟩
  case round =>
    obtain ⟨i, m, S, C, rfl, hi, hat, hk, hb⟩ := hrel
    obtain ⟨wq, rfl⟩ : ∃ wq, wq = wr := ⟨_, rfl⟩
    by_cases hlt : i < os.length
    · obtain ⟨a, L, mo, B, cp, rfl, -, hoa⟩ := obj_at HR.out i hlt
      have hobk := HOK.out _ (List.getElem_mem hlt)
      have HSTEP := Lib.hid (fun S' C' hc => hat.out.step (S' := S') (C' := C') hlt hobk hc)
      have HSTOP := Lib.hid (fun S' C' z hc hz => hat.out.stop (S' := S') (C' := C') (z := z) hlt hc hz)
      have hmn : m ≤ n := by have := hat.out.sum; omega
      obtain ⟨o, ho⟩ : ∃ o, os[i] = o := ⟨_, rfl⟩
      rw [ho] at hoa hobk HSTEP HSTOP
      obtain ⟨⟨z, S', C'⟩, hC⟩ : ∃ r, chargeV S C o.v = r := ⟨_, rfl⟩
      rw [hC] at HSTEP HSTOP
      have HLO := hb.out
      obtain ⟨x0, x1, x2, x3, x4, x5, x6, xl, xr⟩ := hoa
      have y0 := (HLO.cell (World.block_lt_of_cell? _ _ x0)).trans x0
      have y1 := (HLO.cell (p := ⟨_, _, none⟩) (World.block_lt_of_cell? _ _ x1)).trans x1
      have y2 := (HLO.cell (p := ⟨_, _, none⟩) (World.block_lt_of_cell? _ _ x2)).trans x2
      have y3 := (HLO.cell (p := ⟨_, _, none⟩) (World.block_lt_of_cell? _ _ x3)).trans x3
      have y4 := (HLO.cell (p := ⟨_, _, none⟩) (World.block_lt_of_cell? _ _ x4)).trans x4
      have y5 := (HLO.cell (p := ⟨_, _, none⟩) (World.block_lt_of_cell? _ _ x5)).trans x5
      have y6 := (HLO.cell (p := ⟨_, _, none⟩) (World.block_lt_of_cell? _ _ x6)).trans x6
      have HBA := Lib.hid ((Below.refl wq.heap.size wq).alloc (Nat.le_refl _) (.cells #[.string o.path, .string o.name, .slice L o.ls.length mo, .int .i64 o.prio, .int .i64 o.dl, .slice B o.parts.length cp, .int .i64 o.ver] 26))
      have HARG := Lib.hid (show OArg w o.v L o.ls.length mo B P from ⟨HM.out, HT.out, ⟨⟨L, _, mo, rfl⟩, xr, hobk.len, hobk.small⟩, hobk.use⟩)
      have HCH := Lib.hid (charge_any (g := g) (b1 := b1) (b2 := b2) (n := m) (S := S) (C := C) o.v m L o.ls.length mo B cp P _ (HARG.out.below (HLO.trans (HBA.out.mono HLO.size))) (hk.out.below HBA.out) hat.out.ok (by omega) (m + 60000000000) (Nat.le_refl _) (by unfold maxLen; omega))
      have HC := Lib.hid hC
      clear ho x0 x1 x2 x3 x4 x5 x6 xl xr hobk HLO hC
      have HNW := Lib.hid (fun k (hk : mapB b1 b2 k) => (show w.heap.size ≤ k from hk.elim (fun e => HL1.out k (.inr (.inl e))) (fun e => HL1.out k (.inr (.inr e)))))
      by_cases hz : z = 0
      · subst hz
        have HS2 := Lib.hid (HSTEP.out S' C' rfl)
        clear HSTEP HSTOP
        go_wp2_with (go_at_call 17; refine HCH.out.mono ?_; rintro e w2 ⟨rfl, hk2, ht2⟩; rw [HC.out] at hk2 ⊢; have HK2 := Lib.hid hk2; have HT2 := Lib.hid ht2; clear hk2 ht2)
        go_roundw
        case rel =>
          have hsz := hb.out.size
          exact ⟨i + 1, m + objWt o, S', C', by go_num, hlt, HS2.out, HK2.out.tight HS2.out.ok, hb.out.trans ((HBA.out.mono hsz).trans (HT2.out.below (by simp; omega) HNW.out))⟩
        case measure => simp [intOf]; omega
      · have e1 : (z != 0) = true := by simpa using hz
        have HZ := Lib.hid (HSTOP.out S' C' z rfl hz)
        have HZ2 := Lib.hid hz
        clear HSTEP HSTOP hz
        go_wp2_with (go_at_call 17; refine HCH.out.mono ?_; rintro e w2 ⟨rfl, hk2, ht2⟩; rw [HC.out] at hk2 ⊢; have HK2 := Lib.hid hk2; have HT2 := Lib.hid ht2; clear hk2 ht2)
        go_ret2
        have hsz := hb.out.size
        refine ⟨.inl ⟨by rw [HZ.out]; exact HZ2.out, by rw [HZ.out]; rfl⟩, hb.out.trans ((HBA.out.mono hsz).trans (HT2.out.below (by simp; omega) HNW.out))⟩
    · have hge : ¬ ((i : Int) < (os.length : Int)) := by omega
      obtain ⟨hof, rfl⟩ := hat.out.done (by omega)
      have HOF := Lib.hid hof
      clear hof
      go_wp2
      go_ret2
      refine ⟨.inr ?_, hb.out⟩
      rw [HOF.out]
      exact ⟨rfl, g, b1, b2, rfl, hk.out, hat.out.ok, HL1.out⟩
end Go.Proofs.YtalkdddeiebfmaaGreatDoor
/- The first object. -/
namespace Go.Proofs.YtalkdddeiebfmaaGreatDoor
open Go.RowKit Go.Maps Go.WideMaps

def bs (l : List UInt8) : ByteArray := ⟨l.toArray⟩
def oLive : ObjM := ⟨⟨#[47, 97, 47, 98]⟩, ⟨#[]⟩, [], 0, 0, [⟨⟨#[112]⟩, [⟨⟨#[99, 112, 117]⟩, 500⟩], []⟩], 0⟩
theorem live_z : (sharesV oLive.v).2.2 = 0 := by kernel_rfl
theorem live_len : (sharesV oLive.v).2.1.length = 24 := by kernel_rfl
theorem live_line : (sharesV oLive.v).1 = [⟨#[47, 97, 47, 98]⟩, ⟨#[47, 97]⟩, ⟨#[47]⟩] := by kernel_rfl
theorem live_val : ((sharesV oLive.v).2.1.all fun s => decide (s.2 ≠ 0)) = true := by kernel_rfl
def rcpuB : ByteArray := ⟨#[114, 101, 113, 117, 101, 115, 116, 115, 46, 99, 112, 117]⟩
theorem live_at : svL (sharesV oLive.v).2.1 (⟨#[47, 97]⟩, (0, 0), rcpuB) = 500 := by kernel_rfl
theorem live_cnt : cvL (sharesV oLive.v).1 ⟨#[47]⟩ = 1 := by kernel_rfl
abbrev Z0 : Pl → Int := fun _ => 0
abbrev C0 : ByteArray → Int := fun _ => 0
theorem live_charge : (chargeV Z0 C0 oLive.v).1 = 0 := by kernel_rfl
theorem live_gone : (goneV (addS 1 Z0 (sharesV oLive.v).2.1) (addC 1 C0 (sharesV oLive.v).1) oLive.v).2.2 = 0 := by kernel_rfl
theorem live_parts : oLive.parts = [⟨⟨#[112]⟩, [⟨⟨#[99, 112, 117]⟩, 500⟩], []⟩] := rfl
theorem live_ok : ObjMOk oLive := by
  refine ⟨⟨?_, ?_⟩, by decide, ?_⟩
  · intro p hp
    obtain rfl : p = _ := List.mem_singleton.1 hp
    refine ⟨fun a ha => ?_, fun a ha => by cases ha⟩
    obtain rfl : a = _ := List.mem_singleton.1 ha
    exact ⟨by decide, by decide, by decide⟩
  · show 1 ≤ 1073741824
    omega
  · intro p hp
    obtain rfl : p = _ := List.mem_singleton.1 hp
    exact ⟨by decide, by decide⟩
theorem live_charge_eq : chargeV Z0 C0 oLive.v = (0, addS 1 Z0 (sharesV oLive.v).2.1, addC 1 C0 (sharesV oLive.v).1) := by
  have h1 : (sharesV oLive.v).2.2 = 0 := live_z
  have h2 : judgeA Z0 (sharesV oLive.v).2.1 = 0 := by kernel_rfl
  unfold chargeV
  rw [if_neg (by rw [h1]; simp), if_neg (by rw [h2]; simp)]
theorem release_undoes {S : Pl → Int} {C : ByteArray → Int} {o : ObjV} (hg : (goneV (addS 1 S (sharesV o).2.1) (addC 1 C (sharesV o).1) o).2.2 = 0) : releaseV (addS 1 S (sharesV o).2.1) (addC 1 C (sharesV o).1) o = (0, S, C) := by
  have h1 : (goneV (addS 1 S (sharesV o).2.1) (addC 1 C (sharesV o).1) o).2.1 = (sharesV o).2.1 ∧ (goneV (addS 1 S (sharesV o).2.1) (addC 1 C (sharesV o).1) o).1 = (sharesV o).1 := by
    unfold goneV at hg ⊢
    split at hg
    · rename_i h; exact absurd hg h
    · rename_i h; rw [if_neg h]
      split at hg
      · rename_i h2; exact absurd hg h2
      · rename_i h2; rw [if_neg h2]
        split at hg
        · exact absurd hg (by decide)
        · rename_i h3; rw [if_neg h3]; exact ⟨rfl, rfl⟩
  unfold releaseV
  rw [if_pos hg, h1.1, h1.2]
  refine Prod.ext rfl (Prod.ext (funext fun x => ?_) (funext fun x => ?_))
  · simp only [addS_svL]; omega
  · simp only [addC_cvL]; omega
theorem live_release : releaseV (addS 1 Z0 (sharesV oLive.v).2.1) (addC 1 C0 (sharesV oLive.v).1) oLive.v = (0, Z0, C0) := release_undoes live_gone
theorem rowsOf_nodup {S : Pl → Int} {R : List Sh} (h : RowsOf S R) : R.Nodup := by
  rw [List.nodup_iff_pairwise_ne]
  refine h.1.imp ?_
  rintro a b hab rfl
  have := tot_cmpU.sym a a
  omega
theorem svL_mem {T : List Sh} (hn : (T.map Prod.fst).Nodup) {s : Sh} (hs : s ∈ T) : svL T s.1 = s.2 := by
  induction T with
  | nil => cases hs
  | cons t T ih =>
    rw [List.map_cons, List.nodup_cons] at hn
    show (if t.1 = s.1 then t.2 else 0) + svL T s.1 = s.2
    rcases List.mem_cons.1 hs with rfl | hs
    · rw [if_pos rfl, svL_out hn.1]; omega
    · rw [if_neg (fun e => hn.1 (by rw [e]; exact List.mem_map_of_mem hs)), ih hn.2 hs]; omega
theorem svL_in' {T : List Sh} {x : Pl} (h : svL T x ≠ 0) : x ∈ T.map Prod.fst := Classical.byContradiction fun hn => h (svL_out hn)
/-- the rows of one object's sums: as many as its shares -/
theorem rowsOf_len {T R : List Sh} {S : Pl → Int} (hS : ∀ x, S x = svL T x) (hn : (T.map Prod.fst).Nodup) (h0 : ∀ s ∈ T, s.2 ≠ 0) (h : RowsOf S R) : R.length = T.length := by
  have hT : T.Nodup := by
    have h1 := hn
    rw [List.nodup_iff_pairwise_ne, List.pairwise_map] at h1
    rw [List.nodup_iff_pairwise_ne]
    exact h1.imp fun hab e => hab (by rw [e])
  refine Nat.le_antisymm (nodup_le R T (rowsOf_nodup h) fun x hx => ?_) (nodup_le T R hT fun x hx => ?_)
  · have h1 := (h.2 x).1 hx
    rw [hS] at h1
    obtain ⟨y, hy, e⟩ := List.mem_map.1 (svL_in' h1.1)
    have h2 := svL_mem hn hy
    rw [e, ← h1.2] at h2
    have : y = x := Prod.ext e h2.symm
    rw [← this]; exact hy
  · have h2 := svL_mem hn hx
    refine (h.2 x).2 ⟨?_, ?_⟩
    · rw [hS, h2]; exact h0 x hx
    · rw [hS, h2]
theorem live_so : SharesOk oLive.v (sharesV oLive.v).1 (sharesV oLive.v).2.1 := sharesV_ok live_ok.use (by rw [← live_z])
theorem live_rows {R : List Sh} (h : RowsOf (addS 1 Z0 (sharesV oLive.v).2.1) R) : R.length = 24 := by
  rw [← live_len]
  refine rowsOf_len (fun x => ?_) live_so.nod (fun s hs => ?_) h
  · rw [addS_svL, show Z0 x = 0 from rfl]; omega
  · have := List.all_eq_true.1 live_val s hs
    simpa using this
theorem rowsOf_zero_len {R : List Sh} (h : RowsOf Z0 R) : R.length = 0 := by rw [rowsOf_unique h rowsOf_zero]; rfl
end Go.Proofs.YtalkdddeiebfmaaGreatDoor
/- lives: the walk. -/
namespace Go.Proofs.YtalkdddeiebfmaaGreatDoor
open Go.RowKit Go.Maps Go.WideMaps

theorem TextsAt.low {w : World} (h : TextsAt w) : 0 < w.heap.size := World.block_lt_of_cell? w _ h.t0
theorem live_row (w1 : World) : Row kPart (fun k => w1.heap.size ≤ k) (((w1.alloc (.cells #[.string ⟨#[99, 112, 117]⟩, .int .i64 500] 45)).alloc (.cells #[.string ⟨#[112]⟩, .slice (some ⟨w1.heap.size, 0, none⟩) 1 1, .slice none 0 0] 43)).alloc (.cells #[.string ⟨#[47, 97, 47, 98]⟩, .string ⟨#[]⟩, .slice none 0 0, .int .i64 0, .int .i64 0, .slice (some ⟨w1.heap.size + 1, 0, none⟩) 1 1, .int .i64 0] 26)) (some ⟨w1.heap.size + 1, 0, none⟩) oLive.parts := by
  have hs : (w1.alloc (.cells #[.string ⟨#[99, 112, 117]⟩, .int .i64 500] 45)).heap.size = w1.heap.size + 1 := by simp
  have h1 : Row kAmt (fun k => w1.heap.size ≤ k) (w1.alloc (.cells #[.string ⟨#[99, 112, 117]⟩, .int .i64 500] 45)) (some ⟨w1.heap.size, 0, none⟩) [⟨⟨#[99, 112, 117]⟩, 500⟩] :=
    (Row.newOne (d := kAmt) (S := fun _ => False) (w := w1) (e := 45) (cs := Amt.cells ⟨⟨#[99, 112, 117]⟩, 500⟩) (x := ⟨⟨#[99, 112, 117]⟩, 500⟩) rfl).mono fun k h => h.elim (fun f => f.elim) (fun e => by omega)
  refine Row.alloc ?_ _
  have h2 := h1.alloc (.cells #[.string ⟨#[112]⟩, .slice (some ⟨w1.heap.size, 0, none⟩) 1 1, .slice none 0 0] 43)
  have h3 := Row.newOne (d := kPart) (S := fun k => w1.heap.size ≤ k) (w := w1.alloc (.cells #[.string ⟨#[99, 112, 117]⟩, .int .i64 500] 45)) (e := 43) (cs := [.string ⟨#[112]⟩, .slice (some ⟨w1.heap.size, 0, none⟩) 1 1, .slice none 0 0]) (x := ⟨⟨#[112]⟩, [⟨⟨#[99, 112, 117]⟩, 500⟩], []⟩)
    ⟨[_], _, rfl, rfl, [_], _, rfl, ⟨_, rfl, _, 1, rfl, by decide, by decide, h2⟩, ⟨_, rfl, none, 0, rfl, by decide, by decide, fun h => absurd rfl h⟩⟩
  rw [hs] at h3
  exact h3.mono fun k h => h.elim id (fun e => by omega)
theorem live_pl : PlOk (⟨#[47, 97]⟩, (0, 0), rcpuB) := ⟨by decide, by show in64 0; unfold in64; omega, by show in64 0; unfold in64; omega, by decide⟩
theorem live_st : StOk ⟨#[47]⟩ := by unfold StOk; decide
theorem live_wt : objWt oLive = 28 := by kernel_rfl
theorem live_led : LedOk 28 (addS 1 Z0 (sharesV oLive.v).2.1) (addC 1 C0 (sharesV oLive.v).1) := by
  have h := chargeV_ok (ledOk_zero : LedOk 0 Z0 C0) live_ok
  rw [live_charge_eq, live_wt] at h
  exact h
theorem live_used : addS 1 Z0 (sharesV oLive.v).2.1 (⟨#[47, 97]⟩, (0, 0), rcpuB) = 500 := by rw [addS_svL, live_at]; rfl
theorem live_count : addC 1 C0 (sharesV oLive.v).1 ⟨#[47]⟩ = 1 := by rw [addC_cvL, live_cnt]; rfl
set_option maxRecDepth 100000 in
set_option maxHeartbeats 1000000 in
theorem lives_any (w : World) (hm : Ml w) (ht : TextsAt w) : Calls Tryz.prog 16 #[] w fun e w' => ∃ g b1 b2, e = .returned (.pointer (some ⟨g, 0, none⟩)) ∧ IsLed w' g b1 b2 0 Z0 C0 ∧ (∀ i, ledB g b1 b2 i → w.heap.size ≤ i) ∧ Below w.heap.size w w' := by
  have HM := Lib.hid hm
  have HT := Lib.hid ht
  obtain ⟨S1, hS1⟩ : ∃ S1, addS 1 Z0 (sharesV oLive.v).2.1 = S1 := ⟨_, rfl⟩
  obtain ⟨C1, hC1⟩ : ∃ C1, addC 1 C0 (sharesV oLive.v).1 = C1 := ⟨_, rfl⟩
  have hch := live_charge_eq
  have hre := live_release
  have hus := live_used
  have hct := live_count
  have hok := live_led
  have hrw : ∀ R : List Sh, RowsOf (addS 1 Z0 (sharesV oLive.v).2.1) R → R.length = 24 := fun R h => live_rows h
  rw [hS1, hC1] at hch hre hok
  rw [hS1] at hus hrw
  rw [hC1] at hct
  have HCH := Lib.hid hch
  have HRE := Lib.hid hre
  have HUS := Lib.hid hus
  have HCT := Lib.hid hct
  have HOK := Lib.hid hok
  have HRW := Lib.hid hrw
  clear hm ht hS1 hC1 hch hre hus hct hok hrw
  go_enter Tryz.func16, Tryz.ntmps16
  go_upto_region 3 with (go_at_call 20; refine (new_led _).mono ?_; rintro e w1 ⟨g, b1, b2, rfl, hk1, hlow1, hb1⟩; have HK1 := Lib.hid hk1; have HL1 := Lib.hid hlow1; have HB1 := Lib.hid hb1; clear hk1 hlow1 hb1)
  obtain ⟨W, hW⟩ : ∃ W, ((w1.alloc (.cells #[.string ⟨#[99, 112, 117]⟩, .int .i64 500] 45)).alloc (.cells #[.string ⟨#[112]⟩, .slice (some ⟨w1.heap.size, 0, none⟩) 1 1, .slice none 0 0] 43)).alloc (.cells #[.string ⟨#[47, 97, 47, 98]⟩, .string ⟨#[]⟩, .slice none 0 0, .int .i64 0, .int .i64 0, .slice (some ⟨w1.heap.size + 1, 0, none⟩) 1 1, .int .i64 0] 26) = W := ⟨_, rfl⟩
  have hBW : Below w1.heap.size w1 W := by
    rw [← hW]
    exact (((Below.refl _ _).alloc (Nat.le_refl _) _).alloc (by simp) _).alloc (by simp; omega) _
  have hbx : W.heap[w1.heap.size + 2]? = some (.cells #[.string ⟨#[47, 97, 47, 98]⟩, .string ⟨#[]⟩, .slice none 0 0, .int .i64 0, .int .i64 0, .slice (some ⟨w1.heap.size + 1, 0, none⟩) 1 1, .int .i64 0] 26 (0, 0)) := by
    rw [← hW]
    have := heap_alloc_new ((w1.alloc (.cells #[.string ⟨#[99, 112, 117]⟩, .int .i64 500] 45)).alloc (.cells #[.string ⟨#[112]⟩, .slice (some ⟨w1.heap.size, 0, none⟩) 1 1, .slice none 0 0] 43)) (.cells #[.string ⟨#[47, 97, 47, 98]⟩, .string ⟨#[]⟩, .slice none 0 0, .int .i64 0, .int .i64 0, .slice (some ⟨w1.heap.size + 1, 0, none⟩) 1 1, .int .i64 0] 26)
    simpa using this
  have hrow : Row kPart (fun k => w1.heap.size ≤ k) W (some ⟨w1.heap.size + 1, 0, none⟩) oLive.parts := by
    rw [← hW]
    exact live_row w1
  have HARG := Lib.hid (show OArg W oLive.v none 0 0 (some ⟨w1.heap.size + 1, 0, none⟩) (fun k => w1.heap.size ≤ k) from ⟨(HM.out.below HB1.out).below hBW, (HT.out.below HB1.out).below hBW, ⟨⟨none, 0, 0, rfl⟩, hrow, live_ok.len, live_ok.small⟩, live_ok.use⟩)
  have HBX := Lib.hid hbx
  have hlt := HK1.out.lt
  have HLT := Lib.hid (fun i (hi : mapB b1 b2 i) => (show i < w1.heap.size from hi.elim (fun e => hlt i (.inr (.inl e))) (fun e => hlt i (.inr (.inr e)))))
  have HNW := Lib.hid (fun k (hk : mapB b1 b2 k) => (show w.heap.size ≤ k from hk.elim (fun e => HL1.out k (.inr (.inl e))) (fun e => HL1.out k (.inr (.inr e)))))
  have HBW := Lib.hid hBW
  have HNM := Lib.hid (show ¬ mapB b1 b2 1 from fun h => by have := HNW.out _ h; have := HM.out.low; omega)
  have HNT := Lib.hid (show ¬ mapB b1 b2 0 from fun h => by have := HNW.out _ h; have := HT.out.low; omega)
  have HNP := Lib.hid (fun k (hk : w1.heap.size ≤ k) => (show ¬ mapB b1 b2 k from fun h => by have := HLT.out _ h; omega))
  have HCH2 := Lib.hid (show Calls Tryz.prog 17 #[.pointer (some ⟨g, 0, none⟩), .agg #[.string ⟨#[47, 97, 47, 98]⟩, .string ⟨#[]⟩, .slice none 0 0, .int .i64 0, .int .i64 0, .slice (some ⟨w1.heap.size + 1, 0, none⟩) 1 1, .int .i64 0]] W (fun e w' => e = .returned (.int .i64 0) ∧ IsLed w' g b1 b2 28 S1 C1 ∧ Turn (mapB b1 b2) W w') from by
    have h := charge_any (g := g) (b1 := b1) (b2 := b2) (n := 0) (S := Z0) (C := C0) oLive.v 0 none 0 0 (some ⟨w1.heap.size + 1, 0, none⟩) 1 _ W HARG.out (HK1.out.below HBW.out) ledOk_zero (by omega) 60000000000 (by omega) (by unfold maxLen; omega)
    rw [HCH.out] at h
    exact h.mono fun e w' ⟨h1, h2, h3⟩ => ⟨h1, h2.tight HOK.out, h3⟩)
  obtain ⟨-, r0, r1, r2, r3, r4, r5, r6, -⟩ := OBox.of hbx
  rw [hW]
  clear hW hBW hbx hrow hlt
  go_upto_region 5 with (first
    | (go_at_call 17; refine HCH2.out.mono ?_; rintro e w2 ⟨rfl, hk2, ht2⟩; have HK2 := Lib.hid hk2; have HT2 := Lib.hid ht2; clear hk2 ht2 r0 r1 r2 r3 r4 r5 r6)
    | (go_at_call 27; refine (used_any (⟨#[47, 97]⟩, (0, 0), rcpuB) live_pl 500 HUS w2 HK2.out).mono ?_; rintro e w3 ⟨rfl, hb3⟩; have HB3 := Lib.hid hb3; clear hb3)
    | (go_at_call 14; refine (lrows_any w3 ((((HM.out.below HB1.out).below HBW.out).turn HT2.out HNM.out).below HB3.out) (HK2.out.below HB3.out) HOK.out (by omega)).mono ?_; rintro e w4 ⟨A4, c4, R4, rfl, ho4, hr4, hb4⟩; rw [HRW.out R4 hr4]; have HB4 := Lib.hid hb4; clear ho4 hr4 hb4)
    | (go_at_call 19; refine (count_any ⟨#[47]⟩ live_st 1 HCT w4 ((HK2.out.below HB3.out).below HB4.out)).mono ?_; rintro e w5 ⟨rfl, hb5⟩; have HB5 := Lib.hid hb5; clear hb5))
  have HB25 := Lib.hid (HB3.out.trans ((HB4.out.trans (HB5.out.mono HB4.out.size)).mono HB3.out.size))
  have HK5 := Lib.hid (HK2.out.below HB25.out)
  have HAR5 := Lib.hid ((HARG.out.turn HT2.out HNM.out HNT.out HNP.out).below HB25.out)
  have hlb := (Array.getElem?_eq_some_iff.1 HBX.out).1
  have hx2 := (HT2.out.block _ hlb (HNP.out _ (by omega))).trans HBX.out
  have hx5 := (HB25.out.block _ (Nat.lt_of_lt_of_le hlb HT2.out.size)).trans hx2
  obtain ⟨-, r0, r1, r2, r3, r4, r5, r6, -⟩ := OBox.of hx5
  have HRE2 := Lib.hid (show Calls Tryz.prog 18 #[.pointer (some ⟨g, 0, none⟩), .agg #[.string ⟨#[47, 97, 47, 98]⟩, .string ⟨#[]⟩, .slice none 0 0, .int .i64 0, .int .i64 0, .slice (some ⟨w1.heap.size + 1, 0, none⟩) 1 1, .int .i64 0]] w5 (fun e w' => e = .returned (.int .i64 0) ∧ IsLed w' g b1 b2 0 Z0 C0 ∧ Turn (mapB b1 b2) w5 w') from by
    have h := release_any (g := g) (b1 := b1) (b2 := b2) (n := 28) (S := S1) (C := C1) oLive.v 28 none 0 0 (some ⟨w1.heap.size + 1, 0, none⟩) 1 _ w5 HAR5.out HK5.out HOK.out (by omega) 70000000000 (by omega) (by unfold maxLen; omega)
    rw [HRE.out] at h
    exact h.mono fun e w' ⟨h1, h2, h3⟩ => ⟨h1, h2.tight ledOk_zero, h3⟩)
  clear hlb hx2 hx5
  go_wp2_with (first
    | (go_at_call 18; refine HRE2.out.mono ?_; rintro e w6 ⟨rfl, hk6, ht6⟩; have HK6 := Lib.hid hk6; have HT6 := Lib.hid ht6; clear hk6 ht6 r0 r1 r2 r3 r4 r5 r6)
    | (go_at_call 14; refine (lrows_any w6 (HAR5.out.ml.turn HT6.out HNM.out) HK6.out ledOk_zero (by omega)).mono ?_; rintro e w7 ⟨A7, c7, R7, rfl, ho7, hr7, hb7⟩; rw [rowsOf_zero_len hr7]; have HB7 := Lib.hid hb7; clear ho7 hr7 hb7))
  go_ret
  have hsz := HB1.out.size
  refine ⟨g, b1, b2, rfl, HK6.out.below HB7.out, HL1.out, ?_⟩
  refine HB1.out.trans ((HBW.out.mono hsz).trans ?_)
  have hsW := Nat.le_trans hsz HBW.out.size
  refine (HT2.out.below hsW HNW.out).trans ?_
  have hs2 := Nat.le_trans hsW HT2.out.size
  refine (HB25.out.mono hs2).trans ?_
  have hs5 := Nat.le_trans hs2 HB25.out.size
  exact (HT6.out.below hs5 HNW.out).trans (HB7.out.mono (Nat.le_trans hs5 HT6.out.size))
end Go.Proofs.YtalkdddeiebfmaaGreatDoor
/- Rows that are alike. -/
namespace Go.Proofs.YtalkdddeiebfmaaGreatDoor
open Go.RowKit

theorem run_eqScIn (x y : ScV) (W : World) : (Op.equalIn 9999 47 (.agg #[.int .i64 x.kind, .int .i64 x.arg]) (.agg #[.int .i64 y.kind, .int .i64 y.arg])).run Tryz.prog W = .ok (eqSc x y) W := by
  refine eqf_struct Tryz.underlying47 (by kernel_rfl) ?_
  refine eqf_more (by rfl) (by go_simp; rfl) (by go_simp; rfl) (by go_simp) ?_
  exact eqf_end (by rfl) (by go_simp; rfl) (by go_simp; rfl) (by go_simp)
theorem run_eqUse (s : Sh) (W : World) : (Op.equalIn 10000 49 (.agg #[.string s.1.1, .int .i64 s.1.2.1.1, .int .i64 s.1.2.1.2, .string s.1.2.2, .int .i64 s.2]) (.agg #[.string s.1.1, .int .i64 s.1.2.1.1, .int .i64 s.1.2.1.2, .string s.1.2.2, .int .i64 s.2])).run Tryz.prog W = .ok true W := by
  have h : (Op.equalIn 10000 49 (.agg #[.string s.1.1, .int .i64 s.1.2.1.1, .int .i64 s.1.2.1.2, .string s.1.2.2, .int .i64 s.2]) (.agg #[.string s.1.1, .int .i64 s.1.2.1.1, .int .i64 s.1.2.1.2, .string s.1.2.2, .int .i64 s.2])).run Tryz.prog W = .ok (s.1.1.toList == s.1.1.toList && (eqSc ⟨s.1.2.1.1, s.1.2.1.2⟩ ⟨s.1.2.1.1, s.1.2.1.2⟩ && (s.1.2.2.toList == s.1.2.2.toList && s.2 == s.2))) W := by
    refine eqf_struct Tryz.underlying49 (by kernel_rfl) ?_
    refine eqf_more (by rfl) (by go_simp; rfl) (by go_simp; rfl) (by go_simp) ?_
    refine eqf_more (by rfl) (by go_simp) (by go_simp) (run_eqScIn ⟨s.1.2.1.1, s.1.2.1.2⟩ ⟨s.1.2.1.1, s.1.2.1.2⟩ W) ?_
    refine eqf_more (by rfl) (by go_simp; rfl) (by go_simp; rfl) (by go_simp) ?_
    exact eqf_end (by rfl) (by go_simp; rfl) (by go_simp; rfl) (by go_simp)
  rw [h]
  simp [eqSc]
theorem run_neqUse (s : Sh) (W : World) : (binOp .neq 49 (.agg #[.string s.1.1, .int .i64 s.1.2.1.1, .int .i64 s.1.2.1.2, .string s.1.2.2, .int .i64 s.2]) (.agg #[.string s.1.1, .int .i64 s.1.2.1.1, .int .i64 s.1.2.1.2, .string s.1.2.2, .int .i64 s.2])).run Tryz.prog W = .ok (.bool false) W := by
  rw [run_neq_struct, run_eqUse]; rfl
set_option maxRecDepth 100000 in
theorem sameRows_val (A B : Option Addr) (n c d : Nat) (P Q : Nat → Prop) (xs : List Sh) (w : World) (hx : Row kSh P w A xs) (hy : Row kSh Q w B xs) (hn : xs.length = n) (hlx : n ≤ 9223372036854775807) :
    Calls Tryz.prog 13 #[.slice A n c, .slice B n d] w fun e w' => e = .returned (.bool true) ∧ Below w.heap.size w w' := by
  subst hn
  go_enter Tryz.func13, Tryz.ntmps13
  go_wp2
  go_loopw [5] (fun i wr => ∃ k : Nat, i = .int .i64 k ∧ k ≤ xs.length ∧ Below w.heap.size w wr) (fun i _ => xs.length - (intOf i).toNat)
  case atStart => exact ⟨0, rfl, Nat.zero_le _, Below.refl _ _⟩
  case round =>
    obtain ⟨k, rfl, hk, hbr⟩ := hrel
    by_cases hlt : k < xs.length
    · obtain ⟨a, rfl, -, l0, l1, l2, l3, l4⟩ := sh_at (hx.below hbr) k hlt
      obtain ⟨b, rfl, -, m0, m1, m2, m3, m4⟩ := sh_at (hy.below hbr) k hlt
      have hx1 : (k : Int) < (xs.length : Int) := by omega
      have hk0 : (0 : Int) ≤ (k : Int) := by omega
      have hrun := fun W => run_neqUse xs[k] W
      go_wp2
      go_quiet (fail)
      go_wp2
      go_roundw
      case rel => exact ⟨k + 1, by go_num, hlt, below_drewN hbr _⟩
      case measure => simp [intOf]; omega
    · have hge : ¬ ((k : Int) < (xs.length : Int)) := by omega
      go_wp2
      go_ret
      exact ⟨rfl, hbr⟩
end Go.Proofs.YtalkdddeiebfmaaGreatDoor
/- What is charged in any order: plain. -/
namespace Go.Proofs.YtalkdddeiebfmaaGreatDoor

def sumAt (os : List ObjM) (x : Pl) : Int := (os.map fun o => svL (sharesV o.v).2.1 x).sum
def cntAt (os : List ObjM) (p : ByteArray) : Int := (os.map fun o => cvL (sharesV o.v).1 p).sum
theorem sumAt_cons (o : ObjM) (os : List ObjM) (x : Pl) : sumAt (o :: os) x = svL (sharesV o.v).2.1 x + sumAt os x := rfl
theorem cntAt_cons (o : ObjM) (os : List ObjM) (p : ByteArray) : cntAt (o :: os) p = cvL (sharesV o.v).1 p + cntAt os p := rfl
theorem perm_sum_int {l l' : List Int} (h : l.Perm l') : l.sum = l'.sum := by
  induction h with
  | nil => rfl
  | cons x _ ih => simp [ih]
  | swap x y l => simp only [List.sum_cons]; omega
  | trans _ _ ih1 ih2 => exact ih1.trans ih2
theorem sumAt_perm {os os' : List ObjM} (h : os.Perm os') (x : Pl) : sumAt os x = sumAt os' x := perm_sum_int (h.map _)
theorem cntAt_perm {os os' : List ObjM} (h : os.Perm os') (p : ByteArray) : cntAt os p = cntAt os' p := perm_sum_int (h.map _)
/-- an accepted charge -/
theorem chargeV_acc {S S' : Pl → Int} {C C' : ByteArray → Int} {o : ObjV} (h : chargeV S C o = (0, S', C')) : (sharesV o).2.2 = 0 ∧ judgeA S (sharesV o).2.1 = 0 ∧ S' = addS 1 S (sharesV o).2.1 ∧ C' = addC 1 C (sharesV o).1 := by
  unfold chargeV at h
  split at h
  · rename_i h1; exact absurd (congrArg Prod.fst h) h1
  · rename_i h1
    split at h
    · rename_i h2; exact absurd (congrArg Prod.fst h) h2
    · rename_i h2
      have e1 := congrArg (fun r => r.2.1) h
      have e2 := congrArg (fun r => r.2.2) h
      exact ⟨Decidable.of_not_not h1, Decidable.of_not_not h2, e1.symm, e2.symm⟩
theorem ofV_acc : ∀ {os : List ObjM} {S S' : Pl → Int} {C C' : ByteArray → Int}, ofV S C os = (0, S', C') → (∀ x, S' x = S x + sumAt os x) ∧ ∀ p, C' p = C p + cntAt os p
  | [], S, S', C, C', h => by
    have e1 : S = S' := congrArg (fun r => r.2.1) h
    have e2 : C = C' := congrArg (fun r => r.2.2) h
    subst e1; subst e2
    exact ⟨fun x => by simp [sumAt], fun p => by simp [cntAt]⟩
  | o :: os, S, S', C, C', h => by
    unfold ofV at h
    split at h
    · rename_i h1; exact absurd (congrArg Prod.fst h) h1
    · rename_i h1
      obtain ⟨⟨z, S1, C1⟩, hc⟩ : ∃ r, chargeV S C o.v = r := ⟨_, rfl⟩
      rw [hc] at h h1
      obtain rfl : z = 0 := Decidable.of_not_not h1
      obtain ⟨-, -, rfl, rfl⟩ := chargeV_acc hc
      have ih := ofV_acc h
      refine ⟨fun x => ?_, fun p => ?_⟩
      · rw [ih.1]; simp only [addS_svL, sumAt_cons]; omega
      · rw [ih.2]; simp only [addC_cvL, cntAt_cons]; omega
theorem ofV_snoc {os : List ObjM} {S S' S2 : Pl → Int} {C C' C2 : ByteArray → Int} {o : ObjM} (h : ofV S C os = (0, S', C')) (hc : chargeV S' C' o.v = (0, S2, C2)) : ofV S C (os ++ [o]) = (0, S2, C2) := by
  induction os generalizing S C with
  | nil =>
    have e1 : S = S' := congrArg (fun r => r.2.1) h
    have e2 : C = C' := congrArg (fun r => r.2.2) h
    subst e1; subst e2
    show (if (chargeV S C o.v).1 ≠ 0 then _ else _ : LRes) = _
    rw [hc, if_neg (by simp)]; rfl
  | cons q os ih =>
    rw [List.cons_append]
    unfold ofV at h ⊢
    split at h
    · rename_i h1; exact absurd (congrArg Prod.fst h) h1
    · rename_i h1
      rw [if_neg h1]
      exact ih h
/-- a list of all places, none twice -/
theorem order_perm {n : Nat} {ks : List Nat} (hn : ks.Nodup) (hl : ks.length = n) (hk : ∀ k ∈ ks, k < n) : ks.Perm (List.range n) := by
  refine (List.perm_ext_iff_of_nodup hn List.nodup_range).2 fun k => ⟨fun h => List.mem_range.2 (hk k h), fun h => ?_⟩
  refine Classical.byContradiction fun hk' => ?_
  have h1 := nodup_le (k :: ks) (List.range n) (List.nodup_cons.2 ⟨hk', hn⟩) fun x hx => by
    rcases List.mem_cons.1 hx with rfl | hx
    · exact h
    · exact List.mem_range.2 (hk x hx)
  simp at h1; omega
theorem getD_range {α : Type} (l : List α) (d : α) : (List.range l.length).map (fun k => l.getD k d) = l := by
  refine List.ext_getElem (by simp) fun i h1 h2 => ?_
  simp only [List.getElem_map, List.getElem_range, List.getD_eq_getElem?_getD]
  rw [List.getElem?_eq_getElem h2]; rfl
theorem ordered_perm {os : List ObjM} {ks : List Nat} (d : ObjM) (hn : ks.Nodup) (hl : ks.length = os.length) (hk : ∀ k ∈ ks, k < os.length) : (ks.map fun k => os.getD k d).Perm os := by
  have h := (order_perm hn hl hk).map fun k => os.getD k d
  rw [getD_range] at h
  exact h
end Go.Proofs.YtalkdddeiebfmaaGreatDoor
/- How many objects stand under the root; how many shares an object has. -/
namespace Go.Proofs.YtalkdddeiebfmaaGreatDoor

theorem cvL_one {l : List ByteArray} {p : ByteArray} (hn : l.Nodup) (h : p ∈ l) : cvL l p = 1 := by
  induction l with
  | nil => cases h
  | cons q l ih =>
    rw [List.nodup_cons] at hn
    show (if q = p then 1 else 0) + cvL l p = 1
    rcases List.mem_cons.1 h with rfl | h
    · rw [if_pos rfl, cvL_out hn.1]; rfl
    · rw [if_neg (fun e : q = p => hn.1 (by rw [e]; exact h)), ih hn.2 h]; rfl
theorem lineB_root {p : ByteArray} (hp : isPath p = true) : (⟨#[47]⟩ : ByteArray) ∈ lineB p := by
  unfold lineB
  rw [if_pos hp, mem_lineTo]
  exact ⟨0, Nat.zero_le _, rfl⟩
theorem shares_path {o : ObjV} (h : (sharesV o).2.2 = 0) : isPath o.path = true ∧ (usesV o.parts).2 = 0 ∧ sharesV o = (lineB o.path, sharesU (lineB o.path) (ofS o 6) (usesU o), 0) := by
  unfold sharesV at h ⊢
  split at h
  · rename_i hp
    rw [if_pos hp]
    split at h
    · rename_i he
      rw [if_pos he]
      exact ⟨hp, he, rfl⟩
    · rename_i he; exact absurd h he
  · exact absurd h (by decide)
theorem root_one {o : ObjV} (h : (sharesV o).2.2 = 0) : cvL (sharesV o).1 ⟨#[47]⟩ = 1 := by
  obtain ⟨h1, -, h2⟩ := shares_path h
  rw [h2]
  exact cvL_one (lineB_nodup _) (lineB_root h1)
/-- objects that are charged stand under the root, each once -/
theorem root_count : ∀ {os : List ObjM} {S S' : Pl → Int} {C C' : ByteArray → Int}, ofV S C os = (0, S', C') → C' ⟨#[47]⟩ = C ⟨#[47]⟩ + os.length
  | [], S, S', C, C', h => by
    have e2 : C = C' := congrArg (fun r => r.2.2) h
    subst e2
    simp
  | o :: os, S, S', C, C', h => by
    unfold ofV at h
    split at h
    · rename_i h1; exact absurd (congrArg Prod.fst h) h1
    · rename_i h1
      obtain ⟨⟨z, S1, C1⟩, hc⟩ : ∃ r, chargeV S C o.v = r := ⟨_, rfl⟩
      rw [hc] at h h1
      obtain rfl : z = 0 := Decidable.of_not_not h1
      obtain ⟨hz, -, rfl, rfl⟩ := chargeV_acc hc
      have ih := root_count h
      simp only [addC_cvL, root_one hz] at ih
      rw [ih, List.length_cons]; omega
/-- an object's weight by its amounts -/
theorem objWt_amts (o : ObjM) : objWt o ≤ 10 + 54 * ((allB o.parts).length + 1) := by
  unfold objWt sharesV
  split
  · split
    · have h1 := sharesU_len (lineB o.v.path) (ofS o.v 6) (usesU o.v)
      have h2 := lineB_len o.v.path
      have h3 := ofS_len6 o.v
      have h4 : (usesU o.v).length ≤ (allB o.parts).length + 1 := by
        unfold usesU
        rw [List.length_map]
        exact usesV_len o.parts
      have h5 : (ofS o.v 6).length * (usesU o.v).length ≤ 6 * ((allB o.parts).length + 1) := Nat.mul_le_mul h3 h4
      have h6 : (lineB o.v.path).length * ((ofS o.v 6).length * (usesU o.v).length) ≤ 9 * (6 * ((allB o.parts).length + 1)) := Nat.mul_le_mul h2 h5
      simp only
      omega
    · simp
      omega
  · simp
    omega
end Go.Proofs.YtalkdddeiebfmaaGreatDoor
/- Lists of objects of the call's own. -/
namespace Go.Proofs.YtalkdddeiebfmaaGreatDoor
open Go.RowKit

/-- a list of the call's own: what its elements look into lies in blocks that are not the list's own -/
structure ListAt {α : Type} (d : Kn α) (e base : Nat) (w : World) (lv : Value) (L : List α) (R : Nat → Prop) : Prop where
  own : Own d e base R w lv L
  low : ∀ k, R k → base ≤ k ∧ k < w.heap.size ∧ lv.ownBlock ≠ some k
section
variable {α : Type} {d : Kn α} {e base : Nat} {w w' : World} {lv lv' : Value} {L L' : List α} {R S : Nat → Prop}
theorem ListAt.nil (d : Kn α) (e base : Nat) (w : World) : ListAt d e base w (.slice none 0 0) [] (fun _ => False) := ⟨Own.nil _ _ _ _ _, fun _ h => h.elim⟩
theorem ListAt.move (h : ListAt d e base w lv L R) (hs : w.heap.size ≤ w'.heap.size) (hm : ∀ k, R k ∨ lv.ownBlock = some k → k < w.heap.size → w'.heap[k]? = w.heap[k]?) : ListAt d e base w' lv L R :=
  ⟨h.own.move fun k hk hl => hk.elim (fun hk => hm k (.inr hk) hl) (fun hk => hm k (.inl hk) hl), fun k hk => ⟨(h.low k hk).1, Nat.lt_of_lt_of_le (h.low k hk).2.1 hs, (h.low k hk).2.2⟩⟩
theorem ListAt.below (h : ListAt d e base w lv L R) (hb : Below w.heap.size w w') : ListAt d e base w' lv L R := h.move hb.size fun k _ hk => hb.block k hk
theorem ListAt.turn {T : Nat → Prop} (h : ListAt d e base w lv L R) (ht : Turn T w w') (hT : ∀ k, T k → ¬ (R k ∨ lv.ownBlock = some k)) : ListAt d e base w' lv L R := h.move ht.size fun k hk hl => ht.block k hl fun hh => hT k hh hk
theorem ListAt.app (h : ListAt d e base w lv L R) (hS : ∀ k, S k → base ≤ k ∧ k < w.heap.size ∧ lv.ownBlock ≠ some k) (ha : Appended d e base (fun k => R k ∨ S k) w w' lv lv' L') : ListAt d e base w' lv' L' (fun k => R k ∨ S k) := by
  have hall : ∀ k, (R k ∨ S k) → base ≤ k ∧ k < w.heap.size ∧ lv.ownBlock ≠ some k := fun k hk => hk.elim (h.low k) (hS k)
  refine ⟨ha.own, fun k hk => ?_⟩
  obtain ⟨h1, h2, h3⟩ := hall k hk
  refine ⟨h1, Nat.lt_of_lt_of_le h2 ha.grown.size, ?_⟩
  rcases ha.at_ with e | e
  · rw [e]; exact h3
  · rw [e]; intro e2
    have := Option.some.inj e2
    omega
theorem ListAt.row {A : Option Addr} {n c : Nat} (h : ListAt d e base w (.slice A n c) L R) : n = L.length ∧ Row d (fun k => base ≤ k) w A L ∧ L.length ≤ c ∧ c ≤ maxLen := by
  obtain ⟨A', c', hv, h1, h2, h3⟩ := h.own.row
  cases hv
  exact ⟨rfl, h3.mono fun k hk => hk.elim (fun hk => (h.low k hk).1) (fun e => (h.own.block_lt k e).1), h1, h2⟩
end
/-- an object of the call's own -/
theorem own_objM (o : ObjM) (L0 : Option Addr) (m0 : Nat) (B0 : Option Addr) (c0 : Nat) (w : World) (h : ObjFit w (o.at_ L0 m0) B0 o.ls) :
    Calls Tryz.prog 10 #[.agg #[.string o.path, .string o.name, .slice L0 o.ls.length m0, .int .i64 o.prio, .int .i64 o.dl, .slice B0 o.parts.length c0, .int .i64 o.ver]] w fun e w' =>
      ∃ (L : Option Addr) (m : Nat) (B : Option Addr) (c : Nat), e = .returned (.agg #[.string o.path, .string o.name, .slice L o.ls.length m, .int .i64 o.prio, .int .i64 o.dl, .slice B o.parts.length c, .int .i64 o.ver]) ∧
        kObj.R (fun k => w.heap.size ≤ k ∧ k < w'.heap.size) w' o [.string o.path, .string o.name, .slice L o.ls.length m, .int .i64 o.prio, .int .i64 o.dl, .slice B o.parts.length c, .int .i64 o.ver] ∧ Below w.heap.size w w' := by
  refine (own_any (o.at_ L0 m0) B0 c0 o.ls w h).mono fun e w' hp => ?_
  obtain ⟨L, m, B, c, R, rfl, hparts, hlr, hb⟩ := hp
  obtain ⟨-, hr, h1, h2⟩ := hparts.row
  refine ⟨L, m, B, c, rfl, ?_, hb⟩
  exact ⟨[_], _, rfl, rfl, [_], _, rfl, rfl, [_], _, rfl, ⟨L, m, rfl, hlr.lt⟩, [_], _, rfl, rfl, [_], _, rfl, rfl, [_], _, rfl, ⟨_, rfl, B, c, rfl, h1, h2, hr.lt⟩, rfl⟩
end Go.Proofs.YtalkdddeiebfmaaGreatDoor
/- Objects handed on. -/
namespace Go.Proofs.YtalkdddeiebfmaaGreatDoor
open Go.RowKit

/-- what the laws' walks want of an object: its lists are none of them too long to be laid anew -/
structure ObjMFit (o : ObjM) : Prop where
  ok : ObjMOk o
  n64 : o.parts.length * 64 ≤ 140737488351232
  n24 : ∀ p ∈ o.parts, p.req.length * 24 ≤ 140737488351232 ∧ p.lim.length * 24 ≤ 140737488351232
  n32 : o.ls.length * 32 ≤ 140737488351232
theorem ObjMAt.fit {P : Nat → Prop} {w : World} {a : Addr} {o : ObjM} {L : Option Addr} {m : Nat} {B : Option Addr} {c : Nat} (h : ObjMAt P w a o L m B c) (f : ObjMFit o) : ObjFit w (o.at_ L m) B o.ls :=
  ⟨h.row.mono fun _ _ => trivial, ⟨L, m, rfl, h.lab.mono fun _ _ => trivial⟩, f.n64, f.n24, f.n32⟩
theorem ObjMAt.arg {P : Nat → Prop} {w : World} {a : Addr} {o : ObjM} {L : Option Addr} {m : Nat} {B : Option Addr} {c : Nat} (h : ObjMAt P w a o L m B c) (f : ObjMOk o) (hm : Ml w) (ht : TextsAt w) : OArg w o.v L o.ls.length m B P :=
  ⟨hm, ht, ⟨⟨L, _, m, rfl⟩, h.row, f.len, f.small⟩, f.use⟩
theorem kObj_parts {P : Nat → Prop} {w : World} {o : ObjM} {L : Option Addr} {m : Nat} {B : Option Addr} {c : Nat} (h : kObj.R P w o [.string o.path, .string o.name, .slice L o.ls.length m, .int .i64 o.prio, .int .i64 o.dl, .slice B o.parts.length c, .int .i64 o.ver]) : Row kPart P w B o.parts ∧ Row kLab P w L o.ls := by
  obtain ⟨c1, c2, e1, h1, c3, c4, rfl, h3, c5, c6, rfl, ⟨L', m', rfl, hrow⟩, c7, c8, rfl, h7, c9, c10, rfl, h9, c11, c12, rfl, ⟨v2, rfl, B', c', rfl, _, _, hrow2⟩, h11⟩ := h
  obtain rfl : c1 = [.string o.path] := h1
  obtain rfl : c3 = [.string o.name] := h3
  obtain rfl : c7 = [.int .i64 o.prio] := h7
  obtain rfl : c9 = [.int .i64 o.dl] := h9
  obtain rfl : c12 = [.int .i64 o.ver] := h11
  simp at e1
  obtain ⟨⟨rfl, rfl⟩, rfl, rfl⟩ := e1
  exact ⟨hrow2, hrow⟩
theorem oarg_of {P : Nat → Prop} {w : World} {o : ObjM} {L : Option Addr} {m : Nat} {B : Option Addr} {c : Nat} (h : kObj.R P w o [.string o.path, .string o.name, .slice L o.ls.length m, .int .i64 o.prio, .int .i64 o.dl, .slice B o.parts.length c, .int .i64 o.ver]) (f : ObjMOk o) (hm : Ml w) (ht : TextsAt w) : OArg w o.v L o.ls.length m B P :=
  ⟨hm, ht, ⟨⟨L, _, m, rfl⟩, (kObj_parts h).1, f.len, f.small⟩, f.use⟩
theorem objfit_of {P : Nat → Prop} {w : World} {o : ObjM} {L : Option Addr} {m : Nat} {B : Option Addr} {c : Nat} (h : kObj.R P w o [.string o.path, .string o.name, .slice L o.ls.length m, .int .i64 o.prio, .int .i64 o.dl, .slice B o.parts.length c, .int .i64 o.ver]) (f : ObjMFit o) : ObjFit w (o.at_ L m) B o.ls :=
  ⟨(kObj_parts h).1.mono fun _ _ => trivial, ⟨L, m, rfl, (kObj_parts h).2.mono fun _ _ => trivial⟩, f.n64, f.n24, f.n32⟩
end Go.Proofs.YtalkdddeiebfmaaGreatDoor
/- A row of bools of the call's own. -/
namespace Go.Proofs.YtalkdddeiebfmaaGreatDoor
open Go.RowKit

def boolCells (b : Bool) : List Value := [.bool b]
def kBool : Kn Bool := Kn.enc boolCells 1 (by omega) (fun _ => rfl) (fun x u hu => by rw [List.mem_singleton.1 hu]; rfl)
theorem bool_at {P : Nat → Prop} {w : World} {A : Option Addr} {xs : List Bool} (h : Row kBool P w A xs) (i : Nat) (hi : i < xs.length) : ∃ a, A = some a ∧ P a.block ∧ w.cell? (a.add i) = some (.bool xs[i]) := by
  obtain ⟨a, cs, hA, hP, hr, hc⟩ := h.at_ i hi
  obtain rfl : cs = boolCells xs[i] := hr
  have := hc 0 _ rfl
  have e : i * kBool.sz = i := Nat.mul_one i
  rw [e] at this
  exact ⟨a, hA, hP, this⟩
theorem flat_bools (P : Nat → Prop) (w : World) (xs : List Bool) : Flat kBool P w xs (xs.map Value.bool) := by
  refine ⟨by simp [kBool, Kn.enc], fun i hi => ?_⟩
  show ((xs.map Value.bool).drop (i * 1)).take 1 = [Value.bool xs[i]]
  rw [Nat.mul_one, List.drop_eq_getElem_cons (by simpa using hi)]
  simp
/-- what 'seen' has: the places that came -/
def seenL (n : Nat) (ks : List Nat) : List Bool := (List.range n).map fun k => decide (k ∈ ks)
theorem seenL_len (n : Nat) (ks : List Nat) : (seenL n ks).length = n := by simp [seenL]
theorem seenL_get {n : Nat} {ks : List Nat} {k : Nat} (hk : k < n) : (seenL n ks)[k]'(by rw [seenL_len]; exact hk) = decide (k ∈ ks) := by simp [seenL]
theorem seenL_set {n : Nat} {ks : List Nat} {k : Nat} : (seenL n ks).set k true = seenL n (ks ++ [k]) := by
  refine List.ext_getElem (by simp [seenL]) fun i h1 h2 => ?_
  rw [List.getElem_set]
  simp only [seenL, List.getElem_map, List.getElem_range, List.mem_append, List.mem_singleton]
  by_cases e : k = i
  · rw [if_pos e]; subst e; simp
  · rw [if_neg e]
    congr 1
    simp [Ne.symm e]
theorem seenL_nil (n : Nat) : seenL n [] = List.replicate n false := by
  refine List.ext_getElem (by simp [seenL]) fun i h1 h2 => by simp [seenL]
theorem made_bools (n : Nat) : (madeCells (Value.bool false).cells (n * 1)).toList = List.replicate n (.bool false) := by
  have hc : (Value.bool false).cells = #[.bool false] := rfl
  rw [hc, Nat.mul_one]
  refine List.ext_getElem (by simp [madeCells]) fun i h1 h2 => ?_
  simp [madeCells, Nat.mod_one]
theorem own_seen {base n : Nat} {w : World} {v : Value} (h : w.ownsRow base 4 1 v n (List.replicate n (.bool false))) : Own kBool 4 base (fun _ => False) w v (seenL n []) := by
  refine ⟨List.replicate n (.bool false), ?_, ?_⟩
  · rw [seenL_len]; exact h
  · have := flat_bools (fun _ => False) w (seenL n [])
    rw [seenL_nil] at this ⊢
    simpa using this
theorem own_seen_set {base g n cap m : Nat} {w : World} {ks : List Nat} (h : Own kBool 4 base (fun _ => False) w (.slice (some ⟨g, 0, none⟩) m cap) (seenL n ks)) {k : Nat} (hk : k < n) :
    Own kBool 4 base (fun _ => False) (w.setCell ⟨g, k, none⟩ (.bool true)) (.slice (some ⟨g, 0, none⟩) m cap) (seenL n (ks ++ [k])) := by
  have := Own.setEnc (f := boolCells) (n := 1) h k (by rw [seenL_len]; exact hk) 0 (by omega) (.bool true) true rfl
  rw [seenL_set, Nat.mul_one, Nat.add_zero] at this
  exact this
end Go.Proofs.YtalkdddeiebfmaaGreatDoor
/- LedgerOrders: the loop's state. -/
namespace Go.Proofs.YtalkdddeiebfmaaGreatDoor
open Go.RowKit

/-- one of two ledgers at a round: what was charged on it -/
structure LedRun (w : World) (g b1 b2 : Nat) (os : List ObjM) (S : Pl → Int) (C : ByteArray → Int) : Prop where
  led : IsLed w g b1 b2 (os.length * 60000000000) S C
  ok : LedOk (os.length * 60000000000) S C
  of : ofV Z0 C0 os = (0, S, C)
theorem LedRun.start {w : World} {g b1 b2 : Nat} (k : IsLed w g b1 b2 0 Z0 C0) : LedRun w g b1 b2 [] Z0 C0 := ⟨k, ledOk_zero, rfl⟩
theorem LedRun.below {w w' : World} {g b1 b2 : Nat} {os : List ObjM} {S : Pl → Int} {C : ByteArray → Int} (k : LedRun w g b1 b2 os S C) (hb : Below w.heap.size w w') : LedRun w' g b1 b2 os S C := ⟨k.led.below hb, k.ok, k.of⟩
theorem LedRun.turn {w w' : World} {g b1 b2 : Nat} {os : List ObjM} {S : Pl → Int} {C : ByteArray → Int} {T : Nat → Prop} (k : LedRun w g b1 b2 os S C) (ht : Turn T w w') (hT : ∀ i, ledB g b1 b2 i → ¬ T i) : LedRun w' g b1 b2 os S C := ⟨k.led.turn ht hT, k.ok, k.of⟩
theorem LedRun.step {w w' : World} {g b1 b2 n : Nat} {os : List ObjM} {o : ObjM} {S S' : Pl → Int} {C C' : ByteArray → Int} (k : LedRun w g b1 b2 os S C) (f : ObjMOk o) (hc : chargeV S C o.v = (0, S', C')) (k' : IsLed w' g b1 b2 n S' C') : LedRun w' g b1 b2 (os ++ [o]) S' C' := by
  have h1 := chargeV_ok k.ok f
  rw [hc] at h1
  have h2 := objWt_le (chargeV_acc hc).1 f
  have h3 : LedOk ((os ++ [o]).length * 60000000000) S' C' := h1.mono (by rw [List.length_append, List.length_singleton, Nat.add_mul]; omega)
  exact ⟨k'.tight h3, h3, ofV_snoc k.of hc⟩
/-- a charge on one of them -/
theorem LedRun.charge {w : World} {g b1 b2 : Nat} {os : List ObjM} {S : Pl → Int} {C : ByteArray → Int} (k : LedRun w g b1 b2 os S C) (hl : os.length ≤ 40) (o : ObjM) (f : ObjMOk o) (L : Option Addr) (m : Nat) (B : Option Addr) (c : Nat) (P : Nat → Prop) (h : OArg w o.v L o.ls.length m B P) :
    Calls Tryz.prog 17 #[.pointer (some ⟨g, 0, none⟩), .agg #[.string o.path, .string o.name, .slice L o.ls.length m, .int .i64 o.prio, .int .i64 o.dl, .slice B o.parts.length c, .int .i64 o.ver]] w fun e w' =>
      ∃ z S' C', e = .returned (.int .i64 z) ∧ (z = 0 → LedRun w' g b1 b2 (os ++ [o]) S' C') ∧ (z ≠ 0 → chargeV S C o.v = (z, S', C')) ∧ Turn (mapB b1 b2) w w' := by
  obtain ⟨⟨z, S', C'⟩, hc⟩ : ∃ r, chargeV S C o.v = r := ⟨_, rfl⟩
  have h1 := charge_any (g := g) (b1 := b1) (b2 := b2) (n := os.length * 60000000000) (S := S) (C := C) o.v (os.length * 60000000000) L o.ls.length m B c P w h k.led k.ok (by omega) (os.length * 60000000000 + 60000000000) (Nat.le_refl _) (by unfold maxLen; omega)
  rw [hc] at h1
  refine h1.mono fun e w' ⟨e1, e2, e3⟩ => ⟨z, S', C', e1, fun hz => ?_, fun _ => hc, e3⟩
  subst hz
  exact k.step f hc e2
theorem sum_le {α : Type} (f : α → Nat) (K : Nat) : ∀ l : List α, (∀ x ∈ l, f x ≤ K) → (l.map f).sum ≤ l.length * K
  | [], _ => by simp
  | x :: l, h => by
    have h1 := h x (by simp)
    have h2 := sum_le f K l fun y hy => h y (by simp [hy])
    rw [List.map_cons, List.sum_cons, List.length_cons, Nat.succ_mul]; omega
theorem objs_wt {os : List ObjM} (h : ∀ o ∈ os, ObjMOk o) : (os.map objWt).sum ≤ os.length * 57982058614 := sum_le objWt _ os fun o ho => by
  have h1 := objWt_amts o
  have h2 : (allB o.parts).length ≤ 1073741824 := (h o ho).use.few
  omega
/-- the loop, at i -/
structure OrdAt (d : ObjM) (w wr : World) (ga a1 a2 gb b1 b2 sb n i : Nat) (os : List ObjM) (lv : Value) (ks : List Nat) (Sa Sb : Pl → Int) (Ca Cb : ByteArray → Int) (R : Nat → Prop) : Prop where
  below : Below w.heap.size w wr
  list : ListAt kObj 26 (sb + 1) wr lv (os.take i) R
  a : LedRun wr ga a1 a2 (os.take i) Sa Ca
  b : LedRun wr gb b1 b2 (ks.map fun k => os.getD k d) Sb Cb
  seen : Own kBool 4 sb (fun _ => False) wr (.slice (some ⟨sb, 0, none⟩) n n) (seenL n ks)
  nod : ks.Nodup
  len : ks.length = i
  lt : ∀ k ∈ ks, k < n
/-- which blocks are whose -/
structure OrdBlk (w : World) (ga a1 a2 gb b1 b2 sb : Nat) : Prop where
  a : ∀ j, ledB ga a1 a2 j → w.heap.size ≤ j ∧ j < sb
  b : ∀ j, ledB gb b1 b2 j → w.heap.size ≤ j ∧ j < sb
  ab : ∀ j, ledB ga a1 a2 j → ¬ ledB gb b1 b2 j
  s : w.heap.size ≤ sb
theorem LedRun.charge' {w : World} {g b1 b2 : Nat} {os : List ObjM} {S : Pl → Int} {C : ByteArray → Int} (k : LedRun w g b1 b2 os S C) (hl : os.length ≤ 40) (o : ObjM) (f : ObjMOk o) {z : Int} {S' : Pl → Int} {C' : ByteArray → Int} (hc : chargeV S C o.v = (z, S', C'))
    (L : Option Addr) (m : Nat) (B : Option Addr) (c : Nat) (P : Nat → Prop) (h : OArg w o.v L o.ls.length m B P) :
    Calls Tryz.prog 17 #[.pointer (some ⟨g, 0, none⟩), .agg #[.string o.path, .string o.name, .slice L o.ls.length m, .int .i64 o.prio, .int .i64 o.dl, .slice B o.parts.length c, .int .i64 o.ver]] w fun e w' =>
      e = .returned (.int .i64 z) ∧ (z = 0 → LedRun w' g b1 b2 (os ++ [o]) S' C') ∧ Turn (mapB b1 b2) w w' := by
  have h1 := charge_any (g := g) (b1 := b1) (b2 := b2) (n := os.length * 60000000000) (S := S) (C := C) o.v (os.length * 60000000000) L o.ls.length m B c P w h k.led k.ok (by omega) (os.length * 60000000000 + 60000000000) (Nat.le_refl _) (by unfold maxLen; omega)
  rw [hc] at h1
  refine h1.mono fun e w' ⟨e1, e2, e3⟩ => ⟨e1, fun hz => ?_, e3⟩
  subst hz
  exact k.step f hc e2
/-- the loop's state, part by part -/
structure OrdG (w wr : World) (ga a1 a2 gb b1 b2 sb n l : Nat) (os La Lb : List ObjM) (lv : Value) (ks : List Nat) (Sa Sb : Pl → Int) (Ca Cb : ByteArray → Int) (R : Nat → Prop) : Prop where
  below : Below w.heap.size w wr
  list : ListAt kObj 26 (sb + 1) wr lv (os.take l) R
  a : LedRun wr ga a1 a2 La Sa Ca
  b : LedRun wr gb b1 b2 Lb Sb Cb
  seen : Own kBool 4 sb (fun _ => False) wr (.slice (some ⟨sb, 0, none⟩) n n) (seenL n ks)
theorem OrdAt.g {d : ObjM} {w wr : World} {ga a1 a2 gb b1 b2 sb n i : Nat} {os : List ObjM} {lv : Value} {ks : List Nat} {Sa Sb : Pl → Int} {Ca Cb : ByteArray → Int} {R : Nat → Prop} (h : OrdAt d w wr ga a1 a2 gb b1 b2 sb n i os lv ks Sa Sb Ca Cb R) :
    OrdG w wr ga a1 a2 gb b1 b2 sb n i os (os.take i) (ks.map fun k => os.getD k d) lv ks Sa Sb Ca Cb R := ⟨h.below, h.list, h.a, h.b, h.seen⟩
section
variable {w wr w' : World} {ga a1 a2 gb b1 b2 sb n l : Nat} {os La Lb : List ObjM} {lv : Value} {ks : List Nat} {Sa Sb : Pl → Int} {Ca Cb : ByteArray → Int} {R : Nat → Prop}
theorem OrdG.then_ (h : OrdG w wr ga a1 a2 gb b1 b2 sb n l os La Lb lv ks Sa Sb Ca Cb R) (hb : Below wr.heap.size wr w') : OrdG w w' ga a1 a2 gb b1 b2 sb n l os La Lb lv ks Sa Sb Ca Cb R :=
  ⟨h.below.trans (hb.mono h.below.size), h.list.below hb, h.a.below hb, h.b.below hb, h.seen.below hb⟩
theorem OrdG.low (h : OrdG w wr ga a1 a2 gb b1 b2 sb n l os La Lb lv ks Sa Sb Ca Cb R) : ∀ k, lv.ownBlock = some k ∨ R k → sb + 1 ≤ k := fun k hk => hk.elim (fun e => (h.list.own.block_lt k e).1) (fun e => (h.list.low k e).1)
theorem OrdG.app (h : OrdG w wr ga a1 a2 gb b1 b2 sb n l os La Lb lv ks Sa Sb Ca Cb R) (hk : OrdBlk w ga a1 a2 gb b1 b2 sb) {o : ObjM} (htk : os.take (l + 1) = os.take l ++ [o]) {W4 : World} {S : Nat → Prop} (hb : Below wr.heap.size wr W4)
    (hS : ∀ k, S k → wr.heap.size ≤ k ∧ k < W4.heap.size) {lv' : Value} (ha : Appended kObj 26 (sb + 1) (fun k => R k ∨ S k) W4 w' lv lv' (os.take l ++ [o])) :
    OrdG w w' ga a1 a2 gb b1 b2 sb n (l + 1) os La Lb lv' ks Sa Sb Ca Cb (fun k => R k ∨ S k) := by
  have ht : Turn (fun k => lv.ownBlock = some k) wr w' := (Turn.of_below hb).grown ha.grown (fun k hk => .inl hk)
  have hlo := h.low
  have hsb : sb + 1 ≤ wr.heap.size := by have := (h.seen.block_lt sb rfl).2; omega
  have hws := hk.s
  refine ⟨h.below.trans (ht.below h.below.size fun k e => by have := hlo k (.inl e); omega), ?_, h.a.turn ht fun k e e2 => by have := (hk.a k e).2; have := hlo k (.inl e2); omega,
    h.b.turn ht fun k e e2 => by have := (hk.b k e).2; have := hlo k (.inl e2); omega, h.seen.move fun k e hl => ht.block k hl fun e2 => ?_⟩
  · rw [htk]
    refine (h.list.below hb).app (fun k e => ?_) ha
    obtain ⟨e1, e2⟩ := hS k e
    refine ⟨by omega, e2, fun e3 => ?_⟩
    have := (h.list.own.block_lt k e3).2
    omega
  · have h3 := hlo k (.inl e2)
    rcases e with e | e
    · have : sb = k := by simpa [Value.ownBlock] using e
      omega
    · exact e
theorem OrdG.see (h : OrdG w wr ga a1 a2 gb b1 b2 sb n l os La Lb lv ks Sa Sb Ca Cb R) (hk : OrdBlk w ga a1 a2 gb b1 b2 sb) {k : Nat} (hkn : k < n) :
    OrdG w (wr.setCell ⟨sb, k, none⟩ (.bool true)) ga a1 a2 gb b1 b2 sb n l os La Lb lv (ks ++ [k]) Sa Sb Ca Cb R := by
  have ht : Turn (fun k => k = sb) wr (wr.setCell ⟨sb, k, none⟩ (.bool true)) := Turn.setCell (S := fun k => k = sb) (p := ⟨sb, k, none⟩) (Turn.refl _ _) (.inl rfl) _
  have hlo := h.low
  refine ⟨h.below.trans (ht.below h.below.size fun k e => by subst e; exact hk.s), h.list.turn ht fun k e e2 => ?_, h.a.turn ht fun k e e2 => by have := (hk.a k e).2; omega, h.b.turn ht fun k e e2 => by have := (hk.b k e).2; omega, own_seen_set h.seen hkn⟩
  have := hlo k e2.symm
  omega
theorem OrdG.chA (h : OrdG w wr ga a1 a2 gb b1 b2 sb n l os La Lb lv ks Sa Sb Ca Cb R) (hk : OrdBlk w ga a1 a2 gb b1 b2 sb) (ht : Turn (mapB a1 a2) wr w') {La' : List ObjM} {Sa' : Pl → Int} {Ca' : ByteArray → Int} (k' : LedRun w' ga a1 a2 La' Sa' Ca') :
    OrdG w w' ga a1 a2 gb b1 b2 sb n l os La' Lb lv ks Sa' Sb Ca' Cb R := by
  have hlo := h.low
  have hm : ∀ k, mapB a1 a2 k → ledB ga a1 a2 k := fun k e => .inr e
  refine ⟨h.below.trans (ht.below h.below.size fun k e => (hk.a k (hm k e)).1), h.list.turn ht fun k e e2 => ?_, k', h.b.turn ht fun k e e2 => hk.ab k (hm k e2) e, h.seen.move fun k e hl => ht.block k hl fun e2 => ?_⟩
  · have := hlo k e2.symm
    have := (hk.a k (hm k e)).2
    omega
  · have h1 := (hk.a k (hm k e2)).2
    rcases e with e | e
    · have : sb = k := by simpa [Value.ownBlock] using e
      omega
    · exact e
theorem OrdG.chB (h : OrdG w wr ga a1 a2 gb b1 b2 sb n l os La Lb lv ks Sa Sb Ca Cb R) (hk : OrdBlk w ga a1 a2 gb b1 b2 sb) (ht : Turn (mapB b1 b2) wr w') {Lb' : List ObjM} {Sb' : Pl → Int} {Cb' : ByteArray → Int} (k' : LedRun w' gb b1 b2 Lb' Sb' Cb') :
    OrdG w w' ga a1 a2 gb b1 b2 sb n l os La Lb' lv ks Sa Sb' Ca Cb' R := by
  have hlo := h.low
  have hm : ∀ k, mapB b1 b2 k → ledB gb b1 b2 k := fun k e => .inr e
  refine ⟨h.below.trans (ht.below h.below.size fun k e => (hk.b k (hm k e)).1), h.list.turn ht fun k e e2 => ?_, h.a.turn ht fun k e e2 => hk.ab k e (hm k e2), k', h.seen.move fun k e hl => ht.block k hl fun e2 => ?_⟩
  · have := hlo k e2.symm
    have := (hk.b k (hm k e)).2
    omega
  · have h1 := (hk.b k (hm k e2)).2
    rcases e with e | e
    · have : sb = k := by simpa [Value.ownBlock] using e
      omega
    · exact e
theorem OrdG.at_ {d : ObjM} {k : Nat} {o p : ObjM} (hi : l < os.length) (hkn : k < n) (hn : os.length = n) (ho : os[l] = o) (hp : os.getD k d = p) (h : OrdG w wr ga a1 a2 gb b1 b2 sb n (l + 1) os (os.take l ++ [o]) ((ks.map fun k => os.getD k d) ++ [p]) lv (ks ++ [k]) Sa Sb Ca Cb R)
    (h1 : ks.Nodup) (h2 : ks.length = l) (h3 : ∀ k ∈ ks, k < n) (h4 : k ∉ ks) : OrdAt d w wr ga a1 a2 gb b1 b2 sb n (l + 1) os lv (ks ++ [k]) Sa Sb Ca Cb R := by
  refine ⟨h.below, h.list, ?_, ?_, h.seen, ?_, by simp [h2], fun x hx => ?_⟩
  · rw [List.take_succ_eq_append_getElem hi, ho]; exact h.a
  · rw [List.map_append, List.map_singleton, hp]; exact h.b
  · rw [List.nodup_append]
    exact ⟨h1, by simp, fun a ha b hb e => by rw [List.mem_singleton.1 hb] at e; exact h4 (e ▸ ha)⟩
  · rcases List.mem_append.1 hx with e | e
    · exact h3 x e
    · rw [List.mem_singleton.1 e]; exact hkn
theorem OrdG.cell (h : OrdG w wr ga a1 a2 gb b1 b2 sb n l os La Lb lv ks Sa Sb Ca Cb R) {k : Nat} (hkn : k < n) : wr.cell? ⟨sb, k, none⟩ = some (.bool (decide (k ∈ ks))) ∧ wr.frozen? ⟨sb, k, none⟩ = false := by
  refine ⟨?_, (OwnAt.of_own h.seen).frozen k⟩
  obtain ⟨A, c, hv, -, -, hr⟩ := h.seen.row
  injection hv with hA _ _
  subst hA
  obtain ⟨a, ha, -, hc⟩ := bool_at hr k (by rw [seenL_len]; exact hkn)
  cases ha
  rw [add_new, seenL_get hkn] at hc
  exact hc
end
theorem ObjMAt.below {P : Nat → Prop} {w w' : World} {a : Addr} {o : ObjM} {L : Option Addr} {m : Nat} {B : Option Addr} {c : Nat} (h : ObjMAt P w a o L m B c) (hb : Below w.heap.size w w') : ObjMAt P w' a o L m B c :=
  ⟨(hb.cell (World.block_lt_of_cell? _ _ h.c0)).trans h.c0, (hb.cell (p := ⟨_, _, none⟩) (World.block_lt_of_cell? _ _ h.c1)).trans h.c1, (hb.cell (p := ⟨_, _, none⟩) (World.block_lt_of_cell? _ _ h.c2)).trans h.c2, (hb.cell (p := ⟨_, _, none⟩) (World.block_lt_of_cell? _ _ h.c3)).trans h.c3,
    (hb.cell (p := ⟨_, _, none⟩) (World.block_lt_of_cell? _ _ h.c4)).trans h.c4, (hb.cell (p := ⟨_, _, none⟩) (World.block_lt_of_cell? _ _ h.c5)).trans h.c5, (hb.cell (p := ⟨_, _, none⟩) (World.block_lt_of_cell? _ _ h.c6)).trans h.c6, h.lab.below hb, h.row.below hb⟩
end Go.Proofs.YtalkdddeiebfmaaGreatDoor
