/- The ledger's Change, Used, Count, Of: the walks. -/
import Derived.Test.YtalkdddeiebfmaaGreatDoorJ12
namespace Go.Proofs.YtalkdddeiebfmaaGreatDoor
open Go.RowKit Go.Maps Go.WideMaps

section
variable {g b1 b2 n : Nat} {S : Pl → Int} {C : ByteArray → Int}
theorem moveOk_back {m : Nat} (ok : LedOk m S C) (hm : m ≤ 4611686018427387904) {o : ObjV} {l : List ByteArray} {T : List Sh} (h : SharesOk o l T) (hj : judgeU S T = 0) (hc : l.any (fun p => C p == 0) = false) : MoveOk 1 (addC (-1) C l) (addS (-1) S T) l T := by
  have ok2 := ok.release h hj hc
  refine ⟨.inl rfl, fun p hp => (h.path p hp).2, by have := h.few; omega, fun x => by have := ok2.clo x; have := ok2.chi x; omega, fun s hs => (h.sh s hs).1, h.nod, fun s hs => ?_⟩
  rw [addS_svL, svL_in h.nod s hs]
  have h1 := ok.lo s.1
  have h2 := ok.hi s.1
  unfold in64; omega
set_option maxRecDepth 100000 in
set_option maxHeartbeats 1000000 in
theorem change_any (o p : ObjV) (mm : Nat) (L : Option Addr) (no mo : Nat) (B : Option Addr) (c : Nat) (P : Nat → Prop) (L' : Option Addr) (no' mo' : Nat) (B' : Option Addr) (c' : Nat) (P' : Nat → Prop) (w : World) (h : OArg w o L no mo B P) (h' : OArg w p L' no' mo' B' P')
    (k : IsLed w g b1 b2 n S C) (ok : LedOk mm S C) (hm : mm ≤ 4611686018427387904) (n3 : Nat) (hn : n + 180000000000 ≤ n3) (hnx : n3 < maxLen) (hne1 : b1 ≠ 1 ∧ b2 ≠ 1) (hne2 : b1 ≠ 0 ∧ b2 ≠ 0) (hP : ∀ i, P' i → i ≠ b1 ∧ i ≠ b2) :
    Calls Tryz.prog 24 #[.pointer (some ⟨g, 0, none⟩), .agg #[.string o.path, .string o.name, .slice L no mo, .int .i64 o.prio, .int .i64 o.dl, .slice B o.parts.length c, .int .i64 o.ver], .agg #[.string p.path, .string p.name, .slice L' no' mo', .int .i64 p.prio, .int .i64 p.dl, .slice B' p.parts.length c', .int .i64 p.ver]] w
      (LedPost g b1 b2 n3 (changeV S C o p) w) := by
  have hba := (Below.refl w.heap.size w).alloc (Nat.le_refl _) (.cells #[.string o.path, .string o.name, .slice L no mo, .int .i64 o.prio, .int .i64 o.dl, .slice B o.parts.length c, .int .i64 o.ver] 26)
  have hxa := OBox.of (heap_alloc_new w (.cells #[.string o.path, .string o.name, .slice L no mo, .int .i64 o.prio, .int .i64 o.dl, .slice B o.parts.length c, .int .i64 o.ver] 26))
  obtain ⟨wa, hwa⟩ : ∃ wa, w.alloc (.cells #[.string o.path, .string o.name, .slice L no mo, .int .i64 o.prio, .int .i64 o.dl, .slice B o.parts.length c, .int .i64 o.ver] 26) = wa := ⟨_, rfl⟩
  rw [hwa] at hba hxa
  have hbb := (Below.refl wa.heap.size wa).alloc (Nat.le_refl _) (.cells #[.string p.path, .string p.name, .slice L' no' mo', .int .i64 p.prio, .int .i64 p.dl, .slice B' p.parts.length c', .int .i64 p.ver] 26)
  have hxb := OBox.of (heap_alloc_new wa (.cells #[.string p.path, .string p.name, .slice L' no' mo', .int .i64 p.prio, .int .i64 p.dl, .slice B' p.parts.length c', .int .i64 p.ver] 26))
  obtain ⟨w0, hw0⟩ : ∃ w0, wa.alloc (.cells #[.string p.path, .string p.name, .slice L' no' mo', .int .i64 p.prio, .int .i64 p.dl, .slice B' p.parts.length c', .int .i64 p.ver] 26) = w0 := ⟨_, rfl⟩
  rw [hw0] at hbb hxb
  have HB0 := Lib.hid (hba.trans (hbb.mono hba.size))
  have HXA := Lib.hid (hxa.below hbb)
  have HXB := Lib.hid hxb
  have HBXB := Lib.hid (show wa.heap.size ≠ b1 ∧ wa.heap.size ≠ b2 from ⟨fun e => by have := k.lt b1 (.inr (.inl rfl)); have := hba.size; omega, fun e => by have := k.lt b2 (.inr (.inr rfl)); have := hba.size; omega⟩)
  obtain ⟨⟨l, T, z⟩, hV⟩ : ∃ r, goneV S C o = r := ⟨_, rfl⟩
  have HR := Lib.hid (fun (hz : z = 0) => (show releaseV S C o = (0, addS (-1) S T, addC (-1) C l) by unfold releaseV; rw [hV, hz, if_pos rfl]))
  have HCV := Lib.hid (show changeV S C o p = if z ≠ 0 then (z, S, C) else if (chargeV (releaseV S C o).2.1 (releaseV S C o).2.2 p).1 ≠ 0 then ((chargeV (releaseV S C o).2.1 (releaseV S C o).2.2 p).1, S, C) else chargeV (releaseV S C o).2.1 (releaseV S C o).2.2 p by unfold changeV; rw [hV])
  have HV := Lib.hid hV
  have HGO := Lib.hid (fun (hz : z = 0) => goneV_ok (S := S) (C := C) h.use (show goneV S C o = (l, T, 0) by rw [hV, hz]))
  have HA := Lib.hid (h.below HB0.out)
  have HA' := Lib.hid (h'.below HB0.out)
  have HK := Lib.hid (k.below HB0.out)
  have HK00 := Lib.hid k
  have HOK := Lib.hid ok
  obtain ⟨nl, hnl⟩ : ∃ n, l.length = n := ⟨_, rfl⟩
  obtain ⟨nt, hnt⟩ : ∃ n, T.length = n := ⟨_, rfl⟩
  have HNL := Lib.hid hnl
  have HNT := Lib.hid hnt
  have HLT := Lib.hid HK.out.lt
  have HP := Lib.hid hP
  obtain ⟨-, r0, r1, r2, r3, r4, r5, r6, -⟩ := HXA.out
  obtain ⟨-, s0, s1, s2, s3, s4, s5, s6, -⟩ := HXB.out
  clear hV h h' k ok hba hbb hxa hxb hnl hnt hP
  go_enter Tryz.func24, Tryz.ntmps24
  go_upto_region 2 with (go_at_call 45; refine (gone_at o l T z nl nt HV HNL.out HNT.out L no mo B c P _ HA.out HK.out).mono ?_; rintro e w1 ⟨A1, c1, B1, d1, rfl, hr1, hq1, hb1⟩; have HR1 := Lib.hid hr1; have HQ1 := Lib.hid hq1; have HB1 := Lib.hid hb1; clear hr1 hq1 hb1)
  clear hw0 hwa r0 r1 r2 r3 r4 r5 r6 s0 s1 s2 s3 s4 s5 s6
  have HB01 := Lib.hid (HB0.out.trans (HB1.out.mono HB0.out.size))
  by_cases hz : z = 0
  · subst hz
    obtain ⟨so, hj, hc⟩ := HGO.out rfl
    have hrv := HR.out rfl
    have HC2 := HCV.out
    rw [if_neg (by simp), hrv] at HC2
    have hl9 : nl ≤ 9 := by rw [← HNL.out]; exact so.few
    have hT9 : nt ≤ 57982058550 := by rw [← HNT.out]; exact so.len
    have HMO := Lib.hid (moveOk_release HOK.out hm so hj)
    have HMB := Lib.hid (moveOk_back HOK.out hm so hj hc)
    have HOK1 := Lib.hid (HOK.out.release so hj hc)
    have HBK := Lib.hid (addS_back T S)
    have HBC := Lib.hid (addC_back l C)
    have HNE := Lib.hid (fun i (hi : w0.heap.size ≤ i ∧ i < w1.heap.size) => (show i ≠ b1 ∧ i ≠ b2 from
      ⟨fun e => by have := HLT.out b1 (.inr (.inl rfl)); omega, fun e => by have := HLT.out b2 (.inr (.inr rfl)); omega⟩))
    obtain ⟨S1, hS1⟩ : ∃ S1, addS (-1) S T = S1 := ⟨_, rfl⟩
    obtain ⟨C1, hC1⟩ : ∃ C1, addC (-1) C l = C1 := ⟨_, rfl⟩
    simp only at HC2
    rw [hS1, hC1] at HC2 HMB HOK1
    rw [hS1] at HBK
    rw [hC1] at HBC
    have HC3 := Lib.hid HC2
    obtain ⟨n1, hn1⟩ : ∃ n1, n + 60000000000 = n1 := ⟨_, rfl⟩
    obtain ⟨n2, hn2⟩ : ∃ n2, n1 + 60000000000 = n2 := ⟨_, rfl⟩
    have H1 := Lib.hid (show n + 60000000000 ≤ n1 by omega)
    have H2 := Lib.hid (show n1 + 60000000000 ≤ n2 by omega)
    have H3 := Lib.hid (show n2 + 60000000000 ≤ n3 by omega)
    have H4 := Lib.hid (show n1 < maxLen by omega)
    have H5 := Lib.hid (show n2 < maxLen by omega)
    have H6 := Lib.hid (show n2 ≤ n3 by omega)
    clear hn1 hn2
    have HS1 := Lib.hid hS1
    have HC1 := Lib.hid hC1
    clear hj hc so hrv HC2 hS1 hC1 HCV
    go_upto_region 5 with (go_at_call 44; refine (move_at (-1) l T nl nt HNL.out HNT.out A1 B1 c1 d1 _ _ w1 (HK.out.below HB1.out) HMO.out HR1.out HQ1.out HNE.out HNE.out hl9 hT9 n1 H1.out H4.out).mono ?_; rintro e w3 ⟨rfl, hk3, ht3⟩; rw [HS1.out, HC1.out] at hk3; have HK3 := Lib.hid hk3; have HT3 := Lib.hid ht3; clear hk3 ht3)
    have HA3 := Lib.hid ((HA'.out.below HB1.out).turn HT3.out (fun e => e.elim (fun e => hne1.1 e.symm) (fun e => hne1.2 e.symm)) (fun e => e.elim (fun e => hne2.1 e.symm) (fun e => hne2.2 e.symm)) (fun i hi e => e.elim (HP.out i hi).1 (HP.out i hi).2))
    have HX3 := Lib.hid ((HXB.out.below HB1.out).turn HT3.out (fun e => e.elim HBXB.out.1 HBXB.out.2))
    have HR3 := Lib.hid (HR1.out.turn HT3.out (fun i hi e => e.elim (HNE.out i hi).1 (HNE.out i hi).2))
    have HQ3 := Lib.hid (HQ1.out.turn HT3.out (fun i hi e => e.elim (HNE.out i hi).1 (HNE.out i hi).2))
    have HT03 := Lib.hid ((Turn.of_below (S := mapB b1 b2) HB01.out).trans (HT3.out.mono fun j _ hj => .inl hj))
    obtain ⟨-, s0, s1, s2, s3, s4, s5, s6, -⟩ := HX3.out
    have HCC := Lib.hid (charge_any (g := g) (b1 := b1) (b2 := b2) p mm L' no' mo' B' c' P' w3 HA3.out HK3.out HOK1.out hm n2 H2.out H5.out)
    obtain ⟨⟨z2, S2, C2⟩, hr2⟩ : ∃ r, chargeV S1 C1 p = r := ⟨_, rfl⟩
    have HE2 := Lib.hid (fun (hz : z2 ≠ 0) => (show S2 = S1 ∧ C2 = C1 by
      have := chargeV_err (S := S1) (C := C1) (o := p) (by rw [hr2]; exact hz)
      rw [hr2] at this
      simp only [Prod.mk.injEq] at this
      exact this.2))
    have hcc := HCC.out
    unfold LedPost at hcc
    rw [hr2] at hcc
    have HCQ := Lib.hid hcc
    have HC4 := HC3.out
    rw [hr2] at HC4
    have HC5 := Lib.hid HC4
    clear hcc HCC hr2 HC4 HC3
    go_upto_region 6 with (go_at_call 17; refine HCQ.out.mono ?_; rintro e w4 ⟨rfl, hk4, ht4⟩; have HK4 := Lib.hid hk4; have HT4 := Lib.hid ht4; clear hk4 ht4)
    clear s0 s1 s2 s3 s4 s5 s6
    have HT04 := Lib.hid (HT03.out.trans (HT4.out.mono fun j _ hj => .inl hj))
    by_cases hz2 : z2 = 0
    · have HC6 := HC5.out
      rw [if_neg (by simpa using hz2)] at HC6
      have HC7 := Lib.hid HC6
      subst hz2
      clear HC6
      go_wp2
      go_ret
      rw [HC7.out]
      exact ⟨rfl, HK4.out.mono H6.out, HT04.out⟩
    · have HC6 := HC5.out
      rw [if_pos hz2] at HC6
      have HC7 := Lib.hid HC6
      obtain ⟨rfl, rfl⟩ := HE2.out hz2
      have e1 : (z2 != 0) = true := by simpa using hz2
      have HR4 := Lib.hid (HR3.out.turn HT4.out (fun i hi e => e.elim (HNE.out i hi).1 (HNE.out i hi).2))
      have HQ4 := Lib.hid (HQ3.out.turn HT4.out (fun i hi e => e.elim (HNE.out i hi).1 (HNE.out i hi).2))
      clear HC6 hz2
      go_wp2_with (go_at_call 44; refine (move_at 1 l T nl nt HNL.out HNT.out A1 B1 c1 d1 _ _ w4 HK4.out HMB.out HR4.out HQ4.out HNE.out HNE.out hl9 hT9 n3 H3.out hnx).mono ?_; rintro e w5 ⟨rfl, hk5, ht5⟩; rw [HBK.out, HBC.out] at hk5; have HK5 := Lib.hid hk5; have HT5 := Lib.hid ht5; clear hk5 ht5)
      go_ret
      rw [HC7.out]
      exact ⟨rfl, HK5.out, HT04.out.trans (HT5.out.mono fun j _ hj => .inl hj)⟩
  · have HC2 := HCV.out
    rw [if_pos hz] at HC2
    have HCV3 := Lib.hid HC2
    have e1 : (z != 0) = true := by simpa using hz
    clear HC2 hz
    go_wp2
    go_ret
    exact LedPost.kept HCV3.out HK00.out HB01.out (Nat.le_trans (Nat.le_add_right _ _) hn)

set_option maxRecDepth 100000 in
theorem used_any (x : Pl) (hx : PlOk x) (z : Int) (hz : Hid (S x = z)) (w : World) (k : IsLed w g b1 b2 n S C) :
    Calls Tryz.prog 27 #[.pointer (some ⟨g, 0, none⟩), .string x.1, .agg #[.int .i64 x.2.1.1, .int .i64 x.2.1.2], .string x.2.2] w fun e w' => e = .returned (.int .i64 z) ∧ Below w.heap.size w w' := by
  have hb0 := (Below.refl w.heap.size w).alloc (Nat.le_refl _) (.cells #[.int .i64 x.2.1.1, .int .i64 x.2.1.2] 47)
  have k1 := k.below hb0
  have hlk := fun q => k1.look1 hx q
  rw [hz.out] at hlk
  have g0 := k1.g0
  obtain ⟨p, ⟨a, b⟩, r⟩ := x
  simp only at hlk hb0 k1 ⊢
  have HB0 := Lib.hid hb0
  clear hx k k1 hb0 hz
  go_enter Tryz.func27, Tryz.ntmps27
  go_wp2
  go_quiet (fail)
  go_wp2
  go_ret
  exact ⟨rfl, below_drewN HB0.out _⟩
set_option maxRecDepth 100000 in
theorem count_any (p : ByteArray) (hp : StOk p) (z : Int) (hz : Hid (C p = z)) (w : World) (k : IsLed w g b1 b2 n S C) :
    Calls Tryz.prog 19 #[.pointer (some ⟨g, 0, none⟩), .string p] w fun e w' => e = .returned (.int .i64 z) ∧ Below w.heap.size w w' := by
  have g1 := k.g1
  have hlk := k.cnts.look hp
  rw [hz.out] at hlk
  clear hp k hz
  go_enter Tryz.func19, Tryz.ntmps19
  go_wp2
  go_ret
  exact ⟨rfl, Below.refl _ _⟩
end
end Go.Proofs.YtalkdddeiebfmaaGreatDoor
