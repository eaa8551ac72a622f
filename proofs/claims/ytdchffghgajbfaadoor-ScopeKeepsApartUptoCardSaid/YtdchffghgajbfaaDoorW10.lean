/- The law ScopeKeepsApart: the walk. -/
import Derived.Test.YtdchffghgajbfaaDoorX8
import Derived.Test.YtdchffghgajbfaaDoorW6
namespace Go.Proofs.YtdchffghgajbfaaDoor
open Go.RowKit

theorem part_name {P : Nat → Prop} {w : World} {a : Addr} {L : List PartV} (h : Row kPart P w (some a) L) (i : Nat) (hi : i < L.length) : w.cell? (a.add (i * 3)) = some (.string L[i].name) := by
  obtain ⟨a', R, M, cr, cm, ha, hp⟩ := part_at h i hi
  cases ha
  exact hp.c0
theorem mark_names {P : Nat → Prop} {w : World} {a : Addr} {L : List PartV} (h : Row kPart P w (some a) (L ++ [m1P, m2P])) : w.cell? (a.add (L.length * 3)) = some (.string ⟨#[109, 49]⟩) ∧ w.cell? (a.add ((L.length + 1) * 3)) = some (.string ⟨#[109, 50]⟩) := by
  have h1 := part_name h L.length (by simp)
  have h2 := part_name h (L.length + 1) (by simp)
  have e1 : (L ++ [m1P, m2P])[L.length]'(by simp) = m1P := by simp
  have e2 : (L ++ [m1P, m2P])[L.length + 1]'(by simp) = m2P := by simp
  rw [e1] at h1
  rw [e2] at h2
  exact ⟨h1, h2⟩
/-- while the first answers are written: they are the call's own, nothing else turns -/
structure KS (wF : World) (nA nB nC nD : Nat) (wr : World) (av uv : Value) (Ma : List ScV) (Ua : List Amt) : Prop where
  oa : Own kSc 54 nA (fun _ => False) wr av Ma
  ou : Own kAmt 64 nC (fun _ => False) wr uv Ua
  turn : Turn (Wr nA nB nC nD) wF wr
  ba : ∀ k, av.ownBlock = some k → k < nB
  bu : ∀ k, uv.ownBlock = some k → k < nD
section
variable {wF wr : World} {nA nB nC nD : Nat} {av uv : Value} {Ma : List ScV} {Ua : List Amt}
theorem KS.kind {g n c : Nat} (h : KS wF nA nB nC nD wr (.slice (some ⟨g, 0, none⟩) n c) uv Ma Ua) (hBC : nB ≤ nC) (i : Nat) (hi : i < Ma.length) (v : Int) : KS wF nA nB nC nD (wr.setCell ⟨g, i * 2, none⟩ (.int .i64 v)) (.slice (some ⟨g, 0, none⟩) n c) uv (Ma.set i ⟨v, Ma[i].arg⟩) Ua := by
  have hg := h.oa.block_lt g (by simp [Value.ownBlock])
  have hgb := h.ba g (by simp [Value.ownBlock])
  exact ⟨own_kind h.oa i hi v, h.ou.move fun k hk _ => Below.heap_setCell _ _ _ _ (by
    rcases hk with hk | hk
    · have := (h.ou.block_lt k hk).1
      show k ≠ g
      omega
    · exact hk.elim), h.turn.setCell (.inl (.inl ⟨hg.1, hgb⟩)) _, h.ba, h.bu⟩
theorem KS.val {g n c : Nat} (h : KS wF nA nB nC nD wr av (.slice (some ⟨g, 0, none⟩) n c) Ma Ua) (hBC : nB ≤ nC) (i : Nat) (hi : i < Ua.length) (v : Int) : KS wF nA nB nC nD (wr.setCell ⟨g, i * 2 + 1, none⟩ (.int .i64 v)) av (.slice (some ⟨g, 0, none⟩) n c) Ma (Ua.set i ⟨Ua[i].name, v⟩) := by
  have hg := h.ou.block_lt g (by simp [Value.ownBlock])
  have hgb := h.bu g (by simp [Value.ownBlock])
  exact ⟨h.oa.move fun k hk _ => Below.heap_setCell _ _ _ _ (by
    rcases hk with hk | hk
    · have := h.ba k hk
      show k ≠ g
      omega
    · exact hk.elim), own_val5 h.ou i hi v, h.turn.setCell (.inl (.inr ⟨hg.1, hgb⟩)) _, h.ba, h.bu⟩
end
theorem own_lt {α : Type} {d : Kn α} {e base : Nat} {w : World} {A : Option Addr} {n c : Nat} {xs : List α} (h : Own d e base (fun _ => False) w (.slice A n c) xs) : Row d (fun _ => True) w A xs := (own_rows h).mono fun _ _ => trivial
theorem kinds_set {Ma : List ScV} {k : Nat} {y : ScV} (hk : k < Ma.length) (hy : y.kind = 77) (h : ∀ i (hi : i < Ma.length), i < k → Ma[i].kind = 77) : ∀ i (hi : i < (Ma.set k y).length), i < k + 1 → (Ma.set k y)[i].kind = 77 := by
  intro i hi hik
  rw [List.getElem_set]
  split
  · exact hy
  · exact h i (by simpa using hi) (by omega)
theorem vals_set {Ma : List Amt} {k : Nat} {y : Amt} (hk : k < Ma.length) (hy : y.val = -5) (h : ∀ i (hi : i < Ma.length), i < k → Ma[i].val = -5) : ∀ i (hi : i < (Ma.set k y).length), i < k + 1 → (Ma.set k y)[i].val = -5 := by
  intro i hi hik
  rw [List.getElem_set]
  split
  · exact hy
  · exact h i (by simpa using hi) (by omega)
set_option maxRecDepth 100000 in
set_option maxHeartbeats 2000000 in
theorem scopeKeepsApart_walk (o : ObjV) (A : Option Addr) (c : Nat) (ls : List LabV) (w : World) (ht : TextsAt w) (h : ObjFit w o A ls) (hN : NamesOk o.parts) (hT : (allB o.parts).length ≤ 1099511627776) :
    Calls Tryd.prog 7 #[o.val A c] w fun e w' => e = .returned (.bool true) ∧ Below w.heap.size w w' := by
  obtain ⟨B0, m0, hlab, -⟩ := h.lab
  have hb0 : Below w.heap.size w (w.alloc (.cells (o.cells A c) 58)) := (Below.refl _ _).alloc (Nat.le_refl _) _
  have hla : LawAt (w.alloc (.cells (o.cells A c) 58)) w.heap.size o A c ls := ⟨objAt_new w o A c, h.below hb0, ht.below hb0⟩
  have H64 := Lib.hid h.n64
  have HP24 := Lib.hid h.ok.small
  unfold ObjV.val
  obtain ⟨w0, hw0⟩ : ∃ w0, w.alloc (.cells (o.cells A c) 58) = w0 := ⟨_, rfl⟩
  rw [hw0] at hb0 hla
  unfold ObjV.cells at hw0
  rw [hlab] at hw0 ⊢
  have HB0 := Lib.hid hb0
  have HLA := Lib.hid hla
  have HLAB := Lib.hid hlab
  have HN := Lib.hid hN
  have HT := Lib.hid hT
  obtain ⟨M, hM⟩ : ∃ M, ofS o 6 = M := ⟨_, rfl⟩
  have HM := Lib.hid hM
  obtain ⟨qa, hqa⟩ : ∃ qa, M.length = qa := ⟨_, rfl⟩
  have HQA := Lib.hid hqa
  have hq3 : 3 ≤ qa ∧ qa ≤ 4 := by
    rw [← hqa, ← hM, of_all, in_all, List.length_append]
    simp only [List.length_cons, List.length_nil]
    split <;> simp
  obtain ⟨hqa3, hqa4⟩ := hq3
  obtain ⟨U, hU⟩ : ∃ U, (usesV o.parts).1.map amtOf = U := ⟨_, rfl⟩
  have HU := Lib.hid hU
  obtain ⟨qu, hqu⟩ : ∃ qu, U.length = qu := ⟨_, rfl⟩
  have HQU := Lib.hid hqu
  obtain ⟨eu, heu⟩ : ∃ eu, (usesV o.parts).2 = eu := ⟨_, rfl⟩
  have HEU := Lib.hid heu
  have hqu9 : qu ≤ 1099511627777 := by
    rw [← hqu, ← hU, List.length_map]
    have := usesV_len o.parts
    omega
  clear hb0 hla hlab ht h hN hT hM hqa hU hqu heu
  go_enter Tryd.func7, Tryd.ntmps7
  go_upto_region 4 with (go_at_call 26; refine (fixed_any _).mono ?_; rintro e w1 ⟨rfl, hb1⟩; have HB1 := Lib.hid hb1; clear hb1)
  clear hw0
  have HL1 := Lib.hid (HLA.out.below HB1.out)
  obtain ⟨x0, x1, x2, x3, x4, x5, x6⟩ := HL1.out.obj
  rw [HLAB.out] at x2
  go_upto_region 5 with (go_at_call 30; refine (own_pt o A c ls B0 m0 HLAB.out _ HL1.out.fit).mono ?_; rintro e w2 ⟨L2, m2, B2, c2, R2, rfl, hp2, hb2⟩; have HP2 := Lib.hid hp2; have HB2 := Lib.hid hb2; clear hp2 hb2)
  clear x0 x1 x2 x3 x4 x5 x6
  have HX3 := Lib.hid (OBox.of (heap_alloc_new w2 (.cells #[.string o.path, .string o.name, .slice L2 ls.length m2, .int .i64 o.prio, .int .i64 o.dl, .slice B2 o.parts.length c2, .int .i64 o.ver] 58)))
  have HB3 := Lib.hid (show Below w1.heap.size w1 (w2.alloc (.cells #[.string o.path, .string o.name, .slice L2 ls.length m2, .int .i64 o.prio, .int .i64 o.dl, .slice B2 o.parts.length c2, .int .i64 o.ver] 58)) from HB2.out.alloc HB2.out.size _)
  have HP3 := Lib.hid (HP2.out.below ((Below.refl w2.heap.size w2).alloc (Nat.le_refl _) (.cells #[.string o.path, .string o.name, .slice L2 ls.length m2, .int .i64 o.prio, .int .i64 o.dl, .slice B2 o.parts.length c2, .int .i64 o.ver] 58)))
  have hpl := HB2.out.size
  have hbk := HP2.out.own.block_lt
  have hlow := HP2.out.low
  obtain ⟨pb, hpb⟩ : ∃ pb, w2.heap.size = pb := ⟨_, rfl⟩
  rw [hpb] at HX3 hpl hbk hlow ⊢
  generalize hw3 : w2.alloc (.cells #[.string o.path, .string o.name, .slice L2 ls.length m2, .int .i64 o.prio, .int .i64 o.dl, .slice B2 o.parts.length c2, .int .i64 o.ver] 58) = w3 at HX3 HB3 HP3 ⊢
  clear hw3 HP2 HB2 hpb
  have HBK := Lib.hid hbk
  have HLOW := Lib.hid hlow
  obtain ⟨-, -, -, -, -, -, p5, -, -⟩ := HX3.out
  have h64 : (o.parts.length + 2) * 64 ≤ 140737488355328 := by have := H64.out; omega
  have hs3 : pb + 1 ≤ w3.heap.size := (Array.getElem?_eq_some_iff.1 HX3.out.blk).1
  clear hbk hlow
  go_upto_region 6 with (at_builtin; refine wpList_app partElem w1.heap.size rfl (.tmp 28) (.tmp 31) rfl (v := .slice B2 o.parts.length c2) (xs := o.parts) (ys := [m1P, m2P]) rfl (HP3.out.own.alloc _) (fun q hq => (HP3.out.low q hq).2.2) (fun q hq e => by have := HBK.out q e; have : q = w3.heap.size := hq; omega) rfl rfl (marks_row w3) (by exact h64) (by simp; omega) ?_; intro A6 c6 w6 happ; have HA6 := Lib.hid happ; clear happ)
  have HX6 := Lib.hid (show OBox w6 pb _ _ _ _ _ _ _ from .of ((HA6.out.grown.block pb (by simp; omega) (fun e => by have := (HBK.out pb e.symm).2; omega)).trans (HX3.out.below ((Below.refl w3.heap.size w3).alloc (Nat.le_refl _) _)).blk))
  have HP6 := Lib.hid ((HP3.out.below ((Below.refl w3.heap.size w3).alloc (Nat.le_refl _) _)).app (S := fun k => k = w3.heap.size) (fun q hq => by subst hq; exact ⟨HB3.out.size, by simp, fun e => by have := (HBK.out _ e).2; omega⟩) HA6.out)
  have HB6 := Lib.hid (show Below w1.heap.size w1 w6 from HA6.out.below (HB3.out.alloc HB3.out.size _) (by simp; omega) (fun q hq => (HBK.out q hq).1))
  have hs6 : pb + 1 ≤ w6.heap.size := (Array.getElem?_eq_some_iff.1 HX6.out.blk).1
  have hcap : o.parts.length ≤ c6 := by have := HP6.out.row.2.2.1; simp at this; omega
  have hcut := run_cut_to partElem A6 (o.parts.length + 2) c6 o.parts.length hcap
  have HROW6 := Lib.hid (show Row kPart (fun k => k < w6.heap.size ∧ k ≠ pb) w6 A6 (o.parts ++ [m1P, m2P]) from by
    obtain ⟨A', c', hv, -, -, hr⟩ := HP6.out.own.row
    injection hv with hA _ _
    subst hA
    refine hr.lt.mono fun k hk => ⟨hk.2, ?_⟩
    rcases hk.1 with (h | h) | h
    · have := (HLOW.out k h).2.1; omega
    · have : k = w3.heap.size := h
      omega
    · rcases HA6.out.at_ with e | e
      · rw [e] at h; have := (HBK.out k h).2; omega
      · rw [e] at h; have := Option.some.inj h; simp at this; omega)
  have hpl6 : pb < w6.heap.size := by omega
  clear p5 h64 HX3 HP3 HBK HLOW HA6 HP6 HB3
  obtain ⟨-, -, -, -, -, -, p5, -, pf⟩ := HX6.out
  go_upto_region 8 with fail
  clear p5 pf hcut
  have HXA := Lib.hid (HX6.out.set5 (.slice A6 o.parts.length c6))
  have HRA := Lib.hid (show Row kPart (fun k => k < w6.heap.size) (w6.setCell ⟨pb, 5, none⟩ (.slice A6 o.parts.length c6)) A6 (o.parts ++ [m1P, m2P]) from
    (HROW6.out.keep fun k hk _ => Below.heap_setCell _ _ _ _ hk.2).mono fun k hk => hk.1)
  have HBA := Lib.hid (show Below w1.heap.size w1 (w6.setCell ⟨pb, 5, none⟩ (.slice A6 o.parts.length c6)) from HB6.out.setCell hpl _)
  have hsA : (w6.setCell ⟨pb, 5, none⟩ (.slice A6 o.parts.length c6)).heap.size = w6.heap.size := by simp [World.setCell]
  generalize hwA : w6.setCell ⟨pb, 5, none⟩ (.slice A6 o.parts.length c6) = wA at HXA HRA HBA hsA ⊢
  rw [← hsA] at HRA hpl6
  clear hwA hsA HROW6 HX6 HB6 hs6 hs3
  have HRP := Lib.hid (show Row kPart (fun k => k < wA.heap.size) wA A6 o.parts by have := HRA.out.take o.parts.length; rwa [List.take_left'] at this; rfl)
  have HOK := Lib.hid (show ObjOk wA (o.re L2 ls.length m2) A6 (fun k => k < wA.heap.size) from ⟨⟨L2, _, m2, rfl⟩, HRP.out, by have := H64.out; show o.parts.length ≤ _; omega, HP24.out⟩)
  have HLAA := Lib.hid (HL1.out.below HBA.out)
  obtain ⟨-, r0, r1, r2, r3, r4, r5, r6, -⟩ := HXA.out
  have T1 := True.intro
  go_upto_region 12 with (first
    | (go_at_call 31; have T2 := T1; clear T1; refine (of_own o M qa HM HQA.out _ _ _ _ _ _ _ HOK.out HLAA.out.txt).mono ?_; rintro e wB ⟨Aa, ca, rfl, hown, hb⟩; have OA := Lib.hid hown; have HBB := Lib.hid hb; obtain ⟨-, r0, r1, r2, r3, r4, r5, r6, -⟩ := HXA.out.below hb; clear hown hb)
    | (go_at_call 31; have T3 := T2; clear T2; refine (of_own o M qa HM HQA.out _ _ _ _ _ _ _ (HOK.out.below HBB.out) (HLAA.out.txt.below HBB.out)).mono ?_; rintro e wC ⟨Ab, cb, rfl, hown, hb⟩; have OB := Lib.hid hown; have HBC := Lib.hid hb; have HAC := Lib.hid (HBB.out.trans (hb.mono HBB.out.size)); obtain ⟨-, r0, r1, r2, r3, r4, r5, r6, -⟩ := HXA.out.below HAC.out; clear hown hb)
    | (go_at_call 32; have T4 := T3; clear T3; refine (uses_own o U qu eu HU HQU.out HEU HN.out HT.out _ _ _ _ _ _ _ (HOK.out.below HAC.out)).mono ?_; rintro e wD ⟨Au, cu, rfl, hown, hb⟩; have OU := Lib.hid hown; have HBD := Lib.hid hb; have HAD := Lib.hid (HAC.out.trans (hb.mono HAC.out.size)); obtain ⟨-, r0, r1, r2, r3, r4, r5, r6, -⟩ := HXA.out.below HAD.out; clear hown hb)
    | (go_at_call 32; have T5 := T4; clear T4; refine (uses_own o U qu eu HU HQU.out HEU HN.out HT.out _ _ _ _ _ _ _ (HOK.out.below HAD.out)).mono ?_; rintro e wE ⟨Av, cv, rfl, hown, hb⟩; have OV := Lib.hid hown; have HBE := Lib.hid hb; have HAE := Lib.hid (HAD.out.trans (hb.mono HAD.out.size)); obtain ⟨-, r0, r1, r2, r3, r4, r5, r6, -⟩ := HXA.out.below HAE.out; clear hown hb))
  obtain ⟨a6, rfl, -⟩ := HRA.out (by simp)
  obtain ⟨g1, g2⟩ := mark_names (HRA.out.below HAE.out)
  obtain ⟨x0, x1, x2, x3, x4, x5, x6⟩ := (HLAA.out.below HAE.out).obj
  rw [HLAB.out] at x2
  have hq1 : decide ((qa : Int) < 3) = false := by simp; omega
  have hn62 : o.parts.length ≤ 1152921504606846976 := by have := H64.out; omega
  go_upto_region 14 with (go_at_call 33; refine (sameParts_val o _ _ _ _ _ _ _ _ _ _ _ _ wE (HRP.out.below HAE.out) (HLAA.out.below HAE.out).fit.row hn62 HP24.out).mono ?_; rintro e wF ⟨rfl, hb⟩; have HBF := Lib.hid hb; clear hb)
  have hAB := HBB.out.size
  have hBC := HBC.out.size
  have hCD := HBD.out.size
  have hDE := HBE.out.size
  have hEF := HBF.out.size
  have HCF := Lib.hid (HBD.out.trans ((HBE.out.trans (HBF.out.mono hDE)).mono hCD))
  have HBFB := Lib.hid (HBC.out.trans (HCF.out.mono hBC))
  have HDF := Lib.hid (HBE.out.trans (HBF.out.mono hDE))
  have HKS := Lib.hid (show KS wF wA.heap.size wB.heap.size wC.heap.size wD.heap.size wF (.slice Aa qa ca) (.slice Au qu cu) M U from
    ⟨OA.out.below HBFB.out, OU.out.below HDF.out, Turn.refl _ _, fun k hk => (OA.out.block_lt k hk).2, fun k hk => (OU.out.block_lt k hk).2⟩)
  have FB := Lib.hid ((own_rows OB.out).below HCF.out)
  have FV := Lib.hid ((own_rows OV.out).below HBF.out)
  have HAF := Lib.hid (HAE.out.trans (HBF.out.mono HAE.out.size))
  have XF := Lib.hid (HXA.out.below HAF.out)
  have LF := Lib.hid (HLAA.out.below HAF.out)
  have PF := Lib.hid (HRP.out.below HAF.out)
  have hgt : 1 < wA.heap.size := World.block_lt_of_cell? _ _ HLAA.out.txt.t0
  have HB1F := Lib.hid (HBA.out.trans (HAF.out.mono HBA.out.size))
  obtain ⟨ga, curA, rfl, hga1, -⟩ := own_blk OA.out (fun e => by have := HQA.out; rw [e] at this; simp at this; omega)
  clear r0 r1 r2 r3 r4 r5 r6 x0 x1 x2 x3 x4 x5 x6 g1 g2 hq1
  clear HBB HBC HBD HBE HBF HAC HAD HAE OA OB OU OV HCF HBFB HDF
  go_wp2
  go_loopw [13] (fun iv wr => ∃ (k : Nat) (Ma : List ScV), iv = .int .i64 k ∧ k ≤ qa ∧ Hid (KS wF wA.heap.size wB.heap.size wC.heap.size wD.heap.size wr (.slice (some ⟨ga, 0, none⟩) qa ca) (.slice Au qu cu) Ma U) ∧ Hid (∀ i (h : i < Ma.length), i < k → Ma[i].kind = 77)) (fun iv _ => qa - (intOf iv).toNat)
  case atStart => exact ⟨0, M, rfl, Nat.zero_le _, HKS.out, fun i h h2 => absurd h2 (by omega)⟩
  case round =>
    obtain ⟨k, Ma, rfl, hk, hks, h77⟩ := hrel
    obtain ⟨wo, rfl⟩ : ∃ wo, wo = wr := ⟨_, rfl⟩
    have hml := hks.out.oa.row'.1
    have HML := Lib.hid hml
    clear hml
    by_cases hlt : k < qa
    · have hlt1 : (k : Int) < (qa : Int) := by omega
      have hkm : k < Ma.length := by rw [← HML.out]; exact hlt
      obtain ⟨a, ha, l0, -⟩ := sc_at (own_rows hks.out.oa) k hkm
      cases ha
      rw [add_new] at l0
      obtain ⟨g', cur, hg', -, hblk⟩ := own_blk hks.out.oa (fun e => by rw [e] at hkm; simp at hkm)
      cases hg'
      have hfz := frozen_of_row wo ga (k * 2) cur 54 hblk
      clear hblk
      go_wp2
      go_roundw
      case rel => exact ⟨k + 1, Ma.set k ⟨77, Ma[k].arg⟩, by go_num, hlt, hks.out.kind hBC k hkm 77, kinds_set hkm rfl h77.out⟩
      case measure => simp [intOf]; omega
    · have hge : ¬ ((k : Int) < (qa : Int)) := by omega
      have H77 := Lib.hid (show ∀ i (h : i < Ma.length), Ma[i].kind = 77 from fun i hi => h77.out i hi (by have := HML.out; omega))
      have HK1 := Lib.hid hks.out
      clear h77 hks
      go_wp2
      go_loopw [14] (fun iv wr => ∃ (j : Nat) (Ua : List Amt), iv = .int .i64 j ∧ j ≤ qu ∧ Hid (KS wF wA.heap.size wB.heap.size wC.heap.size wD.heap.size wr (.slice (some ⟨ga, 0, none⟩) qa ca) (.slice Au qu cu) Ma Ua) ∧ Hid (∀ i (h : i < Ua.length), i < j → Ua[i].val = -5)) (fun iv _ => qu - (intOf iv).toNat)
      case atStart => exact ⟨0, U, rfl, Nat.zero_le _, HK1.out, fun i h h2 => absurd h2 (by omega)⟩
      case round =>
        obtain ⟨j, Ua, rfl, hj, hks, h5⟩ := hrel
        obtain ⟨wp, rfl⟩ : ∃ wp, wp = wr := ⟨_, rfl⟩
        have hul := hks.out.ou.row'.1
        have HUL := Lib.hid hul
        clear hul
        by_cases hltj : j < qu
        · have hlt2 : (j : Int) < (qu : Int) := by omega
          have hjm : j < Ua.length := by rw [← HUL.out]; exact hltj
          obtain ⟨gu, cur, rfl, -, hblk⟩ := own_blk hks.out.ou (fun e => by rw [e] at hjm; simp at hjm)
          obtain ⟨a, ha, -, l0, l1⟩ := amt_at (own_rows hks.out.ou) j hjm
          cases ha
          rw [add_new] at l0 l1
          have hfz := frozen_of_row wp gu (j * 2 + 1) cur 64 hblk
          clear hblk
          go_wp2
          go_roundw
          case rel => exact ⟨j + 1, Ua.set j ⟨Ua[j].name, -5⟩, by go_num, hltj, hks.out.val hBC j hjm (-5), vals_set hjm rfl h5.out⟩
          case measure => simp [intOf]; omega
        · have hge2 : ¬ ((j : Int) < (qu : Int)) := by omega
          have HM5 := Lib.hid (show ∀ i (h : i < Ua.length), Ua[i].val = -5 from fun i hi => h5.out i hi (by have := HUL.out; omega))
          have HK2 := Lib.hid hks.out
          clear h5 hks HK1
          have hwp : wF.heap.size ≤ wp.heap.size := HK2.out.turn.size
          have h16 : (Ma.length + 1) * 16 ≤ 140737488355328 := by have := HML.out; omega
          have h24 : (Ua.length + 1) * 24 ≤ 140737488355328 := by have := HUL.out; omega
          go_upto_region 23 with (at_builtin; refine wpList_app_keep scElem kSc_plain wA.heap.size rfl (.tmp 100) (.tmp 102) rfl (v := .slice (some ⟨ga, 0, none⟩) qa ca) (xs := Ma) (ys := [⟨78, 0⟩]) rfl (HK2.out.oa.alloc _) rfl rfl (Row.newOnePlain (cs := ScV.cells ⟨78, 0⟩) kSc_plain rfl) (by simp) (by exact h16) (by simp; omega) ?_; intro Ag cg wG happ hkeep; rw [← HML.out] at happ ⊢; have HAG := Lib.hid happ; have HKG := Lib.hid hkeep; clear happ hkeep)
          have TG := Lib.hid (show Turn (Wr wA.heap.size wB.heap.size wC.heap.size wD.heap.size) wF wG from (HK2.out.turn.alloc _).grown HAG.out.grown fun k hk => .inl (.inl ⟨(HK2.out.oa.block_lt k hk).1, HK2.out.ba k hk⟩))
          have UG := Lib.hid (show Own kAmt 64 wC.heap.size (fun _ => False) wG (.slice Au qu cu) Ua from (HK2.out.ou.alloc _).move fun k hk hl => HAG.out.grown.block k hl (fun e => by
            rcases hk with hk | hk
            · have h1 := (HK2.out.ou.block_lt k hk).1
              have h2 := HK2.out.ba k e.symm
              omega
            · exact hk.elim))
          have hwG : wF.heap.size ≤ wG.heap.size := TG.out.size
          have GB := Lib.hid (show ∀ k, (Value.slice Ag (qa + 1) cg).ownBlock = some k → k < wC.heap.size ∨ wD.heap.size ≤ k from fun k hk => by
            rcases HAG.out.at_ with e | e
            · have := HK2.out.ba k (e ▸ hk)
              omega
            · have h3 : (Value.slice Ag (qa + 1) cg).ownBlock = some ((wp.alloc (.cells #[.int .i64 78, .int .i64 0] 54)).heap.size) := e
              rw [h3] at hk
              have := Option.some.inj hk
              simp at this
              omega)
          go_upto_region 24 with (at_builtin; refine wpList_app_keep amtElem kAmt_plain wC.heap.size rfl (.tmp 104) (.tmp 106) rfl (v := .slice Au qu cu) (xs := Ua) (ys := [⟨⟨#[120]⟩, 0⟩]) rfl (UG.out.alloc _) rfl rfl (Row.newOnePlain (cs := Amt.cells ⟨⟨#[120]⟩, 0⟩) kAmt_plain rfl) (by simp) (by exact h24) (by simp; omega) ?_; intro Ah ch wH happ hkeep; rw [← HUL.out] at happ ⊢; have HAH := Lib.hid happ; have HKH := Lib.hid hkeep; clear happ hkeep)
          have hgaB : ga < wB.heap.size := HK2.out.ba ga (by simp [Value.ownBlock])
          have UB := Lib.hid (show ∀ k, (Value.slice Au qu cu).ownBlock = some k → wC.heap.size ≤ k ∧ k < wD.heap.size from fun k hk => ⟨(HK2.out.ou.block_lt k hk).1, HK2.out.bu k hk⟩)
          have TH := Lib.hid (show Turn (Wr wA.heap.size wB.heap.size wC.heap.size wD.heap.size) wF wH from (TG.out.alloc _).grown HAH.out.grown fun k hk => .inl (.inr (UB.out k hk)))
          have RA := Lib.hid (own_lt (((HKG.out.alloc (.cells #[.string ⟨#[120]⟩, .int .i64 0] 64)).move (w' := wH) fun k hk hl => HAH.out.grown.block k hl (fun e => by
            rcases hk with hk | hk
            · have h1 := (UB.out k e.symm).1
              obtain rfl : ga = k := by simpa [Value.ownBlock] using hk
              omega
            · exact hk.elim))))
          have RU := Lib.hid (own_lt HKH.out)
          have RG := Lib.hid (own_lt ((((HAG.out.own).alloc (.cells #[.string ⟨#[120]⟩, .int .i64 0] 64)).move (w' := wH) fun k hk hl => HAH.out.grown.block k hl (fun e => by
            rcases hk with hk | hk
            · have h1 := UB.out k e.symm
              have h2 := GB.out k hk
              omega
            · exact hk.elim))))
          have RH := Lib.hid (own_lt HAH.out.own)
          have hw1A : w1.heap.size ≤ wA.heap.size := HBA.out.size
          have HBH := Lib.hid (HB1F.out.trans (TH.out.below (B := w1.heap.size) HB1F.out.size (fun k hk => by rcases hk with hk | hk <;> omega)))
          have XH := Lib.hid (XF.out.turn TH.out (fun hk => by rcases hk with hk | hk <;> omega))
          have TXH := Lib.hid (LF.out.txt.turn TH.out (fun hk => by rcases hk with hk | hk <;> omega))
          have PH := Lib.hid (PF.out.turn TH.out (fun k hk hs => by rcases hs with hs | hs <;> omega))
          have BH := Lib.hid (FB.out.turn TH.out (fun k hk hs => by rcases hs with hs | hs <;> omega))
          have VH := Lib.hid (FV.out.turn TH.out (fun k hk hs => by rcases hs with hs | hs <;> omega))
          have OKH := Lib.hid (show ObjOk wH (o.re L2 ls.length m2) (some a6) _ from ⟨⟨L2, _, m2, rfl⟩, PH.out, by have := H64.out; show o.parts.length ≤ _; omega, HP24.out⟩)
          clear HK2 HAG HKG HAH HKH TG UG GB UB TH FB FV XF LF PF HB1F
          obtain ⟨-, r0, r1, r2, r3, r4, r5, r6, -⟩ := XH.out
          go_upto_region 26 with (first
            | (go_at_call 32; refine (uses_own o U qu eu HU HQU.out HEU HN.out HT.out _ _ _ _ _ _ _ OKH.out).mono ?_; rintro e wI ⟨Aw, cw, rfl, hown, hb⟩; have RW := Lib.hid (own_lt hown); have HBI := Lib.hid hb; obtain ⟨-, r0, r1, r2, r3, r4, r5, r6, -⟩ := XH.out.below hb; clear hown hb)
            | (go_at_call 31; refine (of_own o M qa HM HQA.out _ _ _ _ _ _ _ (OKH.out.below HBI.out) (TXH.out.below HBI.out)).mono ?_; rintro e wJ ⟨Ax, cx, rfl, hown, hb⟩; have RX := Lib.hid (own_lt hown); have HBJ := Lib.hid hb; clear hown hb))
          clear r0 r1 r2 r3 r4 r5 r6
          have HHJ := Lib.hid (HBI.out.trans (HBJ.out.mono HBI.out.size))
          go_wp2
          go_loopw [20] (fun iv wr => ∃ i : Nat, iv = .int .i64 i ∧ i ≤ qa ∧ Hid (Below wJ.heap.size wJ wr)) (fun iv _ => qa - (intOf iv).toNat)
          case atStart => exact ⟨0, rfl, Nat.zero_le _, Below.refl _ _⟩
          case round =>
            obtain ⟨i, rfl, hi, hbw⟩ := hrel
            obtain ⟨wK, rfl⟩ : ∃ wK, wK = wr := ⟨_, rfl⟩
            have HHK := Lib.hid (HHJ.out.trans (hbw.out.mono HHJ.out.size))
            by_cases hlti : i < qa
            · have hlt1 : (i : Int) < (qa : Int) := by omega
              have him : i < Ma.length := by rw [← HML.out]; exact hlti
              obtain ⟨a, ha, l0, -⟩ := sc_at (RA.out.below HHK.out) i him
              cases ha
              rw [add_new, H77.out i him] at l0
              go_wp2
              go_roundw
              case rel => exact ⟨i + 1, by go_num, hlti, hbw.out⟩
              case measure => simp [intOf]; omega
            · have hgei : ¬ ((i : Int) < (qa : Int)) := by omega
              have HBK := Lib.hid hbw.out
              clear hbw
              go_wp2
              go_loopw [21] (fun iv wr => ∃ i : Nat, iv = .int .i64 i ∧ i ≤ qu ∧ Hid (Below wK.heap.size wK wr)) (fun iv _ => qu - (intOf iv).toNat)
              case atStart => exact ⟨0, rfl, Nat.zero_le _, Below.refl _ _⟩
              case round =>
                obtain ⟨i2, rfl, hi2, hbw⟩ := hrel
                obtain ⟨wL, rfl⟩ : ∃ wL, wL = wr := ⟨_, rfl⟩
                have HHL := Lib.hid (HHK.out.trans (hbw.out.mono HHK.out.size))
                by_cases hlti2 : i2 < qu
                · have hlt2 : (i2 : Int) < (qu : Int) := by omega
                  have him : i2 < Ua.length := by rw [← HUL.out]; exact hlti2
                  obtain ⟨a, rfl, -, l0, l1⟩ := amt_at (RU.out.below HHL.out) i2 him
                  rw [HM5.out i2 him] at l1
                  go_wp2
                  go_roundw
                  case rel => exact ⟨i2 + 1, by go_num, hlti2, hbw.out⟩
                  case measure => simp [intOf]; omega
                · have hgei2 : ¬ ((i2 : Int) < (qu : Int)) := by omega
                  have HJL := Lib.hid (HBK.out.trans (hbw.out.mono HBK.out.size))
                  have hga := (Ma ++ [(⟨78, 0⟩ : ScV)]).length
                  obtain ⟨aG, hAG, g0, -⟩ := sc_at (RG.out.below HHL.out) qa (by rw [List.length_append, ← HML.out]; simp)
                  obtain ⟨aH, hAH, -, h0, -⟩ := amt_at (RH.out.below HHL.out) qu (by rw [List.length_append, ← HUL.out]; simp)
                  have eG : (Ma ++ [(⟨78, 0⟩ : ScV)])[qa]'(by rw [List.length_append, ← HML.out]; simp) = ⟨78, 0⟩ := by
                    rw [List.getElem_append_right (by rw [← HML.out]; exact Nat.le_refl _)]; simp
                  have eH : (Ua ++ [(⟨⟨#[120]⟩, 0⟩ : Amt)])[qu]'(by rw [List.length_append, ← HUL.out]; simp) = ⟨⟨#[120]⟩, 0⟩ := by
                    rw [List.getElem_append_right (by rw [← HUL.out]; exact Nat.le_refl _)]; simp
                  rw [eG] at g0
                  rw [eH] at h0
                  subst hAG
                  subst hAH
                  have G0 := Lib.hid g0
                  have H0 := Lib.hid h0
                  have HEND := Lib.hid (HBH.out.trans (HHL.out.mono HBH.out.size))
                  clear eG eH g0 h0 hga hbw
                  go_wp2_with (first
                    | (go_at_call 34; refine (same_val _ _ qa _ _ M HQA.out (by omega) _ ((BH.out.mono fun _ _ => trivial).below HHL.out) (RX.out.below HJL.out)).mono ?_; rintro e wP ⟨rfl, hb⟩; have HBP := Lib.hid hb; have k0 := (hb.cell (World.block_lt_of_cell? _ _ G0.out)).trans G0.out; have j0 := (hb.cell (World.block_lt_of_cell? _ _ H0.out)).trans H0.out; clear hb)
                    | (go_at_call 35; refine (sameAmts_val _ _ qu _ _ _ _ U _ (VH.out.below (HHL.out.trans (HBP.out.mono HHL.out.size))) (RW.out.below (HBJ.out.trans ((HJL.out.trans (HBP.out.mono HJL.out.size)).mono HBJ.out.size))) HQU.out (by omega)).mono ?_; rintro e wQ ⟨rfl, hb⟩; have HBQ := Lib.hid (HBP.out.trans (hb.mono HBP.out.size)); have q0 := (hb.cell (World.block_lt_of_cell? _ _ k0)).trans k0; have p0 := (hb.cell (World.block_lt_of_cell? _ _ j0)).trans j0; clear hb))
                  go_ret
                  exact ⟨rfl, HB0.out.trans ((HB1.out.trans ((HEND.out.trans (HBQ.out.mono HEND.out.size)).mono HB1.out.size)).mono HB0.out.size)⟩
end Go.Proofs.YtdchffghgajbfaaDoor
