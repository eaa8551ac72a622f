/- The law ScopeParts: the walk. -/
import Derived.Test.YtdchffghgajbfaaDoorX3
import Derived.Test.YtdchffghgajbfaaDoorQ
import Derived.Deep.RegionWith
namespace Go.Proofs.YtdchffghgajbfaaDoor
open Go.RowKit

/-- the box of the law's object; what holds while the law goes on -/
structure LawAt (W : World) (b : Nat) (o : ObjV) (A : Option Addr) (c : Nat) (ls : List LabV) : Prop where
  obj : ObjAt W b o A c
  fit : ObjFit W o A ls
  txt : TextsAt W
theorem LawAt.below {W W' : World} {b : Nat} {o : ObjV} {A : Option Addr} {c : Nat} {ls : List LabV} (h : LawAt W b o A c ls) (hb : Below W.heap.size W W') : LawAt W' b o A c ls := ⟨h.obj.below hb, h.fit.below hb, h.txt.below hb⟩
theorem take_filter_step {p : ScV → Bool} {l : List ScV} {k : Nat} (hk : k < l.length) : (l.take (k + 1)).filter p = (l.take k).filter p ++ (if p l[k] then [l[k]] else []) := by
  rw [List.take_succ_eq_append_getElem hk, List.filter_append]
  congr 1
  simp only [List.filter_cons, List.filter_nil]
/-- where the scopes that the object lies in stand -/
structure ThreeAt (w : World) (a : Addr) (kn ke : Int) : Prop where
  c0 : w.cell? a = some (.int .i64 0)
  c1 : w.cell? ⟨a.block, a.off + 1, none⟩ = some (.int .i64 0)
  c2 : w.cell? ⟨a.block, a.off + 2, none⟩ = some (.int .i64 kn)
  c3 : w.cell? ⟨a.block, a.off + 2 + 1, none⟩ = some (.int .i64 0)
  c4 : w.cell? ⟨a.block, a.off + 4, none⟩ = some (.int .i64 ke)
  c5 : w.cell? ⟨a.block, a.off + 4 + 1, none⟩ = some (.int .i64 0)
theorem add_two (a : Addr) (i : Nat) (h : 0 < i) : a.add (i * 2) = ⟨a.block, a.off + i * 2, none⟩ := by unfold Addr.add; rw [if_neg (by omega)]
theorem three_at {P : Nat → Prop} {w : World} {A : Option Addr} {kn ke : Int} {tl : List ScV} (h : Row kSc P w A ([⟨0, 0⟩, ⟨kn, 0⟩, ⟨ke, 0⟩] ++ tl)) : ∃ a, A = some a ∧ ThreeAt w a kn ke := by
  obtain ⟨a, hA, l0, l1⟩ := sc_at h 0 (by simp)
  obtain ⟨a1, hA1, m0, m1⟩ := sc_at h 1 (by simp)
  obtain ⟨a2, hA2, n0, n1⟩ := sc_at h 2 (by simp)
  obtain rfl : a = a1 := Option.some.inj (hA.symm.trans hA1)
  obtain rfl : a = a2 := Option.some.inj (hA.symm.trans hA2)
  rw [show a.add (0 * 2) = a by simp [Addr.add]] at l0 l1
  rw [add_two a 1 (by omega)] at m0 m1
  rw [add_two a 2 (by omega)] at n0 n1
  exact ⟨a, hA, l0, l1, m0, m1, n0, n1⟩
theorem ThreeAt.below {w w' : World} {a : Addr} {kn ke : Int} (h : ThreeAt w a kn ke) (hb : Below w.heap.size w w') : ThreeAt w' a kn ke :=
  ⟨(hb.cell (World.block_lt_of_cell? _ _ h.c0)).trans h.c0, (hb.cell (World.block_lt_of_cell? _ _ h.c1)).trans h.c1, (hb.cell (World.block_lt_of_cell? _ _ h.c2)).trans h.c2, (hb.cell (World.block_lt_of_cell? _ _ h.c3)).trans h.c3, (hb.cell (World.block_lt_of_cell? _ _ h.c4)).trans h.c4, (hb.cell (World.block_lt_of_cell? _ _ h.c5)).trans h.c5⟩
theorem four_at {P : Nat → Prop} {w : World} {a : Addr} {kn ke pr : Int} (h : Row kSc P w (some a) ([⟨0, 0⟩, ⟨kn, 0⟩, ⟨ke, 0⟩] ++ [⟨5, pr⟩])) : w.cell? ⟨a.block, a.off + 6, none⟩ = some (.int .i64 5) ∧ w.cell? ⟨a.block, a.off + 6 + 1, none⟩ = some (.int .i64 pr) := by
  obtain ⟨a1, hA1, m0, m1⟩ := sc_at h 3 (by simp)
  obtain rfl : a = a1 := Option.some.inj hA1
  rw [add_two a 3 (by omega)] at m0 m1
  exact ⟨m0, m1⟩
set_option maxRecDepth 100000 in
set_option maxHeartbeats 1000000 in
theorem scopeParts_walk (o : ObjV) (A : Option Addr) (c : Nat) (ls : List LabV) (w : World) (ht : TextsAt w) (h : ObjFit w o A ls) : Calls Tryd.prog 10 #[o.val A c] w fun e w' => e = .returned (.bool true) ∧ Below w.heap.size w w' := by
  obtain ⟨B0, m0, hlab, -⟩ := h.lab
  have hb0 : Below w.heap.size w (w.alloc (.cells (o.cells A c) 58)) := (Below.refl _ _).alloc (Nat.le_refl _) _
  have hla : LawAt (w.alloc (.cells (o.cells A c) 58)) w.heap.size o A c ls := ⟨objAt_new w o A c, h.below hb0, ht.below hb0⟩
  unfold ObjV.val
  obtain ⟨w0, hw0⟩ : ∃ w0, w.alloc (.cells (o.cells A c) 58) = w0 := ⟨_, rfl⟩
  rw [hw0] at hb0 hla
  unfold ObjV.cells at hw0
  rw [hlab] at hw0 ⊢
  have HB0 := Lib.hid hb0
  have HLA := Lib.hid hla
  have HLAB := Lib.hid hlab
  clear hb0 hla hlab ht h
  go_enter Tryd.func10, Tryd.ntmps10
  go_upto_region 3 with (first
    | (go_at_call 26; refine (fixed_any _).mono ?_; rintro e w1 ⟨rfl, hb1⟩; have HB1 := Lib.hid hb1; clear hb1)
    | (go_at_call 45; refine (scopes_any _).mono ?_; rintro e w2 ⟨A2, c2, rfl, hown2, hb2⟩; have HB2 := Lib.hid (HB1.out.trans (hb2.mono HB1.out.size)); have HO2 := Lib.hid hown2; clear hb2 hown2))
  clear hw0
  have hl15 : (allS.length : Nat) = 15 := rfl
  go_wp2
  go_loopw [5, 6] (fun lv iv wr => ∃ (k n : Nat) (B : Option Addr) (M : List ScV), iv = .int .i64 k ∧ lv = .slice B M.length n ∧ k ≤ 15 ∧ M.length ≤ k ∧ Hid (Own kSc 54 w2.heap.size (fun _ => True) wr lv M) ∧ Hid (Below w2.heap.size w2 wr) ∧ Hid (M = (allS.take k).filter (inS o.prio o.dl o.parts))) (fun _ iv _ => 15 - (intOf iv).toNat)
  case atStart => exact ⟨0, 0, none, [], rfl, rfl, Nat.zero_le _, Nat.le_refl _, Own.nil _ _ _ _ _, Below.refl _ _, by simp [Hid]⟩
  case round =>
    obtain ⟨k, n, B, M, rfl, rfl, hk, hM, hown, hbr, HM⟩ := hrel
    obtain ⟨wo, rfl⟩ : ∃ wo, wo = wr := ⟨_, rfl⟩
    have hsz := hbr.out.size
    have HW := Lib.hid (HB2.out.trans (hbr.out.mono HB2.out.size))
    by_cases hlt : k < 15
    · have hltx : k < allS.length := hlt
      have hlt1 : (k : Int) < 15 := by omega
      obtain ⟨a, rfl, l0, l1⟩ := sc_at (HO2.out.row'.2.1.below hbr.out) k hltx
      have HSTEP := Lib.hid (take_filter_step (p := inS o.prio o.dl o.parts) hltx)
      have hsv := allS_valid _ (List.getElem_mem hltx)
      have HPT := Lib.hid (parse_text _ (List.getElem_mem hltx))
      obtain ⟨s, hs⟩ : ∃ s, allS[k] = s := ⟨_, rfl⟩
      rw [hs] at l0 l1 HSTEP hsv HPT
      have HPR := Lib.hid (show printS s = (textS s, 0) by unfold printS; rw [hsv]; rfl)
      obtain ⟨T, hT⟩ : ∃ T, textS s = T := ⟨_, rfl⟩
      rw [hT] at HPR HPT
      clear hs hsv hT
      have hrun := fun W => run_neqSc s s true (by rw [eqSc_iff]; simp) W
      go_upto_region 11 with (first
        | (go_at_call 43; refine (print_val s T 0 HPR _ (HLA.out.txt.below HW.out)).mono ?_; rintro e w3 ⟨rfl, hb3⟩; have HB3 := Lib.hid hb3; clear hb3)
        | (go_at_call 41; refine (parse_val T s 0 HPT _ ((HLA.out.txt.below HW.out).below HB3.out)).mono ?_; rintro e w4 ⟨rfl, hb4⟩; have HB4 := Lib.hid (HB3.out.trans (hb4.mono HB3.out.size)); clear hb4))
      have HB5 := Lib.hid (HB4.out.alloc HB4.out.size (.cells #[.int .i64 s.kind, .int .i64 s.arg] 54))
      have L0 := Lib.hid l0
      have L1 := Lib.hid l1
      have q0 := (HB5.out.cell (World.block_lt_of_cell? _ _ l0)).trans l0
      have q1 := (HB5.out.cell (World.block_lt_of_cell? _ _ l1)).trans l1
      obtain ⟨n0, n1⟩ := scAt_new w4 s.kind s.arg
      clear l0 l1
      go_quiet (fail)
      go_upto_region 13 with fail
      clear q0 q1 n0 n1
      have HB6 := Lib.hid (below_drewN HB5.out ‹Nat›)
      generalize hwp : ((w4.alloc (.cells #[.int .i64 s.kind, .int .i64 s.arg] 54)).drewN _) = wp at HB6 ⊢
      clear hwp
      obtain ⟨b, hb⟩ : ∃ b, inS o.prio o.dl o.parts s = b := ⟨_, rfl⟩
      have HIN := Lib.hid hb
      rw [hb] at HSTEP
      clear hb
      have HLA6 := Lib.hid (HLA.out.below (HW.out.trans (HB6.out.mono HW.out.size)))
      go_cut [60] (fun v wx => v = .bool b ∧ Below wp.heap.size wp wx)
      case first =>
        obtain ⟨⟨x0, x1, x2, x3, x4, x5, x6⟩, -, -⟩ := HLA6.out
        rw [HLAB.out] at x2
        have q0 := (HB6.out.cell (World.block_lt_of_cell? _ _ L0.out)).trans L0.out
        have q1 := (HB6.out.cell (World.block_lt_of_cell? _ _ L1.out)).trans L1.out
        go_region_with (first
          | (go_at_call 30; refine (own_val o A c ls B0 m0 HLAB.out _ ?_).mono ?_; exact HLA6.out.fit.below (by repeat (first | exact Below.refl _ _ | refine Below.drew ?_)); rintro e w5 ⟨L5, m5, B5, c5, rfl, hfit5, hb5⟩; have HF5 := Lib.hid hfit5; have HB7 := Lib.hid (show Below wp.heap.size wp w5 from Below.trans (by repeat (first | exact Below.refl _ _ | refine Below.drew ?_)) hb5); have r0 := (HB7.out.cell (World.block_lt_of_cell? _ _ q0)).trans q0; have r1 := (HB7.out.cell (World.block_lt_of_cell? _ _ q1)).trans q1; clear hfit5 hb5)
          | (go_at_call 29; refine (in_val s b o HIN _ _ _ _ _ (fun _ => True) _ ?_ ?_).mono ?_; exact HF5.out.ok.below (by repeat (first | exact Below.refl _ _ | refine Below.drew ?_)); exact HLA6.out.txt.below (by repeat (first | exact HB7.out | refine Below.drew ?_)); rintro e w6 ⟨rfl, hb6⟩; have HB8 := Lib.hid (show Below wp.heap.size wp w6 from HB7.out.trans (Below.mono (Below.trans (by repeat (first | exact Below.refl _ _ | refine Below.drew ?_)) hb6) HB7.out.size)); clear hb6))
        all_goals (go_wp2_with fail; go_meet; exact ⟨rfl, HB8.out⟩)
      case rest =>
        obtain ⟨rfl, hb8⟩ := hcut
        rename World => wc
        have HB8 := Lib.hid (HB6.out.trans (hb8.mono HB6.out.size))
        have hszc := HB8.out.size
        clear hb8
        cases b
        · go_wp2
          go_roundw
          case rel => exact ⟨k + 1, n, B, M, by go_num, rfl, hlt, by omega, hown.out.below HB8.out, hbr.out.trans (HB8.out.mono hsz), by unfold Hid; rw [HSTEP.out, ← HM.out]; simp⟩
          case measure => simp [intOf]; omega
        · have r0 := (HB8.out.cell (World.block_lt_of_cell? _ _ L0.out)).trans L0.out
          have r1 := (HB8.out.cell (World.block_lt_of_cell? _ _ L1.out)).trans L1.out
          have h16 : (M.length + 1) * 16 ≤ 140737488355328 := by omega
          go_wp2_with (at_builtin; refine wpList_app_plain scElem kSc_plain w2.heap.size rfl (.tmp 61) (.tmp 66) rfl (v := .slice B M.length n) (xs := M) (ys := [s]) rfl ((hown.out.below HB8.out).alloc _) rfl rfl (Row.newOnePlain (cs := ScV.cells s) kSc_plain rfl) (by exact h16) (by simp; omega) ?_; intro A7 c7 w7 happ; have HA7 := Lib.hid happ; clear happ)
          go_roundw
          case rel =>
            have hl1 : (M ++ [s]).length = M.length + 1 := by rw [List.length_append]; rfl
            refine ⟨k + 1, c7, A7, M ++ [s], by go_num, by rw [hl1], hlt, by rw [hl1]; omega, HA7.out.own, HA7.out.below ((hbr.out.trans (HB8.out.mono hsz)).alloc (Nat.le_trans hsz hszc) _) (by simp; omega) (fun q hq => (hown.out.block_lt q hq).1), ?_⟩
            unfold Hid; rw [HSTEP.out, ← HM.out]; simp
          case measure => simp [intOf]; omega
    · have hge : ¬ ((k : Int) < 15) := by omega
      have HMM := Lib.hid (show M = allS.filter (inS o.prio o.dl o.parts) by rw [HM.out, List.take_of_length_le (by rw [hl15]; omega)])
      have HOF := Lib.hid (show ofS o 6 = M by rw [HMM.out, of_all])
      have HIA := Lib.hid (HMM.out.trans (in_all o.prio o.dl o.parts))
      obtain ⟨kn, hkn⟩ : ∃ kn : Int, (if namedP o.parts then 2 else 1) = kn := ⟨_, rfl⟩
      obtain ⟨ke, hke⟩ : ∃ ke : Int, (if o.dl > 0 then 3 else 4) = ke := ⟨_, rfl⟩
      have hkn1 : 1 ≤ kn ∧ kn ≤ 2 := by rw [← hkn]; split <;> omega
      have hke1 : 3 ≤ ke ∧ ke ≤ 4 := by rw [← hke]; split <;> omega
      rw [hkn, hke] at HIA
      obtain ⟨hkn1, hkn2⟩ := hkn1
      obtain ⟨hke1, hke2⟩ := hke1
      clear hkn hke HM HMM
      have HROW := Lib.hid (show Row kSc (fun _ => True) wo B M from hown.out.row'.2.1)
      have HLA9 := Lib.hid (HLA.out.below HW.out)
      clear hown
      have hrun0 : ∀ W, (binOp .neq 54 (.agg #[.int .i64 0, .int .i64 0]) (.agg #[.int .i64 0, .int .i64 0])).run Tryd.prog W = .ok (.bool false) W := fun W => by kernel_rfl
      have e1 : decide (kn < 1) = false := by simp; omega
      have e2 : decide (kn > 2) = false := by simp; omega
      have e3 : decide (ke < 3) = false := by simp; omega
      have e4 : decide (ke > 4) = false := by simp; omega
      have hr3 := HROW.out
      rw [HIA.out] at hr3
      obtain ⟨a', rfl, h3⟩ := three_at hr3
      have H3 := Lib.hid h3
      have HR3 := Lib.hid hr3
      clear h3 hr3
      by_cases hp : 0 ≤ o.prio ∧ o.prio ≤ 9
      · rw [if_pos hp] at HIA HR3
        have H4 := Lib.hid (four_at HR3.out)
        have hrun4 := fun W => run_eqlSc ⟨5, o.prio⟩ ⟨5, o.prio⟩ true (by rw [eqSc_iff]; simp) W
        have hlen : M.length = 4 := by rw [HIA.out]; rfl
        rw [hlen]
        have HLEN := Lib.hid hlen
        obtain ⟨hp1, hp2⟩ := hp
        have g1 : decide (o.prio ≥ 0) = true := by simpa using hp1
        have g2 : decide (o.prio ≤ 9) = true := by simpa using hp2
        clear hlen hM
        obtain ⟨⟨x0, x1, x2, x3, x4, x5, x6⟩, -, -⟩ := HLA9.out
        rw [HLAB.out] at x2
        go_wp2_with (first
          | (go_at_call 30; refine (own_val o A c ls B0 m0 HLAB.out _ HLA9.out.fit).mono ?_; rintro e w5 ⟨L5, m5, B5, c5, rfl, hfit5, hb5⟩; have HF5 := Lib.hid hfit5; have HB5 := Lib.hid hb5; clear hfit5 hb5)
          | (go_at_call 31; refine (of_val o M 4 HOF HLEN.out _ _ _ _ _ (fun _ => True) _ HF5.out.ok (HLA9.out.txt.below HB5.out)).mono ?_; rintro e w6 ⟨A6, c6, rfl, hrow6, hb6⟩; have HR6 := Lib.hid hrow6; have HB6 := Lib.hid (HB5.out.trans (hb6.mono HB5.out.size)); clear hrow6 hb6)
          | (go_at_call 34; refine (same_val _ _ 4 _ _ M HLEN.out (by omega) _ HR6.out (HROW.out.below HB6.out)).mono ?_; rintro e w7 ⟨rfl, hb7⟩; have HB7 := Lib.hid (HB6.out.trans (hb7.mono HB6.out.size)); clear hb7; obtain ⟨z0, z1, z2, z3, z4, z5⟩ := H3.out.below HB7.out; have z6 := (HB7.out.cell (World.block_lt_of_cell? _ _ H4.out.1)).trans H4.out.1; have z7 := (HB7.out.cell (World.block_lt_of_cell? _ _ H4.out.2)).trans H4.out.2; have y3 := (HB7.out.cell (World.block_lt_of_cell? _ _ x3)).trans x3))
        go_quiet (fail)
        go_wp2
        go_ret
        exact ⟨rfl, HB0.out.trans ((HW.out.trans ((below_drewN HB7.out _).mono HW.out.size)).mono HB0.out.size)⟩
      · rw [if_neg hp] at HIA
        have hlen : M.length = 3 := by rw [HIA.out]; rfl
        rw [hlen]
        have HLEN := Lib.hid hlen
        clear hlen hM
        obtain ⟨⟨x0, x1, x2, x3, x4, x5, x6⟩, -, -⟩ := HLA9.out
        rw [HLAB.out] at x2
        by_cases hp1 : 0 ≤ o.prio
        · have g1 : decide (o.prio ≥ 0) = true := by simpa using hp1
          have g2 : decide (o.prio ≤ 9) = false := by simp; omega
          clear hp hp1
          go_wp2_with (first
            | (go_at_call 30; refine (own_val o A c ls B0 m0 HLAB.out _ HLA9.out.fit).mono ?_; rintro e w5 ⟨L5, m5, B5, c5, rfl, hfit5, hb5⟩; have HF5 := Lib.hid hfit5; have HB5 := Lib.hid hb5; clear hfit5 hb5)
            | (go_at_call 31; refine (of_val o M 3 HOF HLEN.out _ _ _ _ _ (fun _ => True) _ HF5.out.ok (HLA9.out.txt.below HB5.out)).mono ?_; rintro e w6 ⟨A6, c6, rfl, hrow6, hb6⟩; have HR6 := Lib.hid hrow6; have HB6 := Lib.hid (HB5.out.trans (hb6.mono HB5.out.size)); clear hrow6 hb6)
            | (go_at_call 34; refine (same_val _ _ 3 _ _ M HLEN.out (by omega) _ HR6.out (HROW.out.below HB6.out)).mono ?_; rintro e w7 ⟨rfl, hb7⟩; have HB7 := Lib.hid (HB6.out.trans (hb7.mono HB6.out.size)); clear hb7; obtain ⟨z0, z1, z2, z3, z4, z5⟩ := H3.out.below HB7.out))
          go_quiet (fail)
          go_wp2
          go_ret
          exact ⟨rfl, HB0.out.trans ((HW.out.trans ((below_drewN HB7.out _).mono HW.out.size)).mono HB0.out.size)⟩
        · have g1 : decide (o.prio ≥ 0) = false := by simp; omega
          clear hp hp1
          go_wp2_with (first
            | (go_at_call 30; refine (own_val o A c ls B0 m0 HLAB.out _ HLA9.out.fit).mono ?_; rintro e w5 ⟨L5, m5, B5, c5, rfl, hfit5, hb5⟩; have HF5 := Lib.hid hfit5; have HB5 := Lib.hid hb5; clear hfit5 hb5)
            | (go_at_call 31; refine (of_val o M 3 HOF HLEN.out _ _ _ _ _ (fun _ => True) _ HF5.out.ok (HLA9.out.txt.below HB5.out)).mono ?_; rintro e w6 ⟨A6, c6, rfl, hrow6, hb6⟩; have HR6 := Lib.hid hrow6; have HB6 := Lib.hid (HB5.out.trans (hb6.mono HB5.out.size)); clear hrow6 hb6)
            | (go_at_call 34; refine (same_val _ _ 3 _ _ M HLEN.out (by omega) _ HR6.out (HROW.out.below HB6.out)).mono ?_; rintro e w7 ⟨rfl, hb7⟩; have HB7 := Lib.hid (HB6.out.trans (hb7.mono HB6.out.size)); clear hb7; obtain ⟨z0, z1, z2, z3, z4, z5⟩ := H3.out.below HB7.out))
          go_quiet (fail)
          go_wp2
          go_ret
          exact ⟨rfl, HB0.out.trans ((HW.out.trans ((below_drewN HB7.out _).mono HW.out.size)).mono HB0.out.size)⟩
end Go.Proofs.YtdchffghgajbfaaDoor
