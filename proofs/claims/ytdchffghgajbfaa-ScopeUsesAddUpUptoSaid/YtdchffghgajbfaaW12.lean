/- The law ScopeUsesAddUp: the walk. -/
import Derived.Test.YtdchffghgajbfaaZ4
import Derived.Test.YtdchffghgajbfaaQ
namespace Go.Proofs.Ytdchffghgajbfaa
open Go.RowKit

set_option maxRecDepth 100000 in
set_option maxHeartbeats 8000000 in
theorem sua_walk (a b : ObjV) (A B : Option Addr) (c d : Nat) (la lb : List LabV) (w : World) (ha : ObjFit w a A la) (hb : ObjFit w b B lb) (hNa : NamesOk a.parts) (hNb : NamesOk b.parts) (hTa : (allB a.parts).length ≤ 1048576) (hTb : (allB b.parts).length ≤ 1048576) (hpa : a.parts.length ≤ 1048576) (hpb : b.parts.length ≤ 1048576) :
    Calls Try.prog 3 #[a.val A c, b.val B d] w fun e w' => e = .returned (.bool true) ∧ Below w.heap.size w w' := by
  obtain ⟨A0, ma, hlaba, -⟩ := ha.lab
  obtain ⟨B0, mb, hlabb, -⟩ := hb.lab
  have HPO := Lib.hid (And.intro ha.ok.small hb.ok.small)
  obtain ⟨hla, hb0⟩ := twoObj w a A c la b B d lb ha hb
  unfold ObjV.val
  obtain ⟨w0, hw0⟩ : ∃ w0, (w.alloc (.cells (a.cells A c) 25)).alloc (.cells (b.cells B d) 25) = w0 := ⟨_, rfl⟩
  rw [hw0] at hb0 hla
  unfold ObjV.cells at hw0
  rw [hlaba, hlabb] at hw0 ⊢
  have HB0 := Lib.hid hb0
  have HLA := Lib.hid hla
  have HLABA := Lib.hid hlaba
  have HLABB := Lib.hid hlabb
  obtain ⟨pab, hpab⟩ : ∃ p, a.parts ++ b.parts = p := ⟨_, rfl⟩
  obtain ⟨nab, hnab⟩ : ∃ n, pab.length = n := ⟨_, rfl⟩
  obtain ⟨pba, hpba⟩ : ∃ p, b.parts ++ a.parts = p := ⟨_, rfl⟩
  obtain ⟨nba, hnba⟩ : ∃ n, pba.length = n := ⟨_, rfl⟩
  obtain ⟨pc, hpc⟩ : ∃ p, pab ++ [noneP] = p := ⟨_, rfl⟩
  obtain ⟨nc, hnc⟩ : ∃ n, pc.length = n := ⟨_, rfl⟩
  have hnab2 : nab ≤ 2097152 := by rw [← hnab, ← hpab, List.length_append]; omega
  have hnba2 : nba ≤ 2097152 := by rw [← hnba, ← hpba, List.length_append]; omega
  have hnc2 : nc ≤ 2097153 := by rw [← hnc, ← hpc, List.length_append, hnab]; simp; omega
  have hAc : allA pc = allA a.parts ++ allA b.parts := by rw [← hpc, ← hpab, allA_append, allA_append]; simp [allA, noneP]
  have hAd : allA pba = allA b.parts ++ allA a.parts := by rw [← hpba, allA_append]
  have hsw : usesV pc = usesV pba := uses_swap hAc hAd
  have HNC := Lib.hid (show NamesOk pc by rw [← hpc, ← hpab]; exact namesOk_append (namesOk_append hNa hNb) namesOk_none)
  have HND := Lib.hid (show NamesOk pba by rw [← hpba]; exact namesOk_append hNb hNa)
  have HPC := Lib.hid (show PartsOk pc by rw [← hpc, ← hpab]; exact partsOk_append (partsOk_append HPO.out.1 HPO.out.2) partsOk_none)
  have HPD := Lib.hid (show PartsOk pba by rw [← hpba]; exact partsOk_append HPO.out.2 HPO.out.1)
  have hTc : (allB pc).length ≤ 2097152 := by rw [← hpc, ← hpab, allB_append, allB_append, List.length_append, List.length_append]; simp only [show allB [noneP] = [] from rfl, List.length_nil]; omega
  have hTd : (allB pba).length ≤ 2097152 := by rw [← hpba, allB_append, List.length_append]; omega
  have HERR := Lib.hid (fun h => uses_errs hAc h)
  have HOVER := Lib.hid (fun h1 h2 h3 => uses_over7 hAc h1 h2 h3)
  have HAC := Lib.hid hAc
  have hlUa := usesV_len a.parts
  have hlUb := usesV_len b.parts
  have hlUc := usesV_len pc
  obtain ⟨Ua, hUa⟩ : ∃ U, (usesV a.parts).1.map amtOf = U := ⟨_, rfl⟩
  obtain ⟨Ub, hUb⟩ : ∃ U, (usesV b.parts).1.map amtOf = U := ⟨_, rfl⟩
  obtain ⟨Uc, hUc⟩ : ∃ U, (usesV pc).1.map amtOf = U := ⟨_, rfl⟩
  obtain ⟨ea, hea⟩ : ∃ e, (usesV a.parts).2 = e := ⟨_, rfl⟩
  obtain ⟨eb, heb⟩ : ∃ e, (usesV b.parts).2 = e := ⟨_, rfl⟩
  obtain ⟨ec, hec⟩ : ∃ e, (usesV pc).2 = e := ⟨_, rfl⟩
  obtain ⟨qa, hqa⟩ : ∃ q, Ua.length = q := ⟨_, rfl⟩
  obtain ⟨qb, hqb⟩ : ∃ q, Ub.length = q := ⟨_, rfl⟩
  obtain ⟨qc, hqc⟩ : ∃ q, Uc.length = q := ⟨_, rfl⟩
  have hqa2 : qa ≤ 1048577 := by rw [← hqa, ← hUa, List.length_map]; omega
  have hqb2 : qb ≤ 1048577 := by rw [← hqb, ← hUb, List.length_map]; omega
  have hqc2 : qc ≤ 2097153 := by rw [← hqc, ← hUc, List.length_map]; omega
  have HUa := Lib.hid hUa
  have HUb := Lib.hid hUb
  have HUc := Lib.hid hUc
  have HUd := Lib.hid (show (usesV pba).1.map amtOf = Uc by rw [← hsw]; exact hUc)
  have HEa := Lib.hid hea
  have HEb := Lib.hid heb
  have HEc := Lib.hid hec
  have HEd := Lib.hid (show (usesV pba).2 = ec by rw [← hsw]; exact hec)
  have HQa := Lib.hid hqa
  have HQb := Lib.hid hqb
  have HQc := Lib.hid hqc
  have HPAB := Lib.hid hpab
  have HPBA := Lib.hid hpba
  have HPCE := Lib.hid hpc
  have HNAB := Lib.hid hnab
  have HNBA := Lib.hid hnba
  have HNCE := Lib.hid hnc
  have HNa := Lib.hid hNa
  have HNb := Lib.hid hNb
  clear hb0 hla hlaba hlabb ha hb hNa hNb hpab hnab hpba hnba hpc hnc hAc hAd hsw hUa hUb hUc hea heb hec hqa hqb hqc hlUa hlUb hlUc
  go_enter Try.func3, Try.ntmps3
  go_upto_region 4 with (go_at_call 4; refine (fixed_any _).mono ?_; rintro e w1 ⟨rfl, hb1⟩; have HB1 := Lib.hid hb1; clear hb1)
  clear hw0
  have HL1 := Lib.hid (HLA.out.below HB1.out)
  obtain ⟨x0, x1, x2, x3, x4, x5, x6⟩ := HL1.out.oa
  rw [HLABA.out] at x2
  go_upto_region 5 with (first
    | (go_at_call 6; refine (own_pt a A c la A0 ma HLABA.out _ HL1.out.fa).mono ?_; rintro e w2 ⟨L2, m2, B2, c2, R2, rfl, hp2, hb2⟩; have HP2 := Lib.hid hp2; have HB2 := Lib.hid hb2; clear hp2 hb2)
    | (go_at_call 5; refine (uses_gen a.path a.name a.prio a.dl a.ver a.parts a.parts.length rfl Ua qa ea HUa HQa.out HEa HNa.out (by omega) _ _ _ _ _ _ _ HP2.out.row.2.1 (by omega) HPO.out.1).mono ?_; rintro e w3 ⟨A3, c3, rfl, hr3, hb3⟩; have HR3 := Lib.hid hr3; have HB3 := Lib.hid (BJ2 hb3 HB2.out); clear hr3 hb3))
  clear x0 x1 x2 x3 x4 x5 x6
  have HL3 := Lib.hid (HL1.out.below HB3.out)
  obtain ⟨x0, x1, x2, x3, x4, x5, x6⟩ := HL3.out.ob
  rw [HLABB.out] at x2
  go_upto_region 6 with (first
    | (go_at_call 6; refine (own_pt b B d lb B0 mb HLABB.out _ HL3.out.fb).mono ?_; rintro e w4 ⟨L4, m4, B4, c4, R4, rfl, hp4, hb4⟩; have HP4 := Lib.hid hp4; have HB4 := Lib.hid hb4; clear hp4 hb4)
    | (go_at_call 5; refine (uses_gen b.path b.name b.prio b.dl b.ver b.parts b.parts.length rfl Ub qb eb HUb HQb.out HEb HNb.out (by omega) _ _ _ _ _ _ _ HP4.out.row.2.1 (by omega) HPO.out.2).mono ?_; rintro e w5 ⟨A5, c5, rfl, hr5, hb5⟩; have HR5 := Lib.hid hr5; have HB5 := Lib.hid (BJ2 hb5 HB4.out); clear hr5 hb5))
  clear x0 x1 x2 x3 x4 x5 x6 HP2 HB2 HP4 HB4
  have HR35 := Lib.hid (HR3.out.below HB5.out)
  have HB15 := Lib.hid (BJ2 HB5.out HB3.out)
  have HL5 := Lib.hid (HL1.out.below HB15.out)
  obtain ⟨x0, x1, x2, x3, x4, x5, x6⟩ := HL5.out.oa
  rw [HLABA.out] at x2
  go_upto_region 7 with (go_at_call 6; refine (own_pt a A c la A0 ma HLABA.out _ HL5.out.fa).mono ?_; rintro e w6 ⟨L6, m6, B6, c6, R6, rfl, hp6, hb6⟩; have HP6 := Lib.hid hp6; have HB6 := Lib.hid hb6; clear hp6 hb6)
  clear x0 x1 x2 x3 x4 x5 x6
  have HC7 := Lib.hid (CAt.start (o := a) (lab := .slice L6 la.length m6) HP6.out rfl HB6.out)
  obtain ⟨bx, hbx⟩ : ∃ n, w6.heap.size = n := ⟨_, rfl⟩
  rw [hbx] at HC7 ⊢
  generalize hw7 : w6.alloc (.cells #[.string a.path, .string a.name, .slice L6 la.length m6, .int .i64 a.prio, .int .i64 a.dl, .slice B6 a.parts.length c6, .int .i64 a.ver] 25) = w7 at HC7 ⊢
  clear hw7 hbx HP6 HB6
  have HL7 := Lib.hid (HL5.out.below HC7.out.below)
  go_cut [] (fun wx => ∃ A7 c7 R7, CAt w5.heap.size w5 wx bx a (.slice L6 la.length m6) pab nab A7 c7 R7)
  case first =>
    obtain ⟨x0, x1, x2, x3, x4, x5, x6⟩ := HL7.out.ob
    rw [HLABB.out] at x2
    obtain ⟨-, -, -, -, -, -, p5, -, pf⟩ := HC7.out.box
    have h64 : nab * 64 ≤ 140737488355328 := by omega
    have hlt7 := HC7.out.lt
    have hfld := fun L8 m8 B8 c8 W => fld_parts b.path b.name L8 lb.length m8 b.prio b.dl b.ver B8 b.parts.length c8 W
    go_region_law (first
      | (refine step_app2 partElem w5.heap.size (by rfl) (.tmp 36) (.tmp 39) (by rfl) (v := .slice B6 a.parts.length c6) (xs := a.parts) (ys := b.parts) (S := fun k => w7.heap.size ≤ k ∧ k < w8.heap.size) HPAB.out HNAB.out (by rfl) (by exact HC8.out.parts.own) (by exact fun k hk => (HC8.out.parts.low k hk).2.2) (by exact fun k hk e => by have := (HC7.out.parts.own.block_lt k e).2; omega) (by rfl) (by rfl) (by exact HR8.out) h64 (by exact HC8.out.bsize) ?_; intro A9 c9 w9 happ; have HA9 := Lib.hid happ; obtain ⟨-, -, -, -, -, -, f5, -, ff⟩ := HC8.out.appBox happ; clear happ)
      | (go_simp; go_at_call 6; refine (own_pt b B d lb B0 mb HLABB.out _ (HL7.out.fb.below (Below.refl _ _).drew)).mono ?_; rintro e w8 ⟨L8, m8, B8, c8, R8, rfl, hp8, hb8⟩; have HC8 := Lib.hid (HC7.out.ofBelow ((Below.refl _ _).drew.trans (hb8.mono (Nat.le_refl _)))); have HR8 := Lib.hid (show Row kPart (fun k => w7.heap.size ≤ k ∧ k < w8.heap.size) w8 B8 b.parts from hp8.row.2.1.lt); have p5' := (hb8.cell (p := ⟨bx, 5, none⟩) hlt7).trans p5; clear hp8 hb8))
    all_goals (go_wp2_with fail; go_meet; exact HC8.out.app2 HPAB.out HNAB.out (fun k hk => ⟨Nat.le_trans HC7.out.bsize hk.1, hk.2, fun e => by have := (HC7.out.parts.own.block_lt k e).2; omega, fun e => by omega⟩) HA9.out)
  case rest =>
    obtain ⟨A7, c7, R7, hc9⟩ := hcut
    rename World => w9
    have HC9 := Lib.hid hc9
    clear hc9 HC7 HL7
    go_upto_region 8 with fail
    go_cut [] (fun wx => ∃ A8 c8 R8, CAt w5.heap.size w5 wx bx a (.slice L6 la.length m6) pc nc A8 c8 R8)
    case first =>
      have HC9b := Lib.hid (HC9.out.ofBelow ((Below.refl w9.heap.size w9).alloc (Nat.le_refl _) (.cells #[.string ⟨#[110, 111, 110, 101]⟩, .slice none 0 0, .slice none 0 0] 33)))
      obtain ⟨-, -, -, -, -, -, p5, -, pf⟩ := HC9.out.box
      have h64 : nc * 64 ≤ 140737488355328 := by omega
      have hlt9 := HC9.out.lt
      go_wp2_with (at_builtin; refine wpList_app2 partElem w5.heap.size rfl (.tmp 43) (.tmp 45) rfl (v := .slice A7 nab c7) (xs := pab) (ys := [noneP]) (S := fun k => k = w9.heap.size) HPCE.out HNCE.out rfl HC9b.out.parts.own (fun k hk => (HC9b.out.parts.low k hk).2.2) (fun k hk e => by have := (HC9.out.parts.own.block_lt k e).2; have : k = w9.heap.size := hk; omega) rfl rfl (none_row w9) h64 HC9b.out.bsize ?_; intro A10 c10 w10 happ; have HA10 := Lib.hid happ; obtain ⟨-, -, -, -, -, -, f5, -, ff⟩ := HC9b.out.appBox happ; clear happ)
      go_meet
      exact HC9b.out.app2 HPCE.out HNCE.out (fun k hk => ⟨by have := HC9.out.bsize; have : k = w9.heap.size := hk; omega, by have : k = w9.heap.size := hk; simp; omega, fun e => by have := (HC9.out.parts.own.block_lt k e).2; have : k = w9.heap.size := hk; omega, fun e => by have : k = w9.heap.size := hk; omega⟩) HA10.out
    case rest =>
      obtain ⟨A8, c8, R8, hc11⟩ := hcut
      rename World => w11
      have HC11 := Lib.hid hc11
      clear hc11 HC9
      have HL11 := Lib.hid (HL5.out.below HC11.out.below)
      obtain ⟨x0, x1, x2, x3, x4, x5, x6⟩ := HL11.out.ob
      rw [HLABB.out] at x2
      go_upto_region 10 with (go_at_call 6; refine (own_pt b B d lb B0 mb HLABB.out _ HL11.out.fb).mono ?_; rintro e w12 ⟨L12, m12, B12, c12, R12, rfl, hp12, hb12⟩; have HP12 := Lib.hid hp12; have HB12 := Lib.hid hb12; clear hp12 hb12)
      clear x0 x1 x2 x3 x4 x5 x6
      have HD13 := Lib.hid (CAt.start (o := b) (lab := .slice L12 lb.length m12) HP12.out rfl HB12.out)
      obtain ⟨dx, hdx⟩ : ∃ n, w12.heap.size = n := ⟨_, rfl⟩
      rw [hdx] at HD13 ⊢
      generalize hw13 : w12.alloc (.cells #[.string b.path, .string b.name, .slice L12 lb.length m12, .int .i64 b.prio, .int .i64 b.dl, .slice B12 b.parts.length c12, .int .i64 b.ver] 25) = w13 at HD13 ⊢
      clear hw13 hdx HP12 HB12
      have HL13 := Lib.hid (HL11.out.below HD13.out.below)
      go_cut [] (fun wx => ∃ A7 c7 R7, CAt w11.heap.size w11 wx dx b (.slice L12 lb.length m12) pba nba A7 c7 R7)
      case first =>
        obtain ⟨x0, x1, x2, x3, x4, x5, x6⟩ := HL13.out.oa
        rw [HLABA.out] at x2
        obtain ⟨-, -, -, -, -, -, p5, -, pf⟩ := HD13.out.box
        have h64 : nba * 64 ≤ 140737488355328 := by omega
        have hlt13 := HD13.out.lt
        have hfld := fun L8 m8 B8 c8 W => fld_parts a.path a.name L8 la.length m8 a.prio a.dl a.ver B8 a.parts.length c8 W
        go_region_law (first
          | (refine step_app2 partElem w11.heap.size (by rfl) (.tmp 51) (.tmp 54) (by rfl) (v := .slice B12 b.parts.length c12) (xs := b.parts) (ys := a.parts) (S := fun k => w13.heap.size ≤ k ∧ k < w14.heap.size) HPBA.out HNBA.out (by rfl) (by exact HD14.out.parts.own) (by exact fun k hk => (HD14.out.parts.low k hk).2.2) (by exact fun k hk e => by have := (HD13.out.parts.own.block_lt k e).2; omega) (by rfl) (by rfl) (by exact HR14.out) h64 (by exact HD14.out.bsize) ?_; intro A15 c15 w15 happ; have HA15 := Lib.hid happ; obtain ⟨-, -, -, -, -, -, f5, -, ff⟩ := HD14.out.appBox happ; clear happ)
          | (go_simp; go_at_call 6; refine (own_pt a A c la A0 ma HLABA.out _ (HL13.out.fa.below (Below.refl _ _).drew)).mono ?_; rintro e w14 ⟨L14, m14, B14, c14, R14, rfl, hp14, hb14⟩; have HD14 := Lib.hid (HD13.out.ofBelow ((Below.refl _ _).drew.trans (hb14.mono (Nat.le_refl _)))); have HR14 := Lib.hid (show Row kPart (fun k => w13.heap.size ≤ k ∧ k < w14.heap.size) w14 B14 a.parts from hp14.row.2.1.lt); have p5' := (hb14.cell (p := ⟨dx, 5, none⟩) hlt13).trans p5; clear hp14 hb14))
        all_goals (go_wp2_with fail; go_meet; exact HD14.out.app2 HPBA.out HNBA.out (fun k hk => ⟨Nat.le_trans HD13.out.bsize hk.1, hk.2, fun e => by have := (HD13.out.parts.own.block_lt k e).2; omega, fun e => by omega⟩) HA15.out)
      case rest =>
        obtain ⟨A16, c16, R16, hd16⟩ := hcut
        rename World => w16
        have HD16 := Lib.hid hd16
        clear hd16 HD13 HL13
        have HC16 := Lib.hid (HC11.out.ofBelow HD16.out.below)
        clear HC11 HL11
        obtain ⟨-, p0, p1, p2, p3, p4, p5, p6, -⟩ := HC16.out.box
        go_upto_region 12 with (go_at_call 5; refine (uses_gen a.path a.name a.prio a.dl a.ver pc nc HNCE.out Uc qc ec HUc HQc.out HEc HNC.out (by omega) _ _ _ _ _ _ _ HC16.out.parts.row.2.1 (by rw [HNCE.out]; omega) HPC.out).mono ?_; rintro e w17 ⟨A17, c17, rfl, hr17, hb17⟩; have HR17 := Lib.hid hr17; have HB17 := Lib.hid hb17; clear hr17 hb17)
        clear p0 p1 p2 p3 p4 p5 p6
        have HD17 := Lib.hid (HD16.out.ofBelow HB17.out)
        obtain ⟨-, p0, p1, p2, p3, p4, p5, p6, -⟩ := HD17.out.box
        go_upto_region 13 with (go_at_call 5; refine (uses_gen b.path b.name b.prio b.dl b.ver pba nba HNBA.out Uc qc ec HUd HQc.out HEd HND.out (by omega) _ _ _ _ _ _ _ HD17.out.parts.row.2.1 (by rw [HNBA.out]; omega) HPD.out).mono ?_; rintro e w18 ⟨A18, c18, rfl, hr18, hb18⟩; have HR18 := Lib.hid hr18; have HB18 := Lib.hid hb18; clear hr18 hb18)
        clear p0 p1 p2 p3 p4 p5 p6
        go_upto_region 15 with (go_at_call 7; refine (sameAmts_val _ _ qc _ _ _ _ Uc _ (HR17.out.below HB18.out) HR18.out HQc.out (by omega)).mono ?_; rintro e w19 ⟨rfl, hb19⟩; have HB19 := Lib.hid hb19; clear hb19)
        have HB6 := Lib.hid (BJ2 HB19.out (BJ2 HB18.out HB17.out))
        have HC19 := Lib.hid (HC16.out.ofBelow HB6.out)
        have HBF := Lib.hid (BJ2 (BJ2 (BJ2 HC19.out.below HB15.out) HB1.out) HB0.out)
        have RA := Lib.hid (HR35.out.below HC19.out.below)
        have RB := Lib.hid (HR5.out.below HC19.out.below)
        have RC := Lib.hid (HR17.out.below (BJ2 HB19.out HB18.out))
        clear HD16 HD17 HC16 HR17 HR18 HB17 HB18 HB19 HB6 HR35 HR5 HR3
        by_cases hea : ea = 0
        · subst hea
          by_cases heb : eb = 0
          · subst heb
            by_cases hec : ec = 0
            · subst hec
              have HROWF := Lib.hid (fun i hi => sua_row HAC.out HEa.out HEb.out HEc.out HUc.out i hi)
              have HASC := Lib.hid (fun i k hik hi hk => sua_asc HEc.out HUc.out i k hik hi hk)
              have HCA := Lib.hid (uses_count HEa.out)
              have HCB := Lib.hid (uses_count HEb.out)
              have hq0 : 0 < qc := by rw [← HQc.out]; exact sua_pos HEc.out HUc.out
              go_wp2
              go_loopw [16] (fun iv wr => ∃ i : Nat, iv = .int .i64 i ∧ i ≤ qc ∧ Hid (Below w19.heap.size w19 wr)) (fun iv _ => qc - (intOf iv).toNat)
              case atStart => exact ⟨0, rfl, Nat.zero_le _, Below.refl _ _⟩
              case round =>
                obtain ⟨i, rfl, hi, hbw⟩ := hrel
                obtain ⟨wp, rfl⟩ : ∃ wp, wp = wr := ⟨_, rfl⟩
                have HBW := Lib.hid hbw.out
                clear hbw
                by_cases hlt : i < qc
                · have hlt1 : (i : Int) < (qc : Int) := by omega
                  have him : i < Uc.length := by rw [HQc.out]; exact hlt
                  obtain ⟨g, hg, -, l0, l1⟩ := amt_at (RC.out.below HBW.out) i him
                  subst hg
                  have HRI := Lib.hid (HROWF.out i him)
                  have HAI := Lib.hid (fun k hik => HASC.out i k hik him (by omega))
                  obtain ⟨N, hN⟩ : ∃ N, Uc[i].name = N := ⟨_, rfl⟩
                  obtain ⟨V, hV⟩ : ∃ V, Uc[i].val = V := ⟨_, rfl⟩
                  rw [hN] at l0
                  rw [hV] at l1
                  rw [hN, hV] at HRI
                  simp only [hN] at HAI
                  clear hN hV
                  go_upto_region 23 with fail
                  go_cut [134] (fun v wx => v = .bool false ∧ wp = wx)
                  case first =>
                    rcases Nat.eq_zero_or_pos i with h0 | h0
                    · subst h0
                      go_wp2
                      go_meet
                      exact ⟨rfl, rfl⟩
                    · have hkm : i - 1 < Uc.length := by omega
                      obtain ⟨g2, hg2, -, k0, -⟩ := amt_at (RC.out.below HBW.out) (i - 1) hkm
                      cases hg2
                      obtain ⟨f1, f2⟩ := HAI.out (i - 1) (by omega)
                      obtain ⟨N2, hN2⟩ : ∃ N2, Uc[i - 1].name = N2 := ⟨_, rfl⟩
                      rw [hN2] at k0 f1 f2
                      have hsub : wrap64 ((i : Int) - 1) = ((i - 1 : Nat) : Int) := by rw [wrap_in (by omega) (by omega)]; omega
                      have hk1 : ((i - 1 : Nat) : Int) < (qc : Int) := by omega
                      have e0 : decide ((i : Int) > 0) = true := by simp; omega
                      clear hN2
                      go_wp2
                      go_meet
                      exact ⟨rfl, rfl⟩
                  case rest =>
                    obtain ⟨rfl, rfl⟩ := hcut
                    rcases HRI.out with ⟨hn, hv⟩ | ⟨hn, va, vb, hva, hvb, hv, hv0, hv1⟩
                    · subst hv
                      have e1 : (N.toList == (⟨#[99, 111, 117, 110, 116]⟩ : ByteArray).toList) = true := by rw [toList_eq, toList_eq, hn]; decide
                      have e2 : N.toList = [99, 111, 117, 110, 116] := by rw [toList_eq]; exact hn
                      have e3 : (N.toList == [99, 111, 117, 110, 116]) = true := by rw [e2]; rfl
                      have HVA := Lib.hid (show getK N.data.toList (usesV a.parts).1 = 1000 by rw [hn]; exact HCA.out)
                      have HVB := Lib.hid (show getK N.data.toList (usesV b.parts).1 = 1000 by rw [hn]; exact HCB.out)
                      clear hn
                      have T1 := True.intro
                      go_wp2_with (first
                        | (go_at_call 8; have T2 := T1; clear T1; refine (value_get _ Ua HUa N 1000 HVA _ qa _ _ _ (RA.out.below HBW.out) HQa.out (by omega)).mono ?_; rintro e wa ⟨rfl, hba⟩; have HBA := Lib.hid (BJ2 hba HBW.out); clear hba)
                        | (go_at_call 8; have T3 := T2; clear T2; refine (value_get _ Ub HUb N 1000 HVB _ qb _ _ _ (RB.out.below HBA.out) HQb.out (by omega)).mono ?_; rintro e wb ⟨rfl, hbb⟩; have HBB := Lib.hid (BJ2 hbb HBA.out); clear hbb))
                      go_roundw
                      case rel => exact ⟨i + 1, by go_num, hlt, HBB.out⟩
                      case measure => simp [intOf]; omega
                    · subst hv
                      have e1 : (N.toList == (⟨#[99, 111, 117, 110, 116]⟩ : ByteArray).toList) = false := by
                        rw [toList_eq, toList_eq, Bool.eq_false_iff]
                        intro h
                        exact hn (by simpa [countK] using h)
                      have e2 : ¬ N.toList = [99, 111, 117, 110, 116] := by rw [toList_eq]; exact hn
                      have e3 : (N.toList == [99, 111, 117, 110, 116]) = false := by simpa using e2
                      have HVA := Lib.hid hva
                      have HVB := Lib.hid hvb
                      have hw : IntKind.i64.wrap (va + vb) = va + vb := by rw [IntKind.wrap_i64]; omega
                      have l1z := fun z : BW wp => (z.h.cell (p := ⟨(g.add (i * 2)).block, (g.add (i * 2)).off + 1, none⟩) (World.block_lt_of_cell? wp _ l1)).trans l1
                      clear hn hva hvb
                      go_wp2_with fail
                      refine wp_region_pure (by kernel_rfl) (by kernel_rfl) ?_
                      repeat (first | go_big_quiet_step (first | (go_at_call 8; with_reducible show Calls _ _ #[.slice A3 qa c3, _] _ _; exact Calls.pure_of (value_get _ Ua HUa N va HVA _ qa _ _ _ (RA.out.below (BJ2 (BW.h _) HBW.out)) HQa.out (by omega))) | (go_at_call 8; exact Calls.pure_of (value_get _ Ub HUb N vb HVB _ qb _ _ _ (RB.out.below (BJ2 (BW.h _) HBW.out)) HQb.out (by omega)))) | quiet_step (first | (go_at_call 8; with_reducible show Calls _ _ #[.slice A3 qa c3, _] _ _; exact Calls.pure_of (value_get _ Ua HUa N va HVA _ qa _ _ _ (RA.out.below (BJ2 (BW.h _) HBW.out)) HQa.out (by omega))) | (go_at_call 8; exact Calls.pure_of (value_get _ Ub HUb N vb HVB _ qb _ _ _ (RB.out.below (BJ2 (BW.h _) HBW.out)) HQb.out (by omega)))))
                      refine wpQuiet_nil ?_
                      rintro _ ⟨z, rfl⟩
                      go_wp2
                      go_roundw
                      case rel => exact ⟨i + 1, by go_num, hlt, BJ2 z.h HBW.out⟩
                      case measure => simp [intOf]; omega
                · have hge : ¬ ((i : Int) < (qc : Int)) := by omega
                  have HCF := Lib.hid (HC19.out.ofBelow HBW.out)
                  obtain ⟨-, p0, p1, p2, p3, p4, p5, p6, -⟩ := HCF.out.box
                  go_wp2_with (go_at_call 9; refine (plain_gen a.path a.name a.prio a.dl a.ver pc nc HNCE.out (usesV pc).1 Uc HUc qc (sumOf HEc.out) HNC.out HQc.out hq0 (by omega) _ _ _ _ _ _ _ _ _ _ HCF.out.parts.row.2.1 (by rw [HNCE.out]; omega) HPC.out (RC.out.below HBW.out)).mono ?_; rintro e wz ⟨rfl, hbz⟩; have HBZ := Lib.hid (BJ2 hbz HBW.out); clear hbz)
                  go_ret
                  exact ⟨rfl, BJ2 HBZ.out HBF.out⟩
            · have h7 : ec = 7 := by
                have := HOVER.out HEa.out HEb.out (by rw [HEc.out]; exact hec)
                rw [HEc.out] at this; exact this
              subst h7
              clear hec
              go_wp2
              go_ret
              exact ⟨rfl, HBF.out⟩
          · have h0 : ec ≠ 0 := by
              have := HERR.out (.inr (by rw [HEb.out]; exact heb))
              rw [HEc.out] at this; exact this
            have e1 : (eb == 0) = false := by simpa using heb
            have e2 : (ec == 0) = false := by simpa using h0
            have e3 : (eb != 0) = true := by simpa using heb
            have e4 : (ec != 0) = true := by simpa using h0
            go_wp2
            go_ret
            exact ⟨rfl, HBF.out⟩
        · have h0 : ec ≠ 0 := by
            have := HERR.out (.inl (by rw [HEa.out]; exact hea))
            rw [HEc.out] at this; exact this
          have e1 : (ea == 0) = false := by simpa using hea
          have e2 : (ec == 0) = false := by simpa using h0
          have e3 : (ea != 0) = true := by simpa using hea
          have e4 : (ec != 0) = true := by simpa using h0
          go_wp2
          go_ret
          exact ⟨rfl, HBF.out⟩
end Go.Proofs.Ytdchffghgajbfaa
