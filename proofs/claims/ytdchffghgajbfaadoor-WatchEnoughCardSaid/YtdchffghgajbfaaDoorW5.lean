/- WatchEnough: the walk. -/
import Derived.Test.YtdchffghgajbfaaDoorM7
import Derived.Test.YtdchffghgajbfaaDoorM8
import Derived.Test.YtdchffghgajbfaaDoorW1
namespace Go.Proofs.YtdchffghgajbfaaDoor
open Go.RowKit

theorem right_sizes {e : Ev} (h : rightE e = true) : e.path.size ≤ 64 ∧ e.name.size ≤ 32 := by
  have hp := isPath_size (rightE_path h)
  refine ⟨hp, ?_⟩
  unfold rightE at h
  simp only [Bool.and_eq_true] at h
  have h2 := h.2
  split at h2
  · have : e.name.data.toList = [] := by simpa using h2
    rw [← data_len, this]; simp
  · unfold nameL at h2
    simp only [Bool.and_eq_true, decide_eq_true_eq] at h2
    have := h2.1.1.1.2
    rw [data_len] at this; exact this
theorem flat_inP (ls : List (List Ev)) (path : ByteArray) : ls.flatMap (inP path) = ls.flatten.filter fun e => underB e.path path := by
  rw [List.filter_flatten, List.flatMap_def]
/-- what the law's two lists have to do with each other -/
theorem enough_hist {first : Int} {ps : List (List Ev)} {d : Nat} (hh : HistOk first ps d) (v0 : Nat) (hv : v0 ≤ ps.length) (kind : Int) (path : ByteArray) :
    SameMem (replayL kind path (thereL (first + v0) kind path ps.flatten) ((ps.drop v0).flatMap (inP path))) (thereL (first + ps.length) kind path ps.flatten) ∧
      (replayL kind path (thereL (first + v0) kind path ps.flatten) ((ps.drop v0).flatMap (inP path))).length = (thereL (first + ps.length) kind path ps.flatten).length := by
  have e : ps.flatten = (ps.take v0).flatten ++ (ps.drop v0).flatten := by rw [← List.flatten_append, List.take_append_drop]
  rw [e, flat_inP]
  refine enough_law kind (first + v0) (first + ps.length) path _ _ ?_ ?_ (by omega)
  · intro x hx
    obtain ⟨l, hl, hx⟩ := List.mem_flatten.1 hx
    obtain ⟨i, hi, rfl⟩ := List.getElem_of_mem hl
    rw [List.length_take] at hi
    rw [List.getElem_take] at hx
    have := hh.ver i (by omega) x hx
    omega
  · intro x hx
    obtain ⟨l, hl, hx⟩ := List.mem_flatten.1 hx
    obtain ⟨i, hi, rfl⟩ := List.getElem_of_mem hl
    rw [List.length_drop] at hi
    rw [List.getElem_drop] at hx
    have := hh.ver (v0 + i) (by omega) x hx
    omega

set_option maxRecDepth 100000 in
set_option maxHeartbeats 1000000 in
theorem watchEnough_walk (A : Option Addr) (c : Nat) (P : Nat → Prop) (xs : List (List Ev)) (back kind most : Int) (path : ByteArray) (w : World) (he : Env w) (hr : Row (Kn.slice kEvent) P w A xs) (hxl : xs.length ≤ 9223372036854775807) :
    Calls Tryd.prog 12 #[.slice A xs.length c, .int .i64 back, .int .i64 kind, .string path, .int .i64 most] w fun e w' => e = .returned (.bool true) ∧ Below w.heap.size w w' := by
  go_enter Tryd.func12, Tryd.ntmps12
  go_wp2_with (first
    | (go_at_call 14; refine (known_any w he.ml).mono ?_; rintro e w1 ⟨rfl, hb1⟩; have HB1 := Lib.hid hb1; clear hb1)
    | (go_at_call 18; refine (pushed_walk 0 A c P xs w1 (he.below HB1.out) (hr.below HB1.out) (by omega) hxl).mono ?_; rintro e w2 (⟨rfl, hb2⟩ | ⟨pb, gh, ps, d, F, vL, rfl, hok⟩)))
  · go_ret
    exact ⟨rfl, HB1.out.trans (hb2.mono HB1.out.size)⟩
  · obtain ⟨hI, hH, hfew, hsmall, hfar, hright⟩ := hok
    have hw2 := HB1.out.trans (hI.bel.mono HB1.out.size)
    have he2 := he.below hw2
    obtain ⟨first, hfirst⟩ : ∃ first, max (0 : Int) 0 = first := ⟨_, rfl⟩
    rw [hfirst] at hI hH hfar
    have hf0 := hH.f0
    have hdle := hH.dle
    have hk := hI.hub
    obtain ⟨low, hlow⟩ : ∃ low : Int, first + (d : Int) = low := ⟨_, rfl⟩
    obtain ⟨high, hhigh⟩ : ∃ high : Int, first + (ps.length : Int) = high := ⟨_, rfl⟩
    have LOW := Lib.hid (show (hubOf first ps d).low = low from hlow)
    have HIGH := Lib.hid (show (hubOf first ps d).high = high from hhigh)
    have DLOW := Lib.hid hlow
    have DHIGH := Lib.hid hhigh
    have hn : 1 ≤ high - low + 1 ∧ high - low + 1 ≤ 401 ∧ 0 ≤ low ∧ high ≤ 576460752303423488 + 400 := by omega
    obtain ⟨hn1, hn2, hn3, hn4⟩ := hn
    obtain ⟨c0, c1, c2, fz⟩ := pdAt hI.blk
    have HI := Lib.hid hI
    have HH := Lib.hid hH
    clear hI hH hfirst hlow hhigh
    go_wp2
    go_quiet (first
      | exact IsHub.low_q hk LOW.out _
      | exact IsHub.high_q hk HIGH.out _)
    obtain ⟨n, hn5, hn6⟩ := from_ok (low := low) (high := high) (back := back) (by omega) (by omega) hn4
    obtain ⟨m, hm5, hm6, hm7⟩ := most_ok most
    have hnn : n ≤ ps.length := by have := DLOW.out; have := DHIGH.out; omega
    have hv0 : high - (n : Int) = first + ((ps.length - n : Nat) : Int) := by have := DHIGH.out; omega
    have hdv : d ≤ ps.length - n := by have := DLOW.out; have := DHIGH.out; omega
    obtain ⟨v0, hv0n⟩ : ∃ v0, ps.length - n = v0 := ⟨_, rfl⟩
    rw [hv0n] at hdv hv0
    have hvp : v0 ≤ ps.length := by omega
    rw [hv0] at hn5
    have hW0 := below_drewN (Below.refl w2.heap.size w2) nq
    have hmq : Ml (w2.drewN nq) := he2.ml.below hW0
    have heq : Env (w2.drewN nq) := he2.below hW0
    have hkq := hk.below hW0
    obtain ⟨AL, cL, hvL, _⟩ := HI.out.own.row
    have hOL := (HI.out.own.below hW0)
    obtain ⟨L, hL⟩ : ∃ L, ps.flatten = L := ⟨_, rfl⟩
    have hLl : L.length ≤ 51200 := by rw [← hL]; have := flatten_len hsmall; omega
    have hcq : (w2.drewN nq).cell? ⟨pb, 0, none⟩ = some (.pointer (some ⟨gh, 0, none⟩)) := c0
    have hcq2 : (w2.drewN nq).cell? ⟨pb, 2, none⟩ = some vL := c2
    have hse : ∀ e ∈ L, e.path.size ≤ 64 ∧ e.name.size ≤ 32 := fun e he => by
      rw [← hL] at he
      obtain ⟨x, hx, he⟩ := List.mem_flatten.1 he
      exact right_sizes (hright x hx e he)
    rw [hL] at hvL hOL
    subst hvL
    have hRL := hOL.row'.2.1
    have HBW := Lib.hid (hw2.trans (hW0.mono hw2.size))
    obtain ⟨W, hW⟩ : ∃ W, w2.drewN nq = W := ⟨_, rfl⟩
    rw [hW] at hmq heq hkq hcq hcq2 hRL HBW ⊢
    obtain ⟨fr, hfr⟩ : ∃ fr, first + (v0 : Int) = fr := ⟨_, rfl⟩
    have FROM := Lib.hid (hn5.trans hfr)
    have MOST := Lib.hid hm5
    have HL := Lib.hid hL
    have HFR := Lib.hid hfr
    have HRL := Lib.hid hRL
    have HSE := Lib.hid hse
    have hpl := World.block_lt_of_cell? W _ hcq
    clear hn5 hm5 hv0 hv0n hW0 hOL hW hL hse hRL hfr c0 c1 c2 fz hk he2 hright hsmall hw2
    go_upto_region 7 with fail
    go_cut [15] (fun s wx => W = wx ∧ s = .int .i64 fr)
    case first =>
      go_wp2
      go_meet
      exact ⟨rfl, by rw [FROM.out]⟩
    case rest =>
      obtain ⟨rfl, rfl⟩ := hcut
      go_upto_region 8 with fail
      go_cut [4] (fun s wx => W = wx ∧ s = .int .i64 m)
      case first =>
        go_wp2
        go_meet
        exact ⟨rfl, by rw [MOST.out]⟩
      case rest =>
        obtain ⟨rfl, rfl⟩ := hcut
        go_upto_region 9 with fail
        go_cut [2] (fun s wx => ∃ K, W = wx ∧ s = .int .i64 K)
        case first =>
          go_wp2
          go_meet
          exact ⟨_, rfl, rfl⟩
        case rest =>
          obtain ⟨K, rfl, rfl⟩ := hcut
          clear FROM MOST
          go_upto_if 61 with (go_at_call 24; refine (path_any _ _ hmq).mono ?_; rintro e w3 ⟨rfl, hb3⟩; have HB3 := Lib.hid hb3; clear hb3)
          go_cut [3] (fun s wx => ∃ q, w3 = wx ∧ s = .string q ∧ isPath q = true)
          case first =>
            rcases errPath_cases path with ⟨hp, ep⟩ | ⟨hp, ep⟩
            · have e1 : (errPath path != 0) = false := by rw [ep]; rfl
              go_wp2
              go_meet
              exact ⟨_, rfl, rfl, hp⟩
            · have e1 : (errPath path != 0) = true := by rw [ep]; rfl
              go_wp2
              go_meet
              exact ⟨_, rfl, rfl, by rfl⟩
          case rest =>
            obtain ⟨q, rfl, rfl, hq⟩ := hcut
            have hm3 := hmq.below HB3.out
            have hsz3 := HB3.out.size
            have hc3 := (HB3.out.cell (World.block_lt_of_cell? W _ hcq)).trans hcq
            have hc32 := (HB3.out.cell (World.block_lt_of_cell? W _ hcq2)).trans hcq2
            have hlaw := enough_hist HH.out v0 hvp K q
            rw [HFR.out, HL.out, DHIGH.out] at hlaw
            have hpc := fun w5 (a : Ml w5) b (k5 : IsHub F w5 gh (hubOf first ps d)) => pieces_ok pb gh first ps d v0 m q w5 a b k5 HH.out hq ⟨hm6, hm7⟩ hdv hvp
            have hgl : ((ps.drop v0).flatMap (inP q)).length ≤ 128 := Nat.le_trans (flat_le _ _) (Nat.le_trans (sumL_drop_le ps d v0 hdv) HH.out.fit)
            have hge : ∀ e ∈ (ps.drop v0).flatMap (inP q), e ∈ L := fun e he => by
              rw [flat_inP] at he
              rw [← HL.out]
              obtain ⟨x, hx, he⟩ := List.mem_flatten.1 ((List.mem_filter.1 he).1)
              exact List.mem_flatten.2 ⟨x, List.mem_of_mem_drop hx, he⟩
            rw [HFR.out] at hpc
            obtain ⟨G, hG⟩ : ∃ G, (ps.drop v0).flatMap (inP q) = G := ⟨_, rfl⟩
            rw [hG] at hlaw hpc hgl hge
            have HPC := Lib.hid hpc
            have hthl := thereL_len fr K q L
            have hths : ∀ t ∈ thereL fr K q L, t.length ≤ 1073741824 := fun t ht => by
              obtain ⟨e, he, rfl⟩ := mem_thereL fr K q L ht
              have := HSE.out e he
              simp only [textE, List.length_append, List.length_cons, data_len]; omega
            have hgs : ∀ e ∈ G, e.path.size ≤ 1073741824 ∧ e.name.size ≤ 1073741824 := fun e he => by have := HSE.out e (hge e he); omega
            have hth1 := there_any pb fr K q AL cL (fun _ => True) L w3 hm3 hc32 (HRL.out.below HB3.out) (by omega) (fun e he => by have := HSE.out e he; omega)
            obtain ⟨TH, hTH⟩ : ∃ TH, thereL fr K q L = TH := ⟨_, rfl⟩
            obtain ⟨TN, hTN⟩ : ∃ TN, thereL high K q L = TN := ⟨_, rfl⟩
            have hth2 : ∀ w5, Below w3.heap.size w3 w5 → Calls Tryd.prog 50 #[.pointer (some ⟨pb, 0, none⟩), .int .i64 high, .int .i64 K, .string q] w5 (TextsPost TN w5) := fun w5 hb => by
              rw [← hTN]
              exact there_any pb high K q AL cL (fun _ => True) L w5 (hm3.below hb) ((hb.cell (World.block_lt_of_cell? w3 _ hc32)).trans hc32) ((HRL.out.below HB3.out).below hb) (by omega) (fun e he => by have := HSE.out e he; omega)
            rw [hTH] at hlaw hthl hths hth1
            rw [hTN] at hlaw
            obtain ⟨RR, hRR⟩ : ∃ RR, replayL K q TH G = RR := ⟨_, rfl⟩
            have hasc := replayL_asc K q TH G
            rw [hRR] at hlaw hasc
            have HLAW := Lib.hid hlaw
            have HT1 := Lib.hid hth1
            have HT2 := Lib.hid hth2
            have HTS := Lib.hid hths
            have HGS := Lib.hid hgs
            have HRR := Lib.hid hRR
            have HASC := Lib.hid hasc
            have hrl : RR.length ≤ 9223372036854775807 := by
              have := replayL_len K q TH G G.length (Nat.le_refl _)
              rw [List.take_length, hRR] at this
              omega
            have T1 := True.intro
            clear hlaw hpc hge hG hTH hTN hRR hasc hth1 hth2 hths hgs
            go_wp2_with (first
              | (go_at_call 50; have T2 := T1; clear T1; refine HT1.out.mono ?_; rintro e w4 ⟨A4, c4, rfl, ho4, hb4⟩; have HO4 := Lib.hid ho4; have HB4 := Lib.hid hb4
                 have hm4 := hm3.below hb4; have hk4 := (hkq.below HB3.out).below hb4; have hc4 := (hb4.cell (World.block_lt_of_cell? w3 _ hc3)).trans hc3; clear ho4 hb4; try dsimp only)
              | (go_at_call 21; refine (HPC.out w4 hm4 hc4 hk4).mono ?_; rintro e w5 ⟨A5, c5, rfl, ho5, hb5⟩; have HO5 := Lib.hid ho5; have HB5 := Lib.hid (HB4.out.trans (hb5.mono HB4.out.size)); have HO45 := Lib.hid (HO4.out.below hb5); clear ho5 hb5; try dsimp only)
              | (go_at_call 46; refine (behind_at A5 c5 _ G _ ((heq.below HB3.out).below HB5.out) HO5.out.row'.2.1 (by omega)).mono ?_; rintro e w6 ⟨X6, cx, rfl, ho6, hb6⟩
                 have hcx : G.length ≤ cx := (by have := ho6.row'.2.2.1; simp at this; omega)
                 have hcutX := run_cut_to evElem X6 (G.length + 1) cx G.length hcx
                 have HRX := Lib.hid (show Row kEvent (fun _ => True) w6 X6 G by have := ho6.row'.2.1.take G.length; rwa [List.take_left] at this)
                 have HB6 := Lib.hid (HB5.out.trans (hb6.mono HB5.out.size)); have HO46 := Lib.hid (HO45.out.below hb6); clear ho6 hb6 hcx; try dsimp only)
              | (go_at_call 47; have q7 := replay_any K q A4 X6 c4 cx _ _ TH G w6 (hm3.below HB6.out) (own_txt_row HO46.out).1 HRX.out (by omega) (by omega) HTS.out HGS.out; rw [HRR.out] at q7; refine q7.mono ?_; clear q7; rintro e w7 ⟨A7, c7, rfl, ho7, hb7⟩; have HO7 := Lib.hid ho7; have HB7 := Lib.hid (HB6.out.trans (hb7.mono HB6.out.size)); clear ho7 hb7; try dsimp only)
              | (go_at_call 50; have T3 := T2; clear T2; refine (HT2.out w7 HB7.out).mono ?_; rintro e w8 ⟨A8, c8, rfl, ho8, hb8⟩; have HO8 := Lib.hid ho8; have HO78 := Lib.hid (HO7.out.below hb8); have HB8 := Lib.hid (HB7.out.trans (hb8.mono HB7.out.size)); clear ho8 hb8; try dsimp only)
              | (go_at_call 51; refine (sameSet_any A7 A8 c7 c8 _ _ RR TN _ (own_txt_row HO78.out).1 (own_txt_row HO8.out).1 HASC.out HLAW.out.2 (fun x hx => (HLAW.out.1 x).1 hx) hrl).mono ?_; rintro e w9 ⟨rfl, hb9⟩; have HB9 := Lib.hid (HB8.out.trans (hb9.mono HB8.out.size)); clear hb9))
            go_ret
            exact ⟨rfl, HBW.out.trans ((HB3.out.trans (HB9.out.mono hsz3)).mono HBW.out.size)⟩
end Go.Proofs.YtdchffghgajbfaaDoor
