/- WatchPieces: the walk. -/
import Derived.Test.YtdchffghgajbfaaDoorL5
namespace Go.Proofs.YtdchffghgajbfaaDoor
open Go.RowKit

theorem filter_flat {first : Int} {ps : List (List Ev)} {d : Nat} (hh : HistOk first ps d) (v0 : Nat) (h : v0 ≤ ps.length) (path : ByteArray) :
    ps.flatten.filter (fun e => decide (e.ver > first + v0) && underB e.path path) = (ps.drop v0).flatMap (inP path) := by
  have e : ps.flatten = (ps.take v0).flatten ++ (ps.drop v0).flatten := by rw [← List.flatten_append, List.take_append_drop]
  rw [e, List.filter_append]
  have h1 : (ps.take v0).flatten.filter (fun e => decide (e.ver > first + v0) && underB e.path path) = [] := by
    rw [List.filter_eq_nil_iff]
    intro x hx
    obtain ⟨l, hl, hx⟩ := List.mem_flatten.1 hx
    obtain ⟨i, hi, rfl⟩ := List.getElem_of_mem hl
    rw [List.length_take] at hi
    rw [List.getElem_take] at hx
    have := hh.ver i (by omega) x hx
    simp; omega
  have h2 : (ps.drop v0).flatten.filter (fun e => decide (e.ver > first + v0) && underB e.path path) = (ps.drop v0).flatMap (inP path) := by
    rw [List.filter_flatten, List.flatMap_def]
    congr 1
    refine List.map_congr_left fun l hl => ?_
    refine List.filter_congr fun x hx => ?_
    obtain ⟨i, hi, rfl⟩ := List.getElem_of_mem hl
    rw [List.length_drop] at hi
    rw [List.getElem_drop] at hx
    have := hh.ver (v0 + i) (by omega) x hx
    rw [decide_eq_true (by omega)]; simp
  rw [h1, h2]; simp

theorem filter_take {p : Ev → Bool} {l : List Ev} {i : Nat} (h : i < l.length) : (l.take (i + 1)).filter p = (l.take i).filter p ++ (if p l[i] then [l[i]] else []) := by
  rw [List.take_succ_eq_append_getElem h, List.filter_append]
  congr 1
  cases hp : p l[i] <;> simp [hp]
theorem filter_take_len {p : Ev → Bool} {l : List Ev} (i : Nat) : ((l.take i).filter p).length ≤ i := Nat.le_trans (List.length_filter_le _ _) (by rw [List.length_take]; omega)

theorem from_ok {low high back : Int} (h0 : 0 ≤ low) (h1 : low ≤ high) (h2 : high ≤ 576460752303423488 + 400) : ∃ n : Nat, wrap64 (high - wrap64 ((IntKind.u64.wrap back).tmod (high - low + 1))) = high - n ∧ (n : Int) ≤ high - low := by
  have hu : 0 ≤ IntKind.u64.wrap back := wrap_u64_nonneg back
  have a1 := Int.tmod_nonneg (high - low + 1) hu
  have a2 := Int.tmod_lt_of_pos (IntKind.u64.wrap back) (b := high - low + 1) (by omega)
  generalize (IntKind.u64.wrap back).tmod (high - low + 1) = n at *
  rw [IntWalk.wrap64_in n ⟨by omega, by omega⟩, IntWalk.wrap64_in _ ⟨by omega, by omega⟩]
  exact ⟨n.toNat, by omega, by omega⟩
theorem most_ok (most : Int) : ∃ m, wrap64 (wrap64 ((IntKind.u64.wrap most).tmod 100) + 1) = m ∧ 1 ≤ m ∧ m ≤ 100 := by
  have hu : 0 ≤ IntKind.u64.wrap most := wrap_u64_nonneg most
  have a1 := Int.tmod_nonneg 100 hu
  have a2 := Int.tmod_lt_of_pos (IntKind.u64.wrap most) (b := 100) (by omega)
  generalize (IntKind.u64.wrap most).tmod 100 = n at *
  rw [IntWalk.wrap64_in n ⟨by omega, by omega⟩, IntWalk.wrap64_in _ ⟨by omega, by omega⟩]
  exact ⟨_, rfl, by omega, by omega⟩
theorem IsHub.low_q {F : Nat → Prop} {w : World} {g : Nat} {h : HubS} {low : Int} (k : IsHub F w g h) (hl : h.low = low) (n : Nat) : Calls Tryd.prog 19 #[.pointer (some ⟨g, 0, none⟩)] (w.drewN n) fun e w'' => e = .returned (.int .i64 low) ∧ ∃ m, w'' = w.drewN m := by
  subst hl
  refine (low_any g h _ (k.below (below_drewN (Below.refl _ _) n))).mono ?_
  rintro e w' ⟨rfl, rfl⟩; exact ⟨rfl, _, rfl⟩
theorem IsHub.high_q {F : Nat → Prop} {w : World} {g : Nat} {h : HubS} {high : Int} (k : IsHub F w g h) (hl : h.high = high) (n : Nat) : Calls Tryd.prog 20 #[.pointer (some ⟨g, 0, none⟩)] (w.drewN n) fun e w'' => e = .returned (.int .i64 high) ∧ ∃ m, w'' = w.drewN m := by
  subst hl
  refine (high_any g h _ (k.below (below_drewN (Below.refl _ _) n))).mono ?_
  rintro e w' ⟨rfl, rfl⟩; exact ⟨rfl, _, rfl⟩

set_option maxRecDepth 100000 in
set_option maxHeartbeats 1000000 in
theorem watchPieces_walk (v : Int) (A : Option Addr) (c : Nat) (P : Nat → Prop) (xs : List (List Ev)) (back most : Int) (path : ByteArray) (w : World) (he : Env w) (hr : Row (Kn.slice kEvent) P w A xs) (hv : -9223372036854775808 ≤ v ∧ v ≤ 9223372036854775807) (hxl : xs.length ≤ 9223372036854775807) :
    Calls Tryd.prog 5 #[.int .i64 v, .slice A xs.length c, .int .i64 back, .string path, .int .i64 most] w fun e w' => e = .returned (.bool true) ∧ Below w.heap.size w w' := by
  go_enter Tryd.func5, Tryd.ntmps5
  go_wp2_with (first
    | (go_at_call 14; refine (known_any w he.ml).mono ?_; rintro e w1 ⟨rfl, hb1⟩; have HB1 := Lib.hid hb1; clear hb1)
    | (go_at_call 18; refine (pushed_walk v A c P xs w1 (he.below HB1.out) (hr.below HB1.out) hv hxl).mono ?_; rintro e w2 (⟨rfl, hb2⟩ | ⟨pb, gh, ps, d, F, vL, rfl, hok⟩)))
  · go_ret
    exact ⟨rfl, HB1.out.trans (hb2.mono HB1.out.size)⟩
  · obtain ⟨hI, hH, hfew, hsmall, hfar, _⟩ := hok
    have hw2 := HB1.out.trans (hI.bel.mono HB1.out.size)
    have he2 := he.below hw2
    obtain ⟨first, hfirst⟩ : ∃ first, max v 0 = first := ⟨_, rfl⟩
    rw [hfirst] at hI hH hfar
    have hf0 := hH.f0
    have hdle := hH.dle
    have hk := hI.hub
    obtain ⟨low, hlow⟩ : ∃ low : Int, first + (d : Int) = low := ⟨_, rfl⟩
    obtain ⟨high, hhigh⟩ : ∃ high : Int, first + (ps.length : Int) = high := ⟨_, rfl⟩
    have LOW := Lib.hid (show (hubOf first ps d).low = low from hlow)
    have HIGH := Lib.hid (show (hubOf first ps d).high = high from hhigh)
    have DLOW := Lib.hid hlow
    have DHIGH := Lib.hid hhigh
    have hn : 1 ≤ high - low + 1 ∧ high - low + 1 ≤ 401 ∧ 0 ≤ low ∧ high ≤ 576460752303423488 + 400 := by omega
    obtain ⟨hn1, hn2, hn3, hn4⟩ := hn
    obtain ⟨c0, c1, c2, fz⟩ := pdAt hI.blk
    have HI := Lib.hid hI
    have HH := Lib.hid hH
    clear hI hH hfirst hlow hhigh
    go_wp2
    go_quiet (first
      | exact IsHub.low_q hk LOW.out _
      | exact IsHub.high_q hk HIGH.out _)
    obtain ⟨n, hn5, hn6⟩ := from_ok (low := low) (high := high) (back := back) (by omega) (by omega) hn4
    obtain ⟨m, hm5, hm6, hm7⟩ := most_ok most
    have hnn : n ≤ ps.length := by have := DLOW.out; have := DHIGH.out; omega
    have hv0 : high - (n : Int) = first + ((ps.length - n : Nat) : Int) := by have := DHIGH.out; omega
    have hdv : d ≤ ps.length - n := by have := DLOW.out; have := DHIGH.out; omega
    obtain ⟨v0, hv0n⟩ : ∃ v0, ps.length - n = v0 := ⟨_, rfl⟩
    rw [hv0n] at hdv hv0
    have hvp : v0 ≤ ps.length := by omega
    rw [hv0] at hn5
    have FROM := Lib.hid hn5
    have MOST := Lib.hid hm5
    have hm8 := he2.ml
    have hmq : Ml (w2.drewN nq) := hm8.below (below_drewN (Below.refl _ _) _)
    have hkq := hk.below (below_drewN (Below.refl w2.heap.size w2) nq)
    have hcq : (w2.drewN nq).cell? ⟨pb, 0, none⟩ = some (.pointer (some ⟨gh, 0, none⟩)) := c0
    have hpblt := HI.out.lt
    clear hn5 hm5 hv0 hv0n
    rcases errPath_cases path with ⟨hp, ep⟩ | ⟨hp, ep⟩
    · have EP := Lib.hid ep
      have HP := Lib.hid hp
      clear ep hp
      obtain ⟨fr, hfr⟩ : ∃ fr, first + (v0 : Int) = fr := ⟨_, rfl⟩
      obtain ⟨W, hW⟩ : ∃ W, (ps.drop v0).flatMap (inP path) = W := ⟨_, rfl⟩
      have hpc := pieces_ok pb gh first ps d v0 m path _ hmq hcq hkq HH.out HP.out ⟨hm6, hm7⟩ hdv hvp
      have FROM := Lib.hid (FROM.out.trans hfr)
      rw [hfr, hW] at hpc
      have HPC := Lib.hid hpc
      have HFR := Lib.hid hfr
      have HW := Lib.hid hW
      clear hpc hfr hW
      go_wp2_with (first
        | (go_at_call 21; rw [FROM.out, MOST.out]; refine HPC.out.mono ?_; rintro e w4 ⟨A4, c4, rfl, hown4, hb4⟩
           have hm4 := hmq.below hb4; have HB4 := Lib.hid hb4; have HO4 := Lib.hid hown4; clear hown4 hb4)
        | (go_at_call 24; refine (path_any _ _ hm4).mono ?_; rintro e w5 ⟨rfl, hb5⟩; rw [EP.out]; have HB5 := Lib.hid hb5; clear hb5))
      have hlen := flatten_len hsmall
      have hff := filter_flat HH.out v0 hvp path
      rw [HFR.out, HW.out] at hff
      obtain ⟨AL, cL, hvL, _⟩ := HI.out.own.row
      obtain ⟨L, hL⟩ : ∃ L, ps.flatten = L := ⟨_, rfl⟩
      have hI2 := HI.out
      rw [hL] at hlen hff hvL hI2
      have hWl : W.length ≤ L.length := by rw [← hff]; exact List.length_filter_le _ _
      have hb45 := (below_drewN (Below.refl w2.heap.size w2) nq).trans (HB4.out.trans (HB5.out.mono HB4.out.size))
      have hpb5 : w5.cell? ⟨pb, 2, none⟩ = some vL := (hb45.cell (p := ⟨pb, 2, none⟩) hpblt).trans c2
      have HO45 := Lib.hid (HO4.out.below HB5.out)
      have hm5 := hm4.below HB5.out
      have hw5 := hw2.trans (hb45.mono (by have := hw2.size; omega))
      have HW5 := Lib.hid hw5
      have hb45s := hb45.size
      subst hvL
      have hOL := (hI2.own.below hb45).row'
      have hRL := hOL.2.1
      have HFF := Lib.hid hff
      clear hOL hI2 hb45 hff hL hw5 HO4 HB4 HB5 hcq hkq hmq c0 c1 c2 fz HPC
      have hLl : L.length ≤ 51200 := by omega
      go_loopw [20, 21] (fun wv iv wr => ∃ (i : Nat) (A6 : Option Addr) (c6 : Nat) (T : List Ev), iv = .int .i64 i ∧ i ≤ L.length ∧ wv = .slice A6 T.length c6 ∧ T.length ≤ i ∧ Own kEvent 41 w5.heap.size (fun _ => True) wr (.slice A6 T.length c6) T ∧ Below w5.heap.size w5 wr ∧ Hid (T = (L.take i).filter (fun e => decide (e.ver > fr) && underB e.path path))) (fun _ iv _ => L.length - (intOf iv).toNat)
      case atStart => exact ⟨0, none, 0, [], rfl, Nat.zero_le _, rfl, Nat.le_refl _, Own.nil _ _ _ _ _, Below.refl _ _, by simp [Hid]⟩
      case round =>
        obtain ⟨i, A6, c6, T, rfl, hi, rfl, hTi, hown, hbr, HT⟩ := hrel
        have hcr : wr.cell? ⟨pb, 2, none⟩ = some (.slice AL L.length cL) := (hbr.cell (p := ⟨pb, 2, none⟩) (Nat.lt_of_lt_of_le hpblt hb45s)).trans hpb5
        by_cases hlt : i < L.length
        · obtain ⟨a, rfl, _, l0, l1, l2, l3, l4⟩ := ev_at (hRL.below hbr) i hlt
          have hmr := hm5.below hbr
          obtain ⟨x, hx⟩ : ∃ x, L[i] = x := ⟨_, rfl⟩
          rw [hx] at l0 l1 l2 l3 l4
          have hstep := filter_take (p := fun e => decide (e.ver > fr) && underB e.path path) hlt
          rw [hx, ← HT.out] at hstep
          clear hx
          have h56 : (T.length + 1) * 56 ≤ 140737488355328 := by omega
          by_cases hgt : x.ver > fr
          · have e1 : decide (x.ver > fr) = true := by simpa using hgt
            cases hu : underB x.path path
            · have hs2 := Lib.hid (show T = (L.take (i + 1)).filter (fun e => decide (e.ver > fr) && underB e.path path) by rw [hstep, e1, hu]; simp)
              have HU := Lib.hid hu
              clear hu hstep
              go_wp2_with (go_at_call 25; refine (under_any _ _ _ hmr).mono ?_; rintro e w6 ⟨rfl, hb6⟩; rw [HU.out])
              go_roundw
              case rel => exact ⟨i + 1, A6, c6, T, by go_num, hlt, rfl, by omega, hown.below hb6, hbr.trans (hb6.mono hbr.size), hs2⟩
              case measure => simp [intOf]; omega
            · have hs2 := Lib.hid (show T ++ [x] = (L.take (i + 1)).filter (fun e => decide (e.ver > fr) && underB e.path path) by rw [hstep, e1, hu]; simp)
              have HU := Lib.hid hu
              clear hu hstep
              go_wp2_with (first
                | (go_at_call 25; refine (under_any _ _ _ hmr).mono ?_; rintro e w6 ⟨rfl, hb6⟩; rw [HU.out]; have hcr6 := (hb6.cell (World.block_lt_of_cell? _ _ hcr)).trans hcr
                   have m0 := (hb6.cell (World.block_lt_of_cell? _ _ l0)).trans l0
                   have m1 := (hb6.cell (World.block_lt_of_cell? _ _ l1)).trans l1
                   have m2 := (hb6.cell (World.block_lt_of_cell? _ _ l2)).trans l2
                   have m3 := (hb6.cell (World.block_lt_of_cell? _ _ l3)).trans l3
                   have m4 := (hb6.cell (World.block_lt_of_cell? _ _ l4)).trans l4
                   have HB6 := Lib.hid hb6; clear hb6)
                | (at_builtin; refine wpList_app_plain evElem kEvent_plain w5.heap.size rfl (.tmp 119) (.tmp 127) rfl (v := .slice A6 T.length c6) (xs := T) (ys := [x]) rfl ((hown.below HB6.out).alloc _) rfl rfl (Row.newOnePlain (cs := Ev.cells x) kEvent_plain rfl) (by simpa using h56) (by have := HB6.out.size; have := hbr.size; simp; omega) ?_; intro A7 c7 w7 happ; have HA7 := Lib.hid happ; clear happ))
              go_roundw
              case rel =>
                have q1 := hbr.size
                have q2 := HB6.out.size
                refine ⟨i + 1, A7, c7, T ++ [x], by go_num, hlt, by simp, by simp; omega, by simpa using HA7.out.own, HA7.out.below ((hbr.trans (HB6.out.mono q1)).alloc (by omega) _) (by simp; omega) (fun q hq => (hown.block_lt q hq).1), hs2⟩
              case measure => simp [intOf]; omega
          · have e1 : decide (x.ver > fr) = false := by simpa using hgt
            have hs2 := Lib.hid (show T = (L.take (i + 1)).filter (fun e => decide (e.ver > fr) && underB e.path path) by rw [hstep, e1]; simp)
            clear hstep
            go_wp2
            go_roundw
            case rel => exact ⟨i + 1, A6, c6, T, by go_num, hlt, rfl, by omega, hown, hbr, hs2⟩
            case measure => simp [intOf]; omega
        · have hTW := Lib.hid (show W = T by rw [HT.out, List.take_of_length_le (by omega)]; exact HFF.out.symm)
          have hdec := Lib.hid (show decide (W = T) = true by simpa using hTW.out)
          have hO4 := HO45.out.below hbr
          go_wp2_with (go_at_call 23; refine Calls.mono (same_any _ _ _ _ _ _ W T _ hO4.row'.2.1 hown.row'.2.1 (by omega)) ?_; rintro e w6 ⟨rfl, hb6⟩; rw [hdec.out])
          go_ret
          exact ⟨rfl, HW5.out.trans ((hbr.trans (hb6.mono hbr.size)).mono HW5.out.size)⟩
    · have EP := Lib.hid ep
      have HP := Lib.hid hp
      clear ep hp
      go_wp2_with (first
        | (go_at_call 21; rw [FROM.out, MOST.out]; refine (pieces_bad pb gh (hubOf first ps d) _ m path _ hmq hcq hkq HP.out ⟨hm6, hm7⟩).mono ?_; rintro e w4 ⟨A4, c4, rfl, hown4, hb4⟩
           have hm4 := hmq.below hb4; have hk4 := hkq.below hb4; have hc4 := (hb4.cell (p := ⟨pb, 0, none⟩) hpblt).trans c0; have HB4 := Lib.hid hb4; clear hown4 hb4)
        | (go_at_call 24; refine (path_any _ _ hm4).mono ?_; rintro e w5 ⟨rfl, hb5⟩; rw [EP.out]; have hm5 := hm4.below hb5; have hk5 := hk4.below hb5; have hc5 := (hb5.cell (p := ⟨pb, 0, none⟩) (Nat.lt_of_lt_of_le hpblt HB4.out.size)).trans hc4; have HB5 := Lib.hid hb5; clear hb5))
      have hs41 : hubSince (hubOf first ps d) (first + v0) path m = ([], 0, 41) := by unfold hubSince; rw [if_neg (by omega), if_pos HP.out]
      have hsc := since_any gh (hubOf first ps d) (first + v0) m path w5 hm5 hk5
      rw [hs41] at hsc
      refine hsc.mono ?_
      rintro e w6 ⟨A6, c6, rfl, _, hb6⟩
      have hfin := hw2.trans (((below_drewN (Below.refl w2.heap.size w2) nq).trans (HB4.out.trans ((HB5.out.trans (hb6.mono HB5.out.size)).mono HB4.out.size))).mono hw2.size)
      clear hb6 hs41 hsc
      go_wp2
      go_ret
      exact ⟨rfl, hfin⟩
end Go.Proofs.YtdchffghgajbfaaDoor
