/- WatchKeeps: the walk. -/
import Derived.Test.YtdchffghgajbfaaDoorW1
namespace Go.Proofs.YtdchffghgajbfaaDoor
open Go.RowKit

theorem rightE_path {e : Ev} (h : rightE e = true) : isPath e.path = true := by
  unfold rightE at h
  simp only [Bool.and_eq_true] at h
  exact h.1.2
theorem root_path : isPath ⟨#[47]⟩ = true := by kernel_rfl
theorem under_root {p : ByteArray} (h : isPath p = true) : underB p ⟨#[47]⟩ = true := by
  unfold underB
  rw [h, root_path]; simp
theorem inP_root {ls : List (List Ev)} (h : ∀ l ∈ ls, ∀ e ∈ l, rightE e = true) : ls.flatMap (inP ⟨#[47]⟩) = ls.flatten := by
  rw [List.flatMap_def]
  congr 1
  rw [show ls = ls.map id by simp]
  rw [List.map_map]
  refine List.map_congr_left fun l hl => ?_
  simp only [Function.comp, id]
  exact List.filter_eq_self.2 fun e he => under_root (rightE_path (h l hl e he))
theorem mem_drop_right {ps : List (List Ev)} (d : Nat) (h : ∀ l ∈ ps, ∀ e ∈ l, rightE e = true) : ∀ l ∈ ps.drop d, ∀ e ∈ l, rightE e = true := fun l hl => h l (List.mem_of_mem_drop hl)
/-- the events above low -/
theorem above_low {first : Int} {ps : List (List Ev)} {d : Nat} (hh : HistOk first ps d) (hr : ∀ l ∈ ps, ∀ e ∈ l, rightE e = true) : ps.flatten.filter (fun e => decide (e.ver > first + d)) = (ps.drop d).flatten := by
  have := filter_flat hh d hh.dle ⟨#[47]⟩
  rw [inP_root (mem_drop_right d hr)] at this
  rw [← this]
  refine List.filter_congr fun e he => ?_
  obtain ⟨l, hl, he⟩ := List.mem_flatten.1 he
  rw [under_root (rightE_path (hr l hl e he))]; simp
theorem flatten_sum (ls : List (List Ev)) : ls.flatten.length = sumL ls := by simp [sumL, List.length_flatten]
/-- the events of the version low -/
theorem of_low {first : Int} {ps : List (List Ev)} {d : Nat} (hh : HistOk first ps d) : (ps.flatten.filter (fun e => decide (e.ver = first + d))).length = if d = 0 then 0 else (ps.getD (d - 1) []).length := by
  have key : ∀ (qs : List (List Ev)) (k : Nat), (∀ i (h : i < qs.length), ∀ e ∈ qs[i], e.ver = first + 1 + k + i) → (qs.flatten.filter (fun e => decide (e.ver = first + d))).length = if d ≤ k then 0 else (qs.getD (d - k - 1) []).length := by
    intro qs
    induction qs with
    | nil => intro k _; simp
    | cons q qs ih =>
      intro k hk
      rw [List.flatten_cons, List.filter_append, List.length_append]
      have h2 := ih (k + 1) fun i hi e he => by
        have := hk (i + 1) (by simp; omega) e (by simpa using he)
        omega
      rw [h2]
      have h0 := hk 0 (by simp)
      simp only [List.getElem_cons_zero] at h0
      by_cases hd : d = k + 1
      · have : q.filter (fun e => decide (e.ver = first + d)) = q := List.filter_eq_self.2 fun e he => by have := h0 e he; simp; omega
        rw [this, if_pos (by omega), if_neg (by omega), show d - k - 1 = 0 by omega]
        simp
      · have : q.filter (fun e => decide (e.ver = first + d)) = [] := List.filter_eq_nil_iff.2 fun e he => by have := h0 e he; simp; omega
        rw [this]
        by_cases hle : d ≤ k
        · rw [if_pos (by omega), if_pos hle]; simp
        · rw [if_neg (by omega), if_neg hle, show d - k - 1 = (d - (k + 1) - 1) + 1 by omega, List.getD_cons_succ]; simp
  have := key ps 0 fun i hi e he => by have := hh.ver i hi e he; omega
  rw [this]
  by_cases hd : d = 0
  · rw [if_pos (by omega), if_pos hd]
  · rw [if_neg (by omega), if_neg hd]; simp
theorem too_many {first : Int} {ps : List (List Ev)} {d : Nat} (hh : HistOk first ps d) (hd : 0 < d) : 128 < (ps.drop d).flatten.length + (ps.getD (d - 1) []).length := by
  have h1 := hh.tight (d - 1) (by omega)
  have hlt : d - 1 < ps.length := by have := hh.dle; omega
  rw [List.drop_eq_getElem_cons hlt, sumL_cons, show d - 1 + 1 = d by omega] at h1
  have : ps.getD (d - 1) [] = ps[d - 1] := by simp [List.getD, hlt]
  rw [flatten_sum, this]
  omega
theorem filter_take1 {p : Ev → Bool} {l : List Ev} {i : Nat} (h : i < l.length) (b : Bool) (hb : p l[i] = b) : ((l.take (i + 1)).filter p).length = ((l.take i).filter p).length + (if b then 1 else 0) := by
  rw [filter_take h, List.length_append, hb]; cases b <;> simp

set_option maxRecDepth 100000 in
set_option maxHeartbeats 1000000 in
theorem watchKeeps_walk (v : Int) (A : Option Addr) (c : Nat) (P : Nat → Prop) (xs : List (List Ev)) (w : World) (he : Env w) (hr : Row (Kn.slice kEvent) P w A xs) (hv : -9223372036854775808 ≤ v ∧ v ≤ 9223372036854775807) (hxl : xs.length ≤ 9223372036854775807) :
    Calls Tryd.prog 4 #[.int .i64 v, .slice A xs.length c] w fun e w' => e = .returned (.bool true) ∧ Below w.heap.size w w' := by
  go_enter Tryd.func4, Tryd.ntmps4
  go_wp2_with (first
    | (go_at_call 14; refine (known_any w he.ml).mono ?_; rintro e w1 ⟨rfl, hb1⟩; have HB1 := Lib.hid hb1; clear hb1)
    | (go_at_call 18; refine (pushed_walk v A c P xs w1 (he.below HB1.out) (hr.below HB1.out) hv hxl).mono ?_; rintro e w2 (⟨rfl, hb2⟩ | ⟨pb, gh, ps, d, F, vL, rfl, hok⟩)))
  · go_ret
    exact ⟨rfl, HB1.out.trans (hb2.mono HB1.out.size)⟩
  · obtain ⟨hI, hH, hfew, hsmall, hfar, hright⟩ := hok
    have hw2 := HB1.out.trans (hI.bel.mono HB1.out.size)
    have he2 := he.below hw2
    obtain ⟨first, hfirst⟩ : ∃ first, max v 0 = first := ⟨_, rfl⟩
    rw [hfirst] at hI hH hfar
    have hf0 := hH.f0
    have hdle := hH.dle
    have hk := hI.hub
    obtain ⟨low, hlow⟩ : ∃ low : Int, first + (d : Int) = low := ⟨_, rfl⟩
    obtain ⟨high, hhigh⟩ : ∃ high : Int, first + (ps.length : Int) = high := ⟨_, rfl⟩
    have hlen := flatten_len hsmall
    obtain ⟨L, hL⟩ : ∃ L, ps.flatten = L := ⟨_, rfl⟩
    obtain ⟨W, hW⟩ : ∃ W, (ps.drop d).flatten = W := ⟨_, rfl⟩
    have habove := above_low hH hright
    have hofl := of_low hH
    have htoo := fun h => too_many hH h
    have hWl : W.length ≤ 128 := by rw [← hW, flatten_sum]; exact hH.fit
    rw [hL, hlow, hW] at habove
    rw [hL, hlow] at hofl
    rw [hL] at hI hlen
    rw [hW] at htoo
    have LOW := Lib.hid (show (hubOf first ps d).low = low from hlow)
    have HIGH := Lib.hid (show (hubOf first ps d).high = high from hhigh)
    have DLOW := Lib.hid hlow
    have DHIGH := Lib.hid hhigh
    have hn : low ≤ high ∧ first ≤ low ∧ 0 ≤ low ∧ high ≤ 576460752303423488 + 400 := by omega
    obtain ⟨hn1, hn2, hn3, hn4⟩ := hn
    obtain ⟨c0, c1, c2, fz⟩ := pdAt hI.blk
    have hpc : ∀ w, Ml w → w.cell? ⟨pb, 0, none⟩ = some (.pointer (some ⟨gh, 0, none⟩)) → IsHub F w gh (hubOf first ps d) → Calls Tryd.prog 21 #[.pointer (some ⟨pb, 0, none⟩), .int .i64 low, .string ⟨#[47]⟩, .int .i64 100] w (PiecesPost W true w) := fun w h1 h2 h3 => by
      have := pieces_ok pb gh first ps d d 100 ⟨#[47]⟩ w h1 h2 h3 hH root_path (by omega) (Nat.le_refl _) hdle
      rw [inP_root (mem_drop_right d hright), hW, hlow] at this
      exact this
    have hs1 : ∀ w, Ml w → IsHub F w gh (hubOf first ps d) → Calls Tryd.prog 22 #[.pointer (some ⟨gh, 0, none⟩), .int .i64 (low - 1), .string ⟨#[47]⟩, .int .i64 1] w (SincePost ([], 0, 220) w) := fun w h1 h2 => by
      have := since_any gh (hubOf first ps d) (low - 1) 1 ⟨#[47]⟩ w h1 h2
      rwa [show hubSince (hubOf first ps d) (low - 1) ⟨#[47]⟩ 1 = ([], 0, 220) by unfold hubSince; rw [if_neg (by omega), if_neg (by rw [root_path]; simp), if_pos (by rw [LOW.out]; omega)]] at this
    have hs2 : ∀ w, Ml w → IsHub F w gh (hubOf first ps d) → Calls Tryd.prog 22 #[.pointer (some ⟨gh, 0, none⟩), .int .i64 (high + 1), .string ⟨#[47]⟩, .int .i64 1] w (SincePost ([], 0, 221) w) := fun w h1 h2 => by
      have := since_any gh (hubOf first ps d) (high + 1) 1 ⟨#[47]⟩ w h1 h2
      rwa [show hubSince (hubOf first ps d) (high + 1) ⟨#[47]⟩ 1 = ([], 0, 221) by unfold hubSince; rw [if_neg (by omega), if_neg (by rw [root_path]; simp), if_neg (by rw [LOW.out]; omega), if_pos (by rw [HIGH.out]; omega)]] at this
    have HPC := Lib.hid hpc
    have HS1 := Lib.hid hs1
    have HS2 := Lib.hid hs2
    have HAB := Lib.hid habove
    have HOF := Lib.hid hofl
    have HTOO := Lib.hid htoo
    have HI := Lib.hid hI
    have HH := Lib.hid hH
    have hlt := hI.lt
    clear hI hH hfirst hlow hhigh hL hW habove hofl htoo hpc hs1 hs2
    go_wp2
    go_quiet (first
      | exact IsHub.low_q hk LOW.out _
      | exact IsHub.high_q hk HIGH.out _)
    have hb0 := below_drewN (Below.refl w2.heap.size w2) nq
    obtain ⟨W0, hW0⟩ : ∃ W0, w2.drewN nq = W0 := ⟨_, rfl⟩
    have c00 : W0.cell? ⟨pb, 0, none⟩ = some (.pointer (some ⟨gh, 0, none⟩)) := by rw [← hW0]; exact c0
    have c01 : W0.cell? ⟨pb, 1, none⟩ = some (.int .i64 first) := by rw [← hW0]; exact c1
    have c02 : W0.cell? ⟨pb, 2, none⟩ = some vL := by rw [← hW0]; exact c2
    rw [hW0] at hb0 ⊢
    have hk0 := hk.below hb0
    have hm0 := he2.ml.below hb0
    have hw0 := hw2.trans (hb0.mono (by have := hw2.size; omega))
    have hown0 := HI.out.own.below hb0
    have hlt0 : pb < W0.heap.size := Nat.lt_of_lt_of_le hlt hb0.size
    obtain ⟨AL, cL, hvL, _⟩ := HI.out.own.row
    subst hvL
    have hRL := hown0.row'.2.1
    have HW0 := Lib.hid hw0
    have hLl : L.length ≤ 51200 := by omega
    clear hW0 hb0 c0 c1 c2 fz hk hw0 hown0
    go_wp2
    go_loopw [9, 10, 11] (fun wv bv iv wr => ∃ (i n : Nat) (A6 : Option Addr) (c6 : Nat) (T : List Ev), iv = .int .i64 i ∧ bv = .int .i64 n ∧ i ≤ L.length ∧ n ≤ i ∧ wv = .slice A6 T.length c6 ∧ T.length ≤ i ∧ Own kEvent 41 W0.heap.size (fun _ => True) wr (.slice A6 T.length c6) T ∧ Below W0.heap.size W0 wr ∧
      Hid (T = (L.take i).filter (fun e => decide (e.ver > low))) ∧ Hid (n = ((L.take i).filter (fun e => decide (e.ver = low))).length)) (fun _ _ iv _ => L.length - (intOf iv).toNat)
    case atStart => exact ⟨0, 0, none, 0, [], rfl, rfl, Nat.zero_le _, Nat.le_refl _, rfl, Nat.le_refl _, Own.nil _ _ _ _ _, Below.refl _ _, by simp [Hid], by simp [Hid]⟩
    case round =>
      obtain ⟨i, n, A6, c6, T, rfl, rfl, hi, hni, rfl, hTi, hown, hbr, HT, HN⟩ := hrel
      have d0 := (hbr.cell (p := ⟨pb, 0, none⟩) hlt0).trans c00
      have d1 := (hbr.cell (p := ⟨pb, 1, none⟩) hlt0).trans c01
      have d2 := (hbr.cell (p := ⟨pb, 2, none⟩) hlt0).trans c02
      by_cases hiL : i < L.length
      · obtain ⟨a, rfl, _, l0, l1, l2, l3, l4⟩ := ev_at (hRL.below hbr) i hiL
        obtain ⟨x, hx⟩ : ∃ x, L[i] = x := ⟨_, rfl⟩
        rw [hx] at l0 l1 l2 l3 l4
        have hstep := filter_take (p := fun e => decide (e.ver > low)) hiL
        rw [hx, ← HT.out] at hstep
        have hcnt := filter_take1 (p := fun e => decide (e.ver = low)) hiL (decide (x.ver = low)) (by rw [hx])
        rw [← HN.out] at hcnt
        have HX := Lib.hid hx
        clear hx
        have h56 : (T.length + 1) * 56 ≤ 140737488355328 := by omega
        by_cases hgt : x.ver > low
        · have e1 : decide (x.ver > low) = true := by simpa using hgt
          have e2 : (x.ver == low) = false := by simp; omega
          have hs2 := Lib.hid (show T ++ [x] = (L.take (i + 1)).filter (fun e => decide (e.ver > low)) by rw [hstep, e1]; simp)
          have hn2 := Lib.hid (show n = ((L.take (i + 1)).filter (fun e => decide (e.ver = low))).length by rw [hcnt, decide_eq_false (by omega)]; simp)
          clear hstep hcnt
          go_wp2_with (at_builtin; refine wpList_app_plain evElem kEvent_plain W0.heap.size rfl (.tmp 59) (.tmp 67) rfl (v := .slice A6 T.length c6) (xs := T) (ys := [x]) rfl (hown.alloc _) rfl rfl (Row.newOnePlain (cs := Ev.cells x) kEvent_plain rfl) (by simpa using h56) (by have := hbr.size; simp; omega) ?_; intro A7 c7 w7 happ
                       have hb7 := happ.below (hbr.alloc hbr.size _) (by have := hbr.size; simp; omega) (fun q hq => (hown.block_lt q hq).1)
                       have p0 := (hb7.cell (p := ⟨pb, 2, none⟩) hlt0).trans c02
                       obtain ⟨a', ha', _, m0, _, _, _, _⟩ := ev_at (hRL.below hb7) i hiL
                       obtain rfl := Option.some.inj ha'
                       rw [HX.out] at m0
                       have HA7 := Lib.hid happ; have HB7 := Lib.hid hb7; clear happ hb7 ha')
          go_roundw
          case rel => exact ⟨i + 1, n, A7, c7, T ++ [x], by go_num, rfl, hiL, by omega, by simp, by simp; omega, by simpa using HA7.out.own, HB7.out, hs2, hn2⟩
          case measure => simp [intOf]; omega
        · have e1 : decide (x.ver > low) = false := by simpa using hgt
          have hs2 := Lib.hid (show T = (L.take (i + 1)).filter (fun e => decide (e.ver > low)) by rw [hstep, e1]; simp)
          by_cases heq : x.ver = low
          · have e2 : (x.ver == low) = true := by simpa using heq
            have hn2 := Lib.hid (show n + 1 = ((L.take (i + 1)).filter (fun e => decide (e.ver = low))).length by rw [hcnt, decide_eq_true heq]; simp)
            clear hstep hcnt heq
            go_wp2
            go_roundw
            case rel => exact ⟨i + 1, n + 1, A6, c6, T, by go_num, by go_num, hiL, by omega, rfl, by omega, hown, hbr, hs2, hn2⟩
            case measure => simp [intOf]; omega
          · have e2 : (x.ver == low) = false := by simpa using heq
            have hn2 := Lib.hid (show n = ((L.take (i + 1)).filter (fun e => decide (e.ver = low))).length by rw [hcnt, decide_eq_false heq]; simp)
            clear hstep hcnt heq
            go_wp2
            go_roundw
            case rel => exact ⟨i + 1, n, A6, c6, T, by go_num, rfl, hiL, by omega, rfl, by omega, hown, hbr, hs2, hn2⟩
            case measure => simp [intOf]; omega
      · have hTW := Lib.hid (show W = T by rw [HT.out, List.take_of_length_le (by omega)]; exact HAB.out.symm)
        have hTl : T.length ≤ 128 := by rw [← hTW.out]; exact hWl
        have hnn : n = if d = 0 then 0 else (ps.getD (d - 1) []).length := by rw [HN.out, List.take_of_length_le (by omega)]; exact HOF.out
        have hdec := Lib.hid (show decide (W = T) = true by simpa using hTW.out)
        have hmr := hm0.below hbr
        have hkr := hk0.below hbr
        have e1 : decide (low > high) = false := by simp; omega
        have e2 : decide (low < first) = false := by simp; omega
        have e3 : decide ((T.length : Int) > 128) = false := by simp; omega
        by_cases hd : d = 0
        · have e4 : decide (low > first) = false := by have := DLOW.out; simp; omega
          clear hnn hd
          go_wp2_with (first
            | (go_at_call 21; refine (HPC.out _ hmr d0 hkr).mono ?_; rintro e w4 ⟨A4, c4, rfl, hown4, hb4⟩
               have hm4 := hmr.below hb4; have hk4 := hkr.below hb4; have f0 := (hb4.cell (World.block_lt_of_cell? _ _ d0)).trans d0; have HB4 := Lib.hid hb4; have HO4 := Lib.hid hown4; clear hown4 hb4)
            | (go_at_call 22; have t0 := f0; clear f0; refine (HS1.out _ hm4 hk4).mono ?_; rintro e w5 ⟨A5, c5, rfl, _, hb5⟩
               have hm5 := hm4.below hb5; have hk5 := hk4.below hb5; have g0 := (hb5.cell (World.block_lt_of_cell? _ _ t0)).trans t0; have HB5 := Lib.hid hb5; clear hb5 t0)
            | (go_at_call 22; have t0 := g0; clear g0; refine (HS2.out _ hm5 hk5).mono ?_; rintro e w6 ⟨A6', c6', rfl, _, hb6⟩
               have HB6 := Lib.hid hb6; clear hb6 t0)
            | (go_at_call 23; refine Calls.mono (same_any _ _ _ _ _ _ W T _ (((HO4.out.below HB5.out).below HB6.out).row'.2.1) ((((hown.below HB4.out).below HB5.out).below HB6.out).row'.2.1) (by omega)) ?_; rintro e w7 ⟨rfl, hb7⟩; rw [hdec.out]; have HB7 := Lib.hid hb7; clear hb7))
          go_ret
          exact ⟨rfl, HW0.out.trans ((hbr.trans ((HB4.out.trans ((HB5.out.trans ((HB6.out.trans (HB7.out.mono HB6.out.size)).mono HB5.out.size)).mono HB4.out.size)).mono hbr.size)).mono HW0.out.size)⟩
        · have e4 : decide (low > first) = true := by have := DLOW.out; simp; omega
          have hbig := HTOO.out (by omega)
          rw [hTW.out] at hbig
          rw [if_neg hd] at hnn
          have e5 : decide ((T.length : Int) + n ≤ 128) = false := by simp; omega
          clear hnn hd hbig
          go_wp2_with (first
            | (go_at_call 21; refine (HPC.out _ hmr d0 hkr).mono ?_; rintro e w4 ⟨A4, c4, rfl, hown4, hb4⟩
               have hm4 := hmr.below hb4; have hk4 := hkr.below hb4; have f0 := (hb4.cell (World.block_lt_of_cell? _ _ d0)).trans d0; have HB4 := Lib.hid hb4; have HO4 := Lib.hid hown4; clear hown4 hb4)
            | (go_at_call 22; have t0 := f0; clear f0; refine (HS1.out _ hm4 hk4).mono ?_; rintro e w5 ⟨A5, c5, rfl, _, hb5⟩
               have hm5 := hm4.below hb5; have hk5 := hk4.below hb5; have g0 := (hb5.cell (World.block_lt_of_cell? _ _ t0)).trans t0; have HB5 := Lib.hid hb5; clear hb5 t0)
            | (go_at_call 22; have t0 := g0; clear g0; refine (HS2.out _ hm5 hk5).mono ?_; rintro e w6 ⟨A6', c6', rfl, _, hb6⟩
               have HB6 := Lib.hid hb6; clear hb6 t0)
            | (go_at_call 23; refine Calls.mono (same_any _ _ _ _ _ _ W T _ (((HO4.out.below HB5.out).below HB6.out).row'.2.1) ((((hown.below HB4.out).below HB5.out).below HB6.out).row'.2.1) (by omega)) ?_; rintro e w7 ⟨rfl, hb7⟩; rw [hdec.out]; have HB7 := Lib.hid hb7; clear hb7))
          go_ret
          exact ⟨rfl, HW0.out.trans ((hbr.trans ((HB4.out.trans ((HB5.out.trans ((HB6.out.trans (HB7.out.mono HB6.out.size)).mono HB5.out.size)).mono HB4.out.size)).mono hbr.size)).mono HW0.out.size)⟩
end Go.Proofs.YtdchffghgajbfaaDoor
