/- (*Hub).Since: the loop. -/
import Derived.Test.YtdchffghgajbfaaDoorH2
namespace Go.Proofs.YtdchffghgajbfaaDoor
open Go.RowKit

abbrev inB (path : ByteArray) (l : List Ev) : List Ev := l.filter fun x => underB x.path path
theorem inB_out (path : ByteArray) (l : List Ev) : (l.filter fun x => !evOut path x) = inB path l := by
  unfold inB evOut; congr 1; funext x; simp
theorem sinceL_nil (high most : Int) (path : ByteArray) (told : List Ev) : sinceL high most path told [] = (told, high, 0) := rfl
theorem sinceL_stop {high most : Int} {path : ByteArray} {told l : List Ev} {ls : List (List Ev)} (h1 : 0 < told.length) (h2 : 0 < (inB path l).length) (h3 : most < ((told.length : Int) + (inB path l).length)) :
    sinceL high most path told (l :: ls) = (told, (told[told.length - 1]'(by omega)).ver, 0) := by
  rw [sinceL, if_pos ⟨h1, h2, by show most < ((told.length + (inB path l).length : Nat) : Int); omega⟩]
  rw [List.getLast?_eq_getElem?, List.getElem?_eq_getElem (by omega)]; rfl
theorem sinceL_next {high most : Int} {path : ByteArray} {told l : List Ev} {ls : List (List Ev)} (h : ¬ (0 < told.length ∧ 0 < (inB path l).length ∧ most < ((told.length : Int) + (inB path l).length))) :
    sinceL high most path told (l :: ls) = sinceL high most path (told ++ inB path l) ls := by
  rw [sinceL, if_neg]
  rintro ⟨h1, h2, h3⟩
  refine h ⟨h1, h2, ?_⟩
  have : most < ((told.length + (inB path l).length : Nat) : Int) := h3
  omega
def sumLen (ls : List (List Ev)) : Nat := (ls.map List.length).sum
theorem sumLen_cons (l : List Ev) (ls : List (List Ev)) : sumLen (l :: ls) = l.length + sumLen ls := by simp [sumLen]
theorem sumLen_drop (ls : List (List Ev)) (k : Nat) : sumLen (ls.drop k) ≤ sumLen ls := by
  induction k generalizing ls with
  | zero => simp
  | succ k ih =>
    cases ls with
    | nil => simp
    | cons l ls => rw [List.drop_succ_cons, sumLen_cons]; have := ih ls; omega

theorem row_slice_at {P : Nat → Prop} {w : World} {A : Option Addr} {xs : List (List Ev)} (h : Row (Kn.slice kEvent) P w A xs) (i : Nat) (hi : i < xs.length) :
    ∃ a B c, A = some a ∧ w.cell? (a.add i) = some (.slice B xs[i].length c) ∧ xs[i].length ≤ c ∧ c ≤ maxLen ∧ Row kEvent P w B xs[i] := by
  obtain ⟨a, cs, hA, _, ⟨v, rfl, B, c, rfl, h1, h2, h3⟩, hc⟩ := h.at_ i hi
  refine ⟨a, B, c, hA, ?_, h1, h2, h3⟩
  have := hc 0 _ rfl
  simpa [Kn.slice] using this

/-- what a round's two calls leave -/
structure SinceMid (B : Nat) (w w4 : World) (v : Value) (td : List Ev) (A4 : Option Addr) (inn : List Ev) : Prop where
  bel : Below w.heap.size w w4
  told : Own kEvent 41 B (fun _ => True) w4 v td
  row : Row kEvent (fun _ => True) w4 A4 inn
theorem since_mid {B : Nat} {w w2 w4 : World} {v v2 : Value} {td l inn : List Ev} {A4 : Option Addr} {c4 : Nat} (h1 : Own kEvent 41 B (fun _ => True) w v td) (h2 : Own kEvent 41 w.heap.size (fun _ => True) w2 v2 l) (hb : Below w.heap.size w w2)
    (ht : Turn (fun k => v2.ownBlock = some k) w2 w4) (h4 : Own kEvent 41 0 (fun _ => True) w4 (.slice A4 inn.length c4) inn) : SinceMid B w w4 v td A4 inn := by
  have hb4 : Below w.heap.size w w4 := hb.trans (ht.below hb.size fun k hk => (h2.block_lt k hk).1)
  exact ⟨hb4, h1.below hb4, h4.row'.2.1⟩

set_option maxRecDepth 100000 in
set_option maxHeartbeats 1000000 in
theorem since_main {F : Nat → Prop} (g : Nat) (h : HubS) (v most : Int) (path : ByteArray) (w : World) (hm : Ml w) (k : IsHub F w g h) (hmost : ¬ (most < 1 ∨ most > 100)) (hp : isPath path = true) (h1 : h.low ≤ v) (h2 : v ≤ h.high) :
    Calls Tryd.prog 22 #[.pointer (some ⟨g, 0, none⟩), .int .i64 v, .string path, .int .i64 most] w (SincePost (hubSince h v path most) w) := by
  have hb0 := (Below.refl w.heap.size w).alloc (Nat.le_refl _) (.cells #[.string path] 9)
  have hm1 := hm.below hb0
  have hok := k.2.1
  have hlen := hok.len
  have hlo := hok.lo
  have hhi := hok.hi
  have hvl := hok.vlen
  obtain ⟨n, hn⟩ : ∃ n : Nat, v = h.low + n := ⟨(v - h.low).toNat, by omega⟩
  have hcs : ∀ w1, Below (w.alloc (.cells #[.string path] 9)).heap.size (w.alloc (.cells #[.string path] 9)) w1 → ∃ A c, HubAt w1 g h (.slice A h.vs.length c) ∧ h.vs.length ≤ c ∧ c ≤ maxLen ∧ Row (Kn.slice kEvent) (fun b => b < w.heap.size) w1 A h.vs := fun w1 hb1 => by
    obtain ⟨_, _, vv, hg, hq⟩ := (k.bound.below hb0).below hb1
    obtain ⟨A, c, rfl, e1, e2, e3⟩ := hq.row
    exact ⟨A, c, hubAt hg, e1, e2, e3.mono fun b hb => hb.elim (fun h => h.1.2) (fun h => ((hq.lt b h).1).2)⟩
  have hres : hubSince h v path most = sinceL h.high most path [] (h.vs.drop n) := by
    unfold hubSince
    rw [if_neg hmost, if_neg (by rw [hp]; simp), if_neg (by omega), if_neg (by omega), hn]
    congr 2; omega
  have hsum : sumLen h.vs ≤ 128 := by have := hok.cnt; have := hok.le; unfold sumLen; omega
  rw [hres]
  have HCS := Lib.hid hcs
  have HB0 := Lib.hid hb0
  have HP := Lib.hid (show errPath path = 0 by unfold errPath; rw [hp]; rfl)
  have HN := Lib.hid hn
  have HSUM := Lib.hid hsum
  have e1 : decide (most < 1) = false := by simp; omega
  have e2 : decide (most > 100) = false := by simp; omega
  have e3 : decide (v < h.low) = false := by simp; omega
  have e4 : decide (v > h.high) = false := by simp; omega
  clear hb0 hcs hp hn hres hsum hlen
  have hnl : n ≤ h.vs.length := by have := HN.out; have := hok.len; omega
  have hwr : IntKind.i64.wrap (v - h.low) = (n : Int) := by rw [IntKind.wrap_i64]; have := HN.out; omega
  go_enter Tryd.func22, Tryd.ntmps22
  go_wp2_with (go_at_call 24; refine (path_any _ _ hm1).mono ?_; rintro e w1 ⟨rfl, hb1⟩; rw [HP.out]; have HB1 := Lib.hid hb1; obtain ⟨bc, bf⟩ := bcell hb1; obtain ⟨A, c, ⟨c0, c1, c2, c3, _⟩, hvc, hcm, hrow⟩ := HCS.out _ hb1; have HROW := Lib.hid hrow; clear hrow; obtain ⟨A2, hA2⟩ : ∃ A2, (if c = n then A else A.map (·.add (n * (Kn.slice kEvent).sz))) = A2 := ⟨_, rfl⟩; have hcut := run_cut_from versElem A h.vs.length c n hnl; rw [hA2] at hcut; have HA2 := Lib.hid hA2; clear hA2)
  go_quiet (fail)
  go_wp2
  have hmq : Ml (w1.drewN nq) := hm1.below (below_drewN HB1.out nq)
  have hpq : (w1.drewN nq).cell? ⟨w.heap.size, 0, none⟩ = some (.string path) :=
    (HB1.out.cell (p := ⟨w.heap.size, 0, none⟩) (by simp)).trans ((cell_of_row _ _ _ _ _ _ (heap_alloc_new w _)).trans rfl)
  have hrow2 : Row (Kn.slice kEvent) (fun b => b < w.heap.size) (w1.drewN nq) A2 (h.vs.drop n) := by
    have := HROW.out.drop n c hvc
    rw [HA2.out] at this
    exact this
  have hll : (h.vs.drop n).length = h.vs.length - n := by simp
  have hsm : sumLen (h.vs.drop n) ≤ 128 := Nat.le_trans (sumLen_drop _ _) HSUM.out
  have hszq : w.heap.size + 1 ≤ (w1.drewN nq).heap.size := by have := HB1.out.size; simpa using this
  have hbase := Lib.hid ((HB0.out.trans (HB1.out.mono (by simp))).trans (below_drewN (Below.refl w.heap.size w1) nq))
  have hfin := Lib.hid (fun (l : List Ev) (n m : Int) (hr : sinceL h.high most path [] (h.vs.drop n.toNat) = (l, n, m)) => hr)
  clear hfin hcut hwr hm1 HROW HCS HB0 HB1 HP HN HSUM HA2 bc bf c0 c3
  obtain ⟨W0, hW0⟩ : ∃ W0, w1.drewN nq = W0 := ⟨_, rfl⟩
  have d1 : W0.cell? ⟨g, 1, none⟩ = some (.int .i64 h.high) := by rw [← hW0]; exact c1
  rw [hW0] at hmq hpq hrow2 hszq hbase ⊢
  have hglt : g < w.heap.size := k.bound.1.2
  clear hW0 c1 c2 e1 e2 e3 e4
  generalize h.vs.drop n = ls at *
  have HLL := Lib.hid hll
  clear hll
  go_loopw [11, 52] (fun tv i wr => ∃ (k c3 : Nat) (A3 : Option Addr) (td : List Ev), i = .int .i64 k ∧ tv = .slice A3 td.length c3 ∧ k ≤ ls.length ∧ Own kEvent 41 (w.heap.size + 1) (fun _ => True) wr (.slice A3 td.length c3) td ∧ Below (w.heap.size + 1) W0 wr ∧
    td.length + sumLen (ls.drop k) ≤ 128 ∧ Hid (sinceL h.high most path td (ls.drop k) = sinceL h.high most path [] ls)) (fun _ i _ => ls.length - (intOf i).toNat)
  case atStart => exact ⟨0, 0, none, [], rfl, rfl, Nat.zero_le _, Own.nil _ _ _ _ _, Below.refl _ _, by simpa using hsm, rfl⟩
  case round =>
    obtain ⟨k, c3, A3, td, rfl, rfl, hk, hown, hbr, hsum, HR⟩ := hrel
    have hsz := hbr.size
    by_cases hlt : k < ls.length
    · obtain ⟨a, B, cb, rfl, hcell, hbc, hbm, hrk⟩ := row_slice_at (hrow2.keep (w' := wr) fun b hb _ => hbr.block b (by omega)) k hlt
      have hmlt := hm.low
      have hmr : Ml wr := hmq.belowB hbr (by omega)
      have hpr : wr.cell? ⟨w.heap.size, 0, none⟩ = some (.string path) := (hbr.cell (p := ⟨w.heap.size, 0, none⟩) (by simp)).trans hpq
      have hdrop : ls.drop k = ls[k] :: ls.drop (k + 1) := List.drop_eq_getElem_cons hlt
      have hsum2 : td.length + (inB path ls[k]).length + sumLen (ls.drop (k + 1)) ≤ 128 ∧ ls[k].length ≤ 128 := by
        rw [hdrop, sumLen_cons] at hsum
        have : (inB path ls[k]).length ≤ ls[k].length := List.length_filter_le _ _
        omega
      have hstop : ∀ (h1 : 0 < td.length) (h2 : 0 < (inB path ls[k]).length) (h3 : most < ((td.length : Int) + (inB path ls[k]).length)), sinceL h.high most path [] ls = (td, (td[td.length - 1]'(by omega)).ver, 0) := fun h1 h2 h3 => by
        rw [← HR.out, hdrop]; exact sinceL_stop h1 h2 h3
      have hnext : ∀ (hh : ¬ (0 < td.length ∧ 0 < (inB path ls[k]).length ∧ most < ((td.length : Int) + (inB path ls[k]).length))), sinceL h.high most path (td ++ inB path ls[k]) (ls.drop (k + 1)) = sinceL h.high most path [] ls := fun hh => by
        rw [← HR.out, hdrop]; exact (sinceL_next hh).symm
      have hdel : ∀ (W : World) (v : Value), Ml W → W.cell? ⟨w.heap.size, 0, none⟩ = some (.string path) → Own kEvent 41 wr.heap.size (fun _ => True) W v ls[k] → v.ownBlock ≠ some w.heap.size → v.ownBlock ≠ some 2 →
          Calls Tryd.prog 60 #[v, .func (.func 62) #[] #[.pointer (some ⟨w.heap.size, 0, none⟩)]] W (DelEv W v (inB path ls[k])) := fun W v h1 h2 h3 h4 h5 => by
        have := evDeleteFunc_any wr.heap.size (fun _ => True) v w.heap.size ls[k] path W h1 h2 h3 h4 h5
        rwa [inB_out] at this
      have hl128 := hsum2.2
      generalize inB path ls[k] = inn at *
      have HSTOP := Lib.hid hstop
      have HNEXT := Lib.hid hnext
      have HDEL := Lib.hid hdel
      have HSUM2 := Lib.hid hsum2.1
      have h56 : (td.length + inn.length) * 56 ≤ 140737488355328 := by have := hsum2.1; omega
      clear hstop hnext hdel hdrop hsum hsum2
      have hlt' : (k : Int) < ((h.vs.length - n : Nat) : Int) := by rw [← HLL.out]; omega
      by_cases t1 : 0 < td.length
      · by_cases t2 : 0 < inn.length
        · by_cases t3 : most < ((td.length : Int) + inn.length)
          · have hst := HSTOP.out t1 t2 t3
            have hx : td.length - 1 < td.length := by omega
            have hwl : IntKind.i64.wrap ((td.length : Int) - 1) = ((td.length - 1 : Nat) : Int) := by rw [IntKind.wrap_i64]; omega
            obtain ⟨a3, rfl⟩ : ∃ a3, A3 = some a3 := by
              obtain ⟨a3, h3, _⟩ := ev_at hown.row'.2.1 (td.length - 1) hx
              exact ⟨a3, h3⟩
            have hfin := Lib.hid (fun W (h4 : SinceMid (w.heap.size + 1) wr W (.slice (some a3) td.length c3) td none []) => SincePost.mk_ hst (w := w) (h4.told.lower (Nat.le_succ _)) (hbase.out.trans ((hbr.trans (h4.bel.mono (by omega))).mono (Nat.le_succ _))))
            clear hst
            go_wp2_with (first
              | (go_at_call 61; refine (evClone_any B cb _ ls[k] _ hrk (by omega)).mono ?_; rintro e w2 ⟨B2, c2, rfl, hown2, hb2⟩; have HB2 := Lib.hid hb2; have hm2 := hmr.below hb2; have hp2 := (hb2.cell (p := ⟨w.heap.size, 0, none⟩) (by simp; omega)).trans hpr; clear hb2)
              | (go_at_call 60; refine (HDEL.out _ _ hm2 hp2 hown2 (fun e => by have := (hown2.block_lt _ e).1; omega) (fun e => by have := (hown2.block_lt _ e).1; omega)).mono ?_; rintro e w4 ⟨A4, c4, rfl, hown4, hblk, ht4⟩; have HX := Lib.hid (since_mid hown hown2 HB2.out ht4 hown4); clear hown4 hblk ht4
                 obtain ⟨a3', ha3, _, l0, _, _, _, _⟩ := ev_at HX.out.told.row'.2.1 (td.length - 1) hx
                 obtain rfl : a3 = a3' := by injection ha3
                 clear ha3))
            go_quiet (fail)
            go_wp2
            go_ret3
            exact (hfin.out _ ⟨HX.out.bel, HX.out.told, Row.nil _ _ _ _⟩).drewN _
          · have t3' : ((td.length : Int) + inn.length) ≤ most := by omega
            go_wp2_with (first
              | (go_at_call 61; refine (evClone_any B cb _ ls[k] _ hrk (by omega)).mono ?_; rintro e w2 ⟨B2, c2, rfl, hown2, hb2⟩; have HB2 := Lib.hid hb2; have hm2 := hmr.below hb2; have hp2 := (hb2.cell (p := ⟨w.heap.size, 0, none⟩) (by simp; omega)).trans hpr; clear hb2)
              | (go_at_call 60; refine (HDEL.out _ _ hm2 hp2 hown2 (fun e => by have := (hown2.block_lt _ e).1; omega) (fun e => by have := (hown2.block_lt _ e).1; omega)).mono ?_; rintro e w4 ⟨A4, c4, rfl, hown4, hblk, ht4⟩; have HX := Lib.hid (since_mid hown hown2 HB2.out ht4 hown4); clear hown4 hblk ht4)
              | (at_builtin; refine wpList_app_plain evElem kEvent_plain (w.heap.size + 1) rfl (.tmp 85) (.tmp 86) rfl (v := .slice A3 td.length c3) (xs := td) (ys := inn) rfl HX.out.told rfl rfl HX.out.row h56 (by have := HX.out.bel.size; omega) ?_; intro A5 c5 w5 happ; have HAPP := Lib.hid happ; clear happ))
            all_goals (
              go_roundw
              case rel =>
                  exact ⟨k + 1, c5, A5, td ++ inn, by go_num, by rw [List.length_append], hlt, by rw [List.length_append]; exact HAPP.out.own, (hbr.trans (HX.out.bel.mono (by omega))).trans (HAPP.out.below (Below.refl _ _) (by have := HX.out.bel.size; omega) (fun q hq => (HX.out.told.block_lt q hq).1)), by rw [List.length_append]; exact HSUM2.out, HNEXT.out (by omega)⟩
              case measure => simp [intOf]; omega)
        · skip
          go_wp2_with (first
            | (go_at_call 61; refine (evClone_any B cb _ ls[k] _ hrk (by omega)).mono ?_; rintro e w2 ⟨B2, c2, rfl, hown2, hb2⟩; have HB2 := Lib.hid hb2; have hm2 := hmr.below hb2; have hp2 := (hb2.cell (p := ⟨w.heap.size, 0, none⟩) (by simp; omega)).trans hpr; clear hb2)
            | (go_at_call 60; refine (HDEL.out _ _ hm2 hp2 hown2 (fun e => by have := (hown2.block_lt _ e).1; omega) (fun e => by have := (hown2.block_lt _ e).1; omega)).mono ?_; rintro e w4 ⟨A4, c4, rfl, hown4, hblk, ht4⟩; have HX := Lib.hid (since_mid hown hown2 HB2.out ht4 hown4); clear hown4 hblk ht4)
            | (at_builtin; refine wpList_app_plain evElem kEvent_plain (w.heap.size + 1) rfl (.tmp 85) (.tmp 86) rfl (v := .slice A3 td.length c3) (xs := td) (ys := inn) rfl HX.out.told rfl rfl HX.out.row h56 (by have := HX.out.bel.size; omega) ?_; intro A5 c5 w5 happ; have HAPP := Lib.hid happ; clear happ))
          all_goals (
            go_roundw
            case rel =>
              exact ⟨k + 1, c5, A5, td ++ inn, by go_num, by rw [List.length_append], hlt, by rw [List.length_append]; exact HAPP.out.own, (hbr.trans (HX.out.bel.mono (by omega))).trans (HAPP.out.below (Below.refl _ _) (by have := HX.out.bel.size; omega) (fun q hq => (HX.out.told.block_lt q hq).1)), by rw [List.length_append]; exact HSUM2.out, HNEXT.out (by omega)⟩
            case measure => simp [intOf]; omega)
      · skip
        go_wp2_with (first
          | (go_at_call 61; refine (evClone_any B cb _ ls[k] _ hrk (by omega)).mono ?_; rintro e w2 ⟨B2, c2, rfl, hown2, hb2⟩; have HB2 := Lib.hid hb2; have hm2 := hmr.below hb2; have hp2 := (hb2.cell (p := ⟨w.heap.size, 0, none⟩) (by simp; omega)).trans hpr; clear hb2)
          | (go_at_call 60; refine (HDEL.out _ _ hm2 hp2 hown2 (fun e => by have := (hown2.block_lt _ e).1; omega) (fun e => by have := (hown2.block_lt _ e).1; omega)).mono ?_; rintro e w4 ⟨A4, c4, rfl, hown4, hblk, ht4⟩; have HX := Lib.hid (since_mid hown hown2 HB2.out ht4 hown4); clear hown4 hblk ht4)
          | (at_builtin; refine wpList_app_plain evElem kEvent_plain (w.heap.size + 1) rfl (.tmp 85) (.tmp 86) rfl (v := .slice A3 td.length c3) (xs := td) (ys := inn) rfl HX.out.told rfl rfl HX.out.row h56 (by have := HX.out.bel.size; omega) ?_; intro A5 c5 w5 happ; have HAPP := Lib.hid happ; clear happ))
        all_goals (
          go_roundw
          case rel =>
            exact ⟨k + 1, c5, A5, td ++ inn, by go_num, by rw [List.length_append], hlt, by rw [List.length_append]; exact HAPP.out.own, (hbr.trans (HX.out.bel.mono (by omega))).trans (HAPP.out.below (Below.refl _ _) (by have := HX.out.bel.size; omega) (fun q hq => (HX.out.told.block_lt q hq).1)), by rw [List.length_append]; exact HSUM2.out, HNEXT.out (by omega)⟩
          case measure => simp [intOf]; omega)
    · have hkl : ls.drop k = [] := List.drop_eq_nil_of_le (by omega)
      have hres : sinceL h.high most path [] ls = (td, h.high, 0) := by rw [← HR.out, hkl]; rfl
      have hfin := Lib.hid (SincePost.mk_ hres (w := w) (hown.lower (Nat.le_succ _)) (hbase.out.trans (hbr.mono (Nat.le_succ _))))
      have hlt' : ¬ ((k : Int) < ((h.vs.length - n : Nat) : Int)) := by rw [← HLL.out]; omega
      have d1' : wr.cell? ⟨g, 1, none⟩ = some (.int .i64 h.high) := (hbr.cell (p := ⟨g, 1, none⟩) (by simp; omega)).trans d1
      clear hkl hres hown
      go_wp2
      go_quiet (fail)
      go_wp2
      go_ret3
      exact hfin.out.drewN _

theorem since_any {F : Nat → Prop} (g : Nat) (h : HubS) (v most : Int) (path : ByteArray) (w : World) (hm : Ml w) (k : IsHub F w g h) :
    Calls Tryd.prog 22 #[.pointer (some ⟨g, 0, none⟩), .int .i64 v, .string path, .int .i64 most] w (SincePost (hubSince h v path most) w) := by
  by_cases hmost : most < 1 ∨ most > 100
  · exact since_most g h v most path w k hmost
  · by_cases he : isPath path = false ∨ v < h.low ∨ v > h.high
    · exact since_errs g h v most path w hm k hmost he
    · exact since_main g h v most path w hm k hmost (by cases hp : isPath path <;> simp_all) (by omega) (by omega)
end Go.Proofs.YtdchffghgajbfaaDoor
