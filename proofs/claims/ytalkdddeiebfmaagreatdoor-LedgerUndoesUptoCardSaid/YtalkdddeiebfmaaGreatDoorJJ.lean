/- Laid together: J54 J55 J56. -/
import Derived.Test.YtalkdddeiebfmaaGreatDoorJI
import Derived.Test.YtalkdddeiebfmaaGreatDoorJH
import Derived.Test.YtalkdddeiebfmaaGreatDoorJE
/- The document's Rows: the walk. -/
namespace Go.Proofs.YtalkdddeiebfmaaGreatDoor
open Go.RowKit

theorem flat_take_step {α β : Type} {f : α → List β} {l : List α} {i : Nat} (h : i < l.length) : (l.take (i + 1)).flatMap f = (l.take i).flatMap f ++ f l[i] := by
  rw [List.take_succ_eq_append_getElem h, List.flatMap_append]; simp
theorem flat_take_le {α β : Type} (f : α → List β) (l : List α) (i : Nat) : ((l.take i).flatMap f).length ≤ (l.flatMap f).length := by
  conv => rhs; rw [← List.take_append_drop i l, List.flatMap_append, List.length_append]
  omega
theorem flat_room {α β : Type} {f : α → List β} {l : List α} {i : Nat} (h : i < l.length) : ((l.take i).flatMap f).length + (f l[i]).length ≤ (l.flatMap f).length := by
  have := flat_take_le f l (i + 1)
  rw [flat_take_step h, List.length_append] at this
  exact this
theorem rows_few {S : Pl → Int} {C : ByteArray → Int} {m : Nat} {R : List Sh} (k : LedOk m S C) (h : RowsOf S R) : R.length ≤ m := by
  obtain ⟨L, hL, hs⟩ := k.sup
  have h1 := nodup_le R (L.map fun x => (x, S x)) (rowsOf_nodup h) fun x hx => by
    obtain ⟨h2, h3⟩ := (h.mem x).1 hx
    exact List.mem_map.2 ⟨x.1, hs _ h2, Prod.ext rfl h3.symm⟩
  rw [List.length_map] at h1
  omega
def RRowsPost (S : Pl → Int) (w : World) (e : Ending) (w' : World) : Prop :=
  ∃ A c R, e = .returned (.slice A (List.length R) c) ∧ Row kSh (fun _ => True) w' A R ∧ RowsOf S R ∧ Below w.heap.size w w'
theorem own_any_rows {α : Type} {d : Kn α} {e base : Nat} {w : World} {A : Option Addr} {n c : Nat} {xs : List α} (h : Own d e base (fun _ => False) w (.slice A n c) xs) : Row d (fun _ => True) w A xs := (own_rows h).mono fun _ _ => trivial
theorem small_path {p : ByteArray} (h : isPath p = true) : p.size ≤ 1073741824 := by have := (pathOk h).short; omega
theorem sum_room {α : Type} (f : α → Nat) {l : List α} {i : Nat} (h : i < l.length) : ((l.take i).map f).sum + f l[i] ≤ (l.map f).sum := by
  have h1 : ((l.take (i + 1)).map f).sum ≤ (l.map f).sum := by
    conv => rhs; rw [← List.take_append_drop (i + 1) l, List.map_append, List.sum_append]
    omega
  rw [List.take_succ_eq_append_getElem h, List.map_append, List.sum_append] at h1
  simpa using h1
theorem TextsIn.mono {D : ByteArray → Prop} {lt : ByteArray → ByteArray → Bool} {n m : Nat} {q : ByteArray → Prop} {l : List ByteArray} (h : TextsIn D lt n q l) (hn : n ≤ m) : TextsIn D lt m q l := ⟨h.asc, h.mem, h.dom, Nat.le_trans h.len hn⟩
theorem paths_part {es : List EntV} (h : ∀ e ∈ es, ∀ p ∈ e.line, isPath p = true) {i : Nat} (hi : i < es.length) (j : Nat) : ((es[i].line.take j).foldl (textL (ltT true)) (pathsL (es.take i) [])).length ≤ (es.map fun e => e.line.length).sum ∧ ∀ p ∈ (es[i].line.take j).foldl (textL (ltT true)) (pathsL (es.take i) []), p.size ≤ 1073741824 := by
  have h1 := pathsL_in (es := es.take i) (fun e he => h e (List.mem_of_mem_take he)) (texts_nil _ _)
  have h2 := texts_fold ord_paths (L := es[i].line.take j) (fun p hp => h _ (List.getElem_mem hi) p (List.mem_of_mem_take hp)) h1
  have h3 := sum_room (fun e : EntV => e.line.length) hi
  have h4 := h2.len
  have h5 : (es[i].line.take j).length ≤ es[i].line.length := by rw [List.length_take]; omega
  exact ⟨by omega, fun p hp => small_path (h2.dom p hp)⟩
theorem names_part {es : List EntV} {i : Nat} (hi : i < es.length) (j : Nat) : (((es[i].uses.map Amt.name).take j).foldl (textL (ltT false)) (namesL (es.take i) [])).length ≤ (es.map fun e => e.uses.length).sum := by
  have h1 := namesL_in (es := es.take i) (texts_nil _ _)
  have h2 := texts_fold ord_names (L := (es[i].uses.map Amt.name).take j) (fun _ _ => trivial) h1
  have h3 := sum_room (fun e : EntV => e.uses.length) hi
  have h4 := h2.len
  have h5 : ((es[i].uses.map Amt.name).take j).length ≤ es[i].uses.length := by rw [List.length_take, List.length_map]; omega
  omega
theorem pathsL_step {es : List EntV} {i : Nat} (hi : i < es.length) : pathsL (es.take (i + 1)) [] = es[i].line.foldl (textL (ltT true)) (pathsL (es.take i) []) := by
  unfold pathsL
  rw [fold_take hi]
theorem namesL_step {es : List EntV} {i : Nat} (hi : i < es.length) : namesL (es.take (i + 1)) [] = (es[i].uses.map Amt.name).foldl (textL (ltT false)) (namesL (es.take i) []) := by
  unfold namesL
  rw [fold_take hi]
set_option maxRecDepth 100000 in
set_option maxHeartbeats 4000000 in
theorem rrows_any (g : Nat) (F : Nat → Prop) (es : List EntV) (S : Pl → Int) (C : ByteArray → Int) (m : Nat) (w : World) (k : IsRL w g F es) (r : Rel es S C) (ok : LedOk m S C) (hl : es.length ≤ 1073741823) (hs1 : (es.map fun e => e.line.length).sum ≤ 1073741823) (hs2 : (es.map fun e => e.uses.length).sum ≤ 1073741823) (hm : (m + 1) * 56 ≤ 140737488355328) :
    Calls Tryz.prog 15 #[.pointer (some ⟨g, 0, none⟩)] w (RRowsPost S w) := by
  have HK := Lib.hid k
  have HP := Lib.hid (pathsL_in r.path (texts_nil _ _))
  have HNM := Lib.hid (namesL_in (es := es) (texts_nil _ _))
  have HRO := Lib.hid (rowsE_of r ok)
  have HFEW := Lib.hid (rows_few ok (rowsE_of r ok))
  have HREL := Lib.hid r
  have HOK := Lib.hid ok
  obtain ⟨-, hok, A, c, hg, hr⟩ := k
  obtain ⟨n, hn⟩ : ∃ n, es.length = n := ⟨_, rfl⟩
  have HNL := Lib.hid hn
  have HLL := Lib.hid hl
  rw [hn] at hg hl
  have HE := Lib.hid hok
  have HR := Lib.hid hr
  have G0 := Lib.hid (show w.cell? ⟨g, 0, none⟩ = some (.slice A n c) from (cell_of_row _ _ _ _ _ _ hg).trans rfl)
  have HS1 := Lib.hid hs1
  have HS2 := Lib.hid hs2
  clear hok hg hr hn r ok hs1 hs2
  go_enter Tryz.func15, Tryz.ntmps15
  go_wp2
  go_loopw [3, 4, 5] (fun pv nv iv wr => ∃ (i np cp nn cn : Nat) (B D : Option Addr), iv = .int .i64 i ∧ pv = .slice B np cp ∧ nv = .slice D nn cn ∧ i ≤ n ∧ Hid (np = (pathsL (es.take i) []).length ∧ nn = (namesL (es.take i) []).length) ∧ Hid (Row Kn.str (fun _ => True) wr B (pathsL (es.take i) [])) ∧ Hid (Row Kn.str (fun _ => True) wr D (namesL (es.take i) [])) ∧ Hid (Below w.heap.size w wr)) (fun _ _ iv _ => n - (intOf iv).toNat)
  case atStart => exact ⟨0, 0, 0, 0, 0, none, none, rfl, rfl, rfl, Nat.zero_le _, ⟨rfl, rfl⟩, Row.nil _ _ _ _, Row.nil _ _ _ _, Below.refl _ _⟩
  case round =>
    obtain ⟨i, np, cp, nn, cn, B, D, rfl, rfl, rfl, hi, hln, hrp, hrn, hbr⟩ := hrel
    obtain ⟨wo, rfl⟩ : ∃ wo, wo = wr := ⟨_, rfl⟩
    have HLN := Lib.hid hln.out
    have HRP := Lib.hid hrp.out
    have HRN := Lib.hid hrn.out
    have HB := Lib.hid hbr.out
    have g0 := (hbr.out.cell (World.block_lt_of_cell? _ _ G0.out)).trans G0.out
    clear hln hrp hrn hbr
    by_cases hlt : i < n
    · have hil : i < es.length := by rw [HNL.out]; exact hlt
      have hpp := paths_part HREL.out.path hil
      have hnp := names_part hil
      have hps := pathsL_step hil
      have hns := namesL_step hil
      have hoe := HE.out _ (List.getElem_mem hil)
      have hpt := HREL.out.path _ (List.getElem_mem hil)
      obtain ⟨a, A1, k1, A2, k2, A3, k3, rfl, -, hx⟩ := ent_at HR.out i hil
      obtain ⟨x, hxe⟩ : ∃ x, es[i] = x := ⟨_, rfl⟩
      rw [hxe] at hpp hnp hps hns hoe hpt hx
      have HPP := Lib.hid hpp
      have HNP := Lib.hid hnp
      have HPS := Lib.hid hps
      have HNS := Lib.hid hns
      have HX := Lib.hid hx
      have HPT := Lib.hid hpt
      have hl1 : x.line.length ≤ 9223372036854775806 := hoe.l1
      have hl3 : x.uses.length ≤ 9223372036854775806 := hoe.l3
      obtain ⟨n1, hn1⟩ : ∃ n1, x.line.length = n1 := ⟨_, rfl⟩
      obtain ⟨n3, hn3⟩ : ∃ n3, x.uses.length = n3 := ⟨_, rfl⟩
      obtain ⟨x0, -, x2, -, -, -, -⟩ := hx
      rw [hn1] at x0 hl1
      rw [hn3] at x2 hl3
      have X0 := Lib.hid x0
      have X2 := Lib.hid x2
      have HN1 := Lib.hid hn1
      have HN3 := Lib.hid hn3
      have hlti : (i : Int) < (n : Int) := by omega
      have hi0 : (0 : Int) ≤ (i : Int) := by omega
      clear hpp hnp hps hns hoe hpt hxe hn1 hn3 x0 x2
      go_wp2
      clear g0
      go_loopw [3, 6] (fun pv jv wr => ∃ (j np cp : Nat) (B : Option Addr), jv = .int .i64 j ∧ pv = .slice B np cp ∧ j ≤ n1 ∧ Hid (np = ((x.line.take j).foldl (textL (ltT true)) (pathsL (es.take i) [])).length) ∧ Hid (Row Kn.str (fun _ => True) wr B ((x.line.take j).foldl (textL (ltT true)) (pathsL (es.take i) []))) ∧ Hid (Below wo.heap.size wo wr) ∧ Hid (Below w.heap.size w wr)) (fun _ jv _ => n1 - (intOf jv).toNat)
      case atStart => exact ⟨0, np, cp, B, rfl, rfl, Nat.zero_le _, HLN.out.1, HRP.out, Below.refl _ _, HB.out⟩
      case round =>
        obtain ⟨j, npj, cpj, Bj, rfl, rfl, hj, hlj, hrj, hwj, hbj⟩ := hrel
        obtain ⟨wp, rfl⟩ : ∃ wp, wp = wr := ⟨_, rfl⟩
        have HLJ := Lib.hid hlj.out
        have HRJ := Lib.hid hrj.out
        have HWJ := Lib.hid hwj.out
        have HBJ := Lib.hid hbj.out
        have g0 := (hbj.out.cell (World.block_lt_of_cell? _ _ G0.out)).trans G0.out
        have x0 := (hbj.out.cell (World.block_lt_of_cell? _ _ X0.out)).trans X0.out
        by_cases hltj : j < n1
        · have hjl : j < x.line.length := by rw [HN1.out]; exact hltj
          obtain ⟨b, rfl, y0⟩ := row_str_at (HX.out.r1.below hbj.out) j hjl
          have hst := fold_take (f := textL (ltT true)) (b := pathsL (es.take i) []) hjl
          have hpj := HPP.out j
          have hsp := small_path (HPT.out _ (List.getElem_mem hjl))
          obtain ⟨s, hs⟩ : ∃ s, x.line[j] = s := ⟨_, rfl⟩
          obtain ⟨Pj, hPj⟩ : ∃ Pj, (x.line.take j).foldl (textL (ltT true)) (pathsL (es.take i) []) = Pj := ⟨_, rfl⟩
          rw [hs] at y0 hst hsp
          rw [hPj] at HLJ HRJ hst hpj
          have HST := Lib.hid hst
          have HPJ := Lib.hid hpj
          have HSP := Lib.hid hsp
          have hltj2 : (j : Int) < (n1 : Int) := by omega
          have hj0 : (0 : Int) ≤ (j : Int) := by omega
          clear hst hpj hsp hs hPj hlj hrj hwj hbj
          go_wp2_with (go_at_call 38; have q := rtext_any true Pj npj HLJ.out.symm Bj cpj _ s wp HRJ.out (by rw [HLJ.out]; exact Nat.le_trans HPJ.out.1 HS1.out) (fun _ => ⟨HSP.out, HPJ.out.2⟩); refine q.mono ?_; clear q; rintro e w2 ⟨A7, c7, rfl, hr7, hb7⟩; have HR7 := Lib.hid hr7; have HB7 := Lib.hid (HBJ.out.trans (hb7.mono HBJ.out.size)); have HW7 := Lib.hid (HWJ.out.trans (hb7.mono HWJ.out.size)); clear hr7 hb7)
          go_roundw
          case rel => exact ⟨j + 1, _, c7, A7, by go_num, rfl, hltj, by rw [HST.out]; rfl, by rw [HST.out]; exact HR7.out, HW7.out, HB7.out⟩
          case measure => simp [intOf]; omega
        · have hge : ¬ ((j : Int) < (n1 : Int)) := by omega
          have htk : x.line.take j = x.line := List.take_of_length_le (by rw [HN1.out]; omega)
          rw [htk, ← HPS.out] at HLJ HRJ
          clear htk hlj hrj hwj hbj
          go_wp2
          clear g0 x0
          go_loopw [4, 7] (fun nv jv wr => ∃ (j nn cn : Nat) (D : Option Addr), jv = .int .i64 j ∧ nv = .slice D nn cn ∧ j ≤ n3 ∧ Hid (nn = (((x.uses.map Amt.name).take j).foldl (textL (ltT false)) (namesL (es.take i) [])).length) ∧ Hid (Row Kn.str (fun _ => True) wr D (((x.uses.map Amt.name).take j).foldl (textL (ltT false)) (namesL (es.take i) []))) ∧ Hid (Below wp.heap.size wp wr)) (fun _ jv _ => n3 - (intOf jv).toNat)
          case atStart => exact ⟨0, nn, cn, D, rfl, rfl, Nat.zero_le _, HLN.out.2, HRN.out.below HWJ.out, Below.refl _ _⟩
          case round =>
            obtain ⟨j2, nnj, cnj, Dj, rfl, rfl, hj2, hlj2, hrj2, hbj2⟩ := hrel
            obtain ⟨wq, rfl⟩ : ∃ wq, wq = wr := ⟨_, rfl⟩
            have HLJ2 := Lib.hid hlj2.out
            have HRJ2 := Lib.hid hrj2.out
            have HBQ := Lib.hid hbj2.out
            have HBW := Lib.hid (HBJ.out.trans (hbj2.out.mono HBJ.out.size))
            have g0 := (HBW.out.cell (World.block_lt_of_cell? _ _ G0.out)).trans G0.out
            have x2 := (HBW.out.cell (World.block_lt_of_cell? _ _ X2.out)).trans X2.out
            by_cases hltj : j2 < n3
            · have hjl : j2 < x.uses.length := by rw [HN3.out]; exact hltj
              have hjm : j2 < (x.uses.map Amt.name).length := by rw [List.length_map]; exact hjl
              obtain ⟨b, rfl, -, y0, -⟩ := amt_at (HX.out.r3.below HBW.out) j2 hjl
              have hst := fold_take (f := textL (ltT false)) (b := namesL (es.take i) []) hjm
              have hpj := HNP.out j2
              rw [List.getElem_map] at hst
              obtain ⟨s, hs⟩ : ∃ s, (x.uses[j2]).name = s := ⟨_, rfl⟩
              obtain ⟨Pj, hPj⟩ : ∃ Pj, ((x.uses.map Amt.name).take j2).foldl (textL (ltT false)) (namesL (es.take i) []) = Pj := ⟨_, rfl⟩
              rw [hs] at y0 hst
              rw [hPj] at HLJ2 HRJ2 hst hpj
              have HST := Lib.hid hst
              have HPJ := Lib.hid hpj
              have hltj2 : (j2 : Int) < (n3 : Int) := by omega
              have hj0 : (0 : Int) ≤ (j2 : Int) := by omega
              clear hst hpj hs hPj hlj2 hrj2 hbj2
              go_wp2_with (go_at_call 38; have q := rtext_any false Pj nnj HLJ2.out.symm Dj cnj _ s wq HRJ2.out (by rw [HLJ2.out]; exact Nat.le_trans HPJ.out HS2.out) (fun h => by cases h); refine q.mono ?_; clear q; rintro e w2 ⟨A7, c7, rfl, hr7, hb7⟩; have HR7 := Lib.hid hr7; have HB7 := Lib.hid (HBQ.out.trans (hb7.mono HBQ.out.size)); clear hr7 hb7)
              go_roundw
              case rel => exact ⟨j2 + 1, _, c7, A7, by go_num, rfl, hltj, by rw [HST.out]; rfl, by rw [HST.out]; exact HR7.out, HB7.out⟩
              case measure => simp [intOf]; omega
            · have hge2 : ¬ ((j2 : Int) < (n3 : Int)) := by omega
              have htk : (x.uses.map Amt.name).take j2 = x.uses.map Amt.name := List.take_of_length_le (by rw [List.length_map, HN3.out]; omega)
              rw [htk, ← HNS.out] at HLJ2 HRJ2
              have HRJF := Lib.hid (HRJ.out.below HBQ.out)
              clear htk hlj2 hrj2 hbj2
              go_wp2
              go_roundw
              case rel => exact ⟨i + 1, npj, cpj, nnj, cnj, Bj, Dj, by go_num, rfl, rfl, hlt, ⟨HLJ.out, HLJ2.out⟩, HRJF.out, HRJ2.out, HBW.out⟩
              case measure => simp [intOf]; omega
    · have hge : ¬ ((i : Int) < (n : Int)) := by omega
      have htk : es.take i = es := List.take_of_length_le (by rw [HNL.out]; omega)
      rw [htk] at HLN HRP HRN
      obtain ⟨PL, hPL⟩ : ∃ PL, pathsL es [] = PL := ⟨_, rfl⟩
      obtain ⟨NL, hNL⟩ : ∃ NL, namesL es [] = NL := ⟨_, rfl⟩
      have HRE := Lib.hid (show rowsE es = PL.flatMap fun p => allS.flatMap fun s => NL.flatMap (rowAt es p s) from by rw [← hPL, ← hNL]; rfl)
      have hpl := HP.out.len
      have hnl := HNM.out.len
      rw [hPL] at HLN HRP hpl
      rw [hNL] at HLN HRN hnl
      have hnp : np ≤ 1073741823 := by have h1 := HLN.out.1; have h2 := HS1.out; omega
      have hnn : nn ≤ 1073741823 := by have h1 := HLN.out.2; have h2 := HS2.out; omega
      have hl15 : (allS.length : Nat) = 15 := rfl
      clear htk hPL hNL hpl hnl
      go_upto_region 14 with (go_at_call 39; refine (rAll_any wo).mono ?_; rintro e w1 ⟨A1, c1, rfl, hown1, hb1⟩; have HB1 := Lib.hid (HB.out.trans (hb1.mono HB.out.size)); have HSC := Lib.hid (own_any_rows (hown1.plain kSc_plain)); have HRP1 := Lib.hid (HRP.out.below hb1); have HRN1 := Lib.hid (HRN.out.below hb1); clear hb1 hown1)
      clear g0 HRP HRN
      have HBW1 := Lib.hid HB1.out.size
      go_wp2
      go_loopw [9, 10] (fun ov iv wr => ∃ (i q cq : Nat) (B : Option Addr) (T : List Sh), iv = .int .i64 i ∧ ov = .slice B q cq ∧ i ≤ np ∧ Hid (q = T.length) ∧ Hid (T = (PL.take i).flatMap fun p => allS.flatMap fun s => NL.flatMap (rowAt es p s)) ∧ Hid (Own kSh 49 w1.heap.size (fun _ => False) wr (.slice B q cq) T) ∧ Hid (Below w1.heap.size w1 wr)) (fun _ iv _ => np - (intOf iv).toNat)
      case atStart => exact ⟨0, 0, 0, none, [], rfl, rfl, Nat.zero_le _, rfl, rfl, Own.nil _ _ _ _ _, Below.refl _ _⟩
      case round =>
        obtain ⟨i1, q1, cq1, B1, T1, rfl, rfl, hi1, hq1, hT1, ho1, hb1⟩ := hrel
        obtain ⟨wa, rfl⟩ : ∃ wa, wa = wr := ⟨_, rfl⟩
        have HQ1 := Lib.hid hq1.out
        have HT1 := Lib.hid hT1.out
        have HO1 := Lib.hid ho1.out
        have HBA := Lib.hid hb1.out
        clear hq1 hT1 ho1 hb1
        by_cases hlt1 : i1 < np
        · have hil1 : i1 < PL.length := by rw [← HLN.out.1]; exact hlt1
          have HPLS := Lib.hid (flat_take_step (f := fun p => allS.flatMap fun s => NL.flatMap (rowAt es p s)) hil1)
          have HPRM := Lib.hid (flat_room (f := fun p => allS.flatMap fun s => NL.flatMap (rowAt es p s)) hil1)
          obtain ⟨ap, rfl, p00⟩ := row_str_at HRP1.out i1 hil1
          obtain ⟨p, hp⟩ : ∃ p, PL[i1] = p := ⟨_, rfl⟩
          rw [hp] at HPLS HPRM p00
          have P0 := Lib.hid p00
          have hlti1 : (i1 : Int) < (np : Int) := by omega
          have hi10 : (0 : Int) ≤ (i1 : Int) := by omega
          clear hp p00
          go_wp2
          go_loopw [9, 11] (fun ov jv wr => ∃ (j q cq : Nat) (B : Option Addr) (T : List Sh), jv = .int .i64 j ∧ ov = .slice B q cq ∧ j ≤ 15 ∧ Hid (q = T.length) ∧ Hid (T = T1 ++ (allS.take j).flatMap fun s => NL.flatMap (rowAt es p s)) ∧ Hid (Own kSh 49 w1.heap.size (fun _ => False) wr (.slice B q cq) T) ∧ Hid (Below w1.heap.size w1 wr)) (fun _ jv _ => 15 - (intOf jv).toNat)
          case atStart => exact ⟨0, q1, cq1, B1, T1, rfl, rfl, Nat.zero_le _, HQ1.out, by simp [Hid], HO1.out, HBA.out⟩
          case round =>
            obtain ⟨j, q2, cq2, B2, T2, rfl, rfl, hj, hq2, hT2, ho2, hb2⟩ := hrel
            obtain ⟨wb, rfl⟩ : ∃ wb, wb = wr := ⟨_, rfl⟩
            have HQ2 := Lib.hid hq2.out
            have HT2 := Lib.hid hT2.out
            have HO2 := Lib.hid ho2.out
            have HBB := Lib.hid hb2.out
            clear hq2 hT2 ho2 hb2
            by_cases hltj : j < 15
            · have hjl : j < allS.length := hltj
              have HSS := Lib.hid (flat_take_step (f := fun s => NL.flatMap (rowAt es p s)) hjl)
              have HSRM := Lib.hid (flat_room (f := fun s => NL.flatMap (rowAt es p s)) hjl)
              obtain ⟨sa, rfl, s00, s10⟩ := sc_at HSC.out j hjl
              obtain ⟨s, hs⟩ : ∃ s, allS[j] = s := ⟨_, rfl⟩
              rw [hs] at HSS HSRM s00 s10
              have S0 := Lib.hid s00
              have S1 := Lib.hid s10
              have hltj2 : (j : Int) < 15 := by omega
              have hj0 : (0 : Int) ≤ (j : Int) := by omega
              clear hs s00 s10
              go_wp2
              go_loopw [9, 12] (fun ov kv wr => ∃ (k q cq : Nat) (B : Option Addr) (T : List Sh), kv = .int .i64 k ∧ ov = .slice B q cq ∧ k ≤ nn ∧ Hid (q = T.length) ∧ Hid (T = T2 ++ (NL.take k).flatMap (rowAt es p s)) ∧ Hid (Own kSh 49 w1.heap.size (fun _ => False) wr (.slice B q cq) T) ∧ Hid (Below w1.heap.size w1 wr)) (fun _ kv _ => nn - (intOf kv).toNat)
              case atStart => exact ⟨0, q2, cq2, B2, T2, rfl, rfl, Nat.zero_le _, HQ2.out, by simp [Hid], HO2.out, HBB.out⟩
              case round =>
                obtain ⟨k, q3, cq3, B3, T3, rfl, rfl, hk, hq3, hT3, ho3, hb3⟩ := hrel
                obtain ⟨wc, rfl⟩ : ∃ wc, wc = wr := ⟨_, rfl⟩
                have HQ3 := Lib.hid hq3.out
                have HT3 := Lib.hid hT3.out
                have HO3 := Lib.hid ho3.out
                have HBC := Lib.hid hb3.out
                clear hq3 hT3 ho3 hb3
                by_cases hltk : k < nn
                · have hkl : k < NL.length := by rw [← HLN.out.2]; exact hltk
                  have HNS2 := Lib.hid (flat_take_step (f := rowAt es p s) hkl)
                  have HNRM := Lib.hid (flat_room (f := rowAt es p s) hkl)
                  obtain ⟨an, rfl, n00⟩ := row_str_at HRN1.out k hkl
                  obtain ⟨nm, hnm⟩ : ∃ nm, NL[k] = nm := ⟨_, rfl⟩
                  rw [hnm] at HNS2 HNRM n00
                  obtain ⟨v, hv⟩ : ∃ v, totE es (p, (s.kind, s.arg), nm) = v := ⟨_, rfl⟩
                  have HV := Lib.hid hv
                  have hv0 : 0 ≤ v := by rw [← hv, HREL.out.tot]; exact HOK.out.lo _
                  have hv1 : v ≤ 9223372036854775807 := by rw [← hv, HREL.out.tot]; exact HOK.out.hi _
                  have HZ1 := Lib.hid (show ∀ W, Below w1.heap.size w1 W → W.cell? (ap.add i1) = some (.string p) ∧ W.cell? (sa.add (j * 2)) = some (.int .i64 s.kind) ∧ W.cell? ⟨(sa.add (j * 2)).block, (sa.add (j * 2)).off + 1, none⟩ = some (.int .i64 s.arg) ∧ W.cell? (an.add k) = some (.string nm) from fun W hB =>
                    ⟨(hB.cell (World.block_lt_of_cell? _ _ P0.out)).trans P0.out, (hB.cell (World.block_lt_of_cell? _ _ S0.out)).trans S0.out, (hB.cell (p := ⟨_, _, none⟩) (World.block_lt_of_cell? _ _ S1.out)).trans S1.out, (hB.cell (World.block_lt_of_cell? _ _ n00)).trans n00⟩)
                  have HZ := Lib.hid (fun W (hb : Below wc.heap.size wc W) => HZ1.out W (HBC.out.trans (hb.mono HBC.out.size)))
                  have HRW := Lib.hid (show rowAt es p s nm = if v ≠ 0 then [((p, (s.kind, s.arg), nm), v)] else [] by unfold rowAt; rw [hv])
                  have hltk2 : (k : Int) < (nn : Int) := by omega
                  have hk0 : (0 : Int) ≤ (k : Int) := by omega
                  clear hnm n00 hv
                  go_upto_region 24 with fail
                  have z0 := fun z : BW wc => (HZ.out z.w z.h).1
                  have z1 := fun z : BW wc => (HZ.out z.w z.h).2.1
                  have z2 := fun z : BW wc => (HZ.out z.w z.h).2.2.1
                  have z3 := fun z : BW wc => (HZ.out z.w z.h).2.2.2
                  have C1 := Lib.hid (fun z : BW wc => rusedM_any g F es p s nm z.w (HK.out.below (HB1.out.trans ((HBC.out.trans (z.h.mono HBC.out.size)).mono HBW1.out))) HLL.out v HV hv0 hv1)
                  refine wp_region_pure (by kernel_rfl) (by kernel_rfl) ?_
                  repeat (first | go_big_quiet_step (first | (go_at_call 40; exact Calls.pure_of (C1.out _))) | quiet_step (first | (go_at_call 40; exact Calls.pure_of (C1.out _))))
                  refine wpQuiet_nil ?_
                  rintro _ ⟨z, rfl⟩
                  clear z0 z1 z2 z3 C1
                  obtain ⟨zw, hzw⟩ : ∃ zw, z.w = zw := ⟨_, rfl⟩
                  have hzb : Below wc.heap.size wc zw := hzw ▸ z.h
                  rw [hzw]
                  clear hzw z
                  have HBZ := Lib.hid (HBC.out.trans (hzb.mono HBC.out.size))
                  have HOZ := Lib.hid (HO3.out.below hzb)
                  have HZZ := Lib.hid (fun W (hb : Below zw.heap.size zw W) => HZ.out W (hzb.trans (hb.mono hzb.size)))
                  clear hzb
                  by_cases hvz : v = 0
                  · have e1 : (v != 0) = false := by simpa using hvz
                    have HTT := Lib.hid (show T3 = T2 ++ (NL.take (k + 1)).flatMap (rowAt es p s) by rw [HT3.out, HNS2.out, HRW.out, if_neg (by simpa using hvz)]; simp)
                    clear hvz
                    go_wp2
                    go_roundw
                    case rel => exact ⟨k + 1, q3, cq3, B3, T3, by go_num, rfl, hltk, HQ3.out, HTT.out, HOZ.out, HBZ.out⟩
                    case measure => simp [intOf]; omega
                  · have e1 : (v != 0) = true := by simpa using hvz
                    have HTT := Lib.hid (show T3 ++ [((p, (s.kind, s.arg), nm), v)] = T2 ++ (NL.take (k + 1)).flatMap (rowAt es p s) by rw [HT3.out, HNS2.out, HRW.out, if_pos hvz]; simp)
                    have h56 : (q3 + 1) * 56 ≤ 140737488355328 := by
                      have h1 := HNRM.out
                      have h2 := HSRM.out
                      have h3 := HPRM.out
                      have h4 := HFEW.out
                      rw [HRW.out, if_pos hvz] at h1
                      rw [HRE.out] at h4
                      have h5 := HQ3.out
                      rw [HT3.out, List.length_append, HT2.out, List.length_append, HT1.out] at h5
                      simp only [List.length_cons, List.length_nil] at h1
                      omega
                    have HQ3' := Lib.hid (show (T3 ++ [((p, (s.kind, s.arg), nm), v)]).length = q3 + 1 by rw [List.length_append, HQ3.out]; rfl)
                    have HSZ := Lib.hid HBZ.out.size
                    clear hvz
                    go_upto_region 26 with fail
                    go_region_held3 (fun w' => w'.cell? (ap.add i1) = some (.string p) ∧ w'.cell? (sa.add (j * 2)) = some (.int .i64 s.kind) ∧ w'.cell? ⟨(sa.add (j * 2)).block, (sa.add (j * 2)).off + 1, none⟩ = some (.int .i64 s.arg) ∧ w'.cell? (an.add k) = some (.string nm)) (first | exact HS9.out | exact HZZ.out _ (by repeat (first | exact Below.refl _ _ | refine Below.drew ?_ | refine Below.alloc ?_ (by simp) _))) (first
                        | (refine step_appN useElem w1.heap.size (by rfl) (.tmp 111) (.tmp 126) (by rfl) (v := .slice B3 q3 cq3) (xs := T3) (ys := [((p, (s.kind, s.arg), nm), v)]) (zs := T3 ++ [((p, (s.kind, s.arg), nm), v)]) (nz := q3 + 1) (R := fun _ => False) (S := fun k => k = zw.heap.size) (by rfl) HQ3'.out (by rfl) (by exact HOZ.out.below (by repeat (first | exact Below.refl _ _ | refine Below.drew ?_ | refine Below.alloc ?_ (by simp) _))) (by exact fun _ h => h.elim) (by exact fun k hk e => by have h1 := (HOZ.out.block_lt k e).2; omega) (by rfl) (by rfl) (by exact (Row.newOne (cs := Sh.cells ((p, (s.kind, s.arg), nm), v)) (S := fun _ => False) rfl).mono fun k hk => hk.elim (fun f => f.elim) id) h56 (by have := HSZ.out; simp; omega) ?_
                           intro A9 c9 w9 happ
                           have HA9 := Lib.hid (happ.own.plain (Q := fun _ => False) kSh_plain)
                           have HB9 := Lib.hid (happ.below (show Below w1.heap.size w1 _ from by repeat (first | exact HBZ.out | refine Below.drew ?_ | refine Below.alloc ?_ (by have := HSZ.out; simp; omega) _)) (by have := HSZ.out; simp; omega) (fun k e => (HOZ.out.block_lt k e).1))
                           have HS9 := Lib.hid (show w9.cell? (ap.add i1) = some (.string p) ∧ w9.cell? (sa.add (j * 2)) = some (.int .i64 s.kind) ∧ w9.cell? ⟨(sa.add (j * 2)).block, (sa.add (j * 2)).off + 1, none⟩ = some (.int .i64 s.arg) ∧ w9.cell? (an.add k) = some (.string nm) from HZ1.out w9 HB9.out)
                           clear happ))
                    go_wp2_with fail
                    go_roundw
                    case rel => exact ⟨k + 1, q3 + 1, c9, A9, _, by go_num, rfl, hltk, HQ3'.out.symm, HTT.out, HA9.out, HB9.out⟩
                    case measure => simp [intOf]; omega
                · have hge3 : ¬ ((k : Int) < (nn : Int)) := by omega
                  have htk3 : NL.take k = NL := List.take_of_length_le (by rw [← HLN.out.2]; omega)
                  have HTT := Lib.hid (show T3 = T1 ++ (allS.take (j + 1)).flatMap fun s => NL.flatMap (rowAt es p s) by rw [HT3.out, htk3, HT2.out, HSS.out, List.append_assoc])
                  clear htk3
                  go_wp2
                  go_roundw
                  case rel => exact ⟨j + 1, q3, cq3, B3, T3, by go_num, rfl, hltj, HQ3.out, HTT.out, HO3.out, HBC.out⟩
                  case measure => simp [intOf]; omega
            · have hge2 : ¬ ((j : Int) < 15) := by omega
              have htk2 : allS.take j = allS := List.take_of_length_le (by rw [hl15]; omega)
              have HTT := Lib.hid (show T2 = (PL.take (i1 + 1)).flatMap fun p => allS.flatMap fun s => NL.flatMap (rowAt es p s) by rw [HT2.out, htk2, HT1.out, HPLS.out])
              clear htk2
              go_wp2
              go_roundw
              case rel => exact ⟨i1 + 1, q2, cq2, B2, T2, by go_num, rfl, hlt1, HQ2.out, HTT.out, HO2.out, HBB.out⟩
              case measure => simp [intOf]; omega
        · have hge1 : ¬ ((i1 : Int) < (np : Int)) := by omega
          have htk1 : PL.take i1 = PL := List.take_of_length_le (by rw [← HLN.out.1]; omega)
          have HTT := Lib.hid (show T1 = rowsE es by rw [HT1.out, htk1, HRE.out])
          clear htk1
          go_wp2
          go_ret
          exact ⟨B1, cq1, T1, by rw [← HQ1.out]; rfl, own_any_rows HO1.out, by rw [HTT.out]; exact HRO.out, HB1.out.trans (HBA.out.mono HBW1.out)⟩
end Go.Proofs.YtalkdddeiebfmaaGreatDoor
/- The document's Of. -/
namespace Go.Proofs.YtalkdddeiebfmaaGreatDoor
open Go.RowKit

/-- all objects charged, up to the first refusal -/
def rofV (es : List EntV) : List ObjM → Int × List EntV
  | [] => (0, es)
  | o :: os => if (radV 1 es o.v).1 ≠ 0 then ((radV 1 es o.v).1, es) else rofV (radV 1 es o.v).2 os
/-- how much a list of entries has -/
structure ESz (es : List EntV) (a b : Nat) : Prop where
  len : es.length ≤ a
  line : (es.map fun e => e.line.length).sum ≤ 9 * a
  uses : (es.map fun e => e.uses.length).sum ≤ b
theorem esz_nil : ESz [] 0 0 := ⟨Nat.le_refl _, Nat.le_refl _, Nat.le_refl _⟩
theorem ESz.mono {es : List EntV} {a b c d : Nat} (h : ESz es a b) (h1 : a ≤ c) (h2 : b ≤ d) : ESz es c d := ⟨Nat.le_trans h.len h1, by have := h.line; omega, Nat.le_trans h.uses h2⟩
theorem ESz.snoc {es : List EntV} {a b : Nat} (h : ESz es a b) (o : ObjV) (sg : Int) : ESz (es ++ [entOf o sg]) (a + 1) (b + (usesU o).length) := by
  refine ⟨by rw [List.length_append]; have := h.len; simp; omega, ?_, ?_⟩
  · rw [List.map_append, List.sum_append]
    have h1 := h.line
    have h2 : (entOf o sg).line.length ≤ 9 := lineB_len o.path
    simp; omega
  · rw [List.map_append, List.sum_append]
    have h1 := h.uses
    have h2 : (entOf o sg).uses.length = (usesU o).length := rfl
    simp; omega
theorem ESz.rad {es es' : List EntV} {a b : Nat} (h : ESz es a b) {o : ObjV} {sg z : Int} (hr : radV sg es o = (z, es')) : ESz es' (a + 1) (b + (usesU o).length) := by
  unfold radV at hr
  split at hr
  · cases hr; exact h.mono (by omega) (by omega)
  · unfold addE at hr
    obtain ⟨-, rfl⟩ := Prod.mk.inj hr
    split
    · exact h.snoc o sg
    · exact h.mono (by omega) (by omega)
theorem ESz.rcg {es es' : List EntV} {a b : Nat} (h : ESz es a b) {o p : ObjV} {z : Int} (hr : rcgV es o p = (z, es')) : ESz es' (a + 2) (b + (usesU o).length + (usesU p).length) := by
  obtain ⟨⟨z1, es1⟩, h1⟩ : ∃ v, radV (-1) es o = v := ⟨_, rfl⟩
  obtain ⟨⟨z2, es2⟩, h2⟩ : ∃ v, radV 1 es1 p = v := ⟨_, rfl⟩
  rw [rcgV_of h1 h2] at hr
  split at hr
  · cases hr; exact h.mono (by omega) (by omega)
  · split at hr
    · cases hr; exact h.mono (by omega) (by omega)
    · cases hr
      exact ((h.rad h1).rad h2)
theorem rel_of : ∀ {os : List ObjM} {es : List EntV} {S S' : Pl → Int} {C C' : ByteArray → Int} {m : Nat} {z : Int}, Rel es S C → LedOk m S C → (∀ o ∈ os, ObjMOk o) → ofV S C os = (z, S', C') → ∃ es', rofV es os = (z, es') ∧ Rel es' S' C'
  | [], es, S, S', C, C', m, z, r, _, _, h => by
    unfold ofV at h
    cases h
    exact ⟨es, rfl, r⟩
  | o :: os, es, S, S', C, C', m, z, r, k, hok, h => by
    unfold ofV at h
    unfold rofV
    obtain ⟨⟨z1, S1, C1⟩, hc⟩ : ∃ v, chargeV S C o.v = v := ⟨_, rfl⟩
    obtain ⟨es1, h1, r1, -⟩ := rel_charge r k hc
    have k1 := chargeV_ok k (hok o List.mem_cons_self)
    rw [hc] at h k1
    rw [h1]
    by_cases hz : z1 ≠ 0
    · rw [if_pos hz] at h ⊢
      cases h
      exact ⟨es, rfl, r⟩
    · rw [if_neg hz] at h ⊢
      exact rel_of r1 k1 (fun o ho => hok o (List.mem_cons_of_mem _ ho)) h
theorem ObjMAt.rarg {P : Nat → Prop} {w : World} {a : Addr} {o : ObjM} {L : Option Addr} {m : Nat} {B : Option Addr} {c : Nat} (h : ObjMAt P w a o L m B c) (f : ObjMFit o) (hp : o.path.size ≤ 1073741824) : RArg w o.v B P :=
  ⟨h.row, by have := f.n64; show o.parts.length ≤ _; omega, f.ok.small, f.ok.use, hp⟩
def ROfPost (os : List ObjM) (w : World) (e : Ending) (w' : World) : Prop :=
  (((rofV [] os).1 ≠ 0 ∧ e = .returned (.tuple #[.pointer none, .int .i64 (rofV [] os).1])) ∨
    ((rofV [] os).1 = 0 ∧ ∃ g, e = .returned (.tuple #[.pointer (some ⟨g, 0, none⟩), .int .i64 0]) ∧ w.heap.size ≤ g ∧ IsRL w' g (fun k => w.heap.size ≤ k ∧ k ≠ g) (rofV [] os).2)) ∧ Below w.heap.size w w'
set_option maxRecDepth 100000 in
set_option maxHeartbeats 1000000 in
theorem rlOf_any (os : List ObjM) (n : Nat) (hn : os.length = n) (A : Option Addr) (c : Nat) (P : Nat → Prop) (w : World) (hr : Row kObj P w A os) (hok : ∀ o ∈ os, ObjMFit o ∧ o.path.size ≤ 1073741824) (hlen : n ≤ 1073741822) :
    Calls Tryz.prog 12 #[.slice A n c] w (ROfPost os w) := by
  have HR := Lib.hid hr
  have HOK := Lib.hid hok
  have HNL := Lib.hid hn
  clear hr hok hn
  go_enter Tryz.func12, Tryz.ntmps12
  go_wp2_with (go_at_call 21; have q := rlnew_any w; refine q.mono ?_; clear q; rintro e w1 ⟨g, rfl, hg1, hg2, hg3, hb1⟩; have HG := Lib.hid hg1; have HK1 := Lib.hid (IsRL.start (F := fun k => w.heap.size ≤ k ∧ k ≠ g) hg3 (fun h => h.2 rfl)); have HB1 := Lib.hid hb1; clear hg1 hg2 hg3 hb1)
  go_loopw [5] (fun iv wr => ∃ (i : Nat) (es : List EntV), iv = .int .i64 i ∧ i ≤ n ∧ es.length ≤ i ∧ Hid (rofV [] os = rofV es (os.drop i)) ∧ Hid (IsRL wr g (fun k => w.heap.size ≤ k ∧ k ≠ g) es) ∧ Hid (Below w.heap.size w wr)) (fun iv _ => n - (intOf iv).toNat)
  case atStart => exact ⟨0, [], rfl, Nat.zero_le _, Nat.le_refl _, rfl, HK1.out, HB1.out⟩
  case round =>
    obtain ⟨i, es, rfl, hi, hel, heq, hk, hb⟩ := hrel
    obtain ⟨wo, rfl⟩ : ∃ wo, wo = wr := ⟨_, rfl⟩
    have HEQ := Lib.hid heq.out
    have HK := Lib.hid hk.out
    have HB := Lib.hid hb.out
    clear heq hk
    by_cases hlt : i < n
    · have hil : i < os.length := by rw [HNL.out]; exact hlt
      obtain ⟨a, L, mo, B, cp, rfl, -, hoa⟩ := obj_at HR.out i hil
      have hdr := List.drop_eq_getElem_cons hil
      have hfo := HOK.out _ (List.getElem_mem hil)
      obtain ⟨o, ho⟩ : ∃ o, os[i] = o := ⟨_, rfl⟩
      rw [ho] at hoa hdr hfo
      have HOA := Lib.hid (hoa.below hb.out)
      have HFO := Lib.hid hfo
      obtain ⟨⟨z, es2⟩, hz⟩ : ∃ v, radV 1 es o.v = v := ⟨_, rfl⟩
      have HZ := Lib.hid hz
      have HN2 := Lib.hid (show rofV [] os = if z ≠ 0 then (z, es) else rofV es2 (os.drop (i + 1)) by
        rw [HEQ.out, hdr, rofV, hz])
      have HE2 := Lib.hid (show es2.length ≤ es.length + 1 from by
        have hz' := hz
        unfold radV at hz'
        split at hz'
        · cases hz'; omega
        · unfold addE at hz'
          obtain ⟨-, rfl⟩ := Prod.mk.inj hz'
          split <;> simp)
      obtain ⟨y0, y1, y2, y3, y4, y5, y6, -, -⟩ := HOA.out
      have hlti : (i : Int) < (n : Int) := by omega
      have hi0 : (0 : Int) ≤ (i : Int) := by omega
      have HCH := Lib.hid (rcharge_any g (fun k => w.heap.size ≤ k ∧ k ≠ g) es es.length rfl o.v L o.ls.length mo B cp P wo (HOA.out.rarg HFO.out.1 HFO.out.2) HK.out (fun k hk => ⟨Nat.le_trans HB.out.size hk, by have := HK.out.glt; omega⟩) (by omega) z es2 HZ)
      have HTB := Lib.hid (fun W (ht : Turn (fun k => k = g) wo W) => HB.out.trans (ht.below HB.out.size fun k e => by subst e; exact HG.out))
      clear hdr hfo ho hz hoa hb
      by_cases hz0 : z = 0
      · subst hz0
        go_wp2_with (go_at_call 30; have q := HCH.out; refine q.mono ?_; clear q; rintro e w2 ⟨rfl, hk2, ht2⟩; have HK2 := Lib.hid hk2; have HB2 := Lib.hid (HTB.out w2 ht2); clear hk2 ht2)
        go_roundw
        case rel => exact ⟨i + 1, es2, by go_num, hlt, by have := HE2.out; omega, by have := HN2.out; simpa [Hid] using this, HK2.out, HB2.out⟩
        case measure => simp [intOf]; omega
      · have e1 : (z != 0) = true := by simpa using hz0
        have HRES := Lib.hid (show (rofV [] os).1 = z by rw [HN2.out, if_pos hz0])
        have HZ0 := Lib.hid hz0
        clear hz0
        go_wp2_with (go_at_call 30; have q := HCH.out; refine q.mono ?_; clear q; rintro e w2 ⟨rfl, hk2, ht2⟩; have HB2 := Lib.hid (HTB.out w2 ht2); clear hk2 ht2)
        go_ret2
        exact ⟨.inl ⟨by rw [HRES.out]; exact HZ0.out, by rw [HRES.out]; rfl⟩, HB2.out⟩
    · have hge : ¬ ((i : Int) < (n : Int)) := by omega
      have HRES := Lib.hid (show rofV [] os = (0, es) by rw [HEQ.out, List.drop_eq_nil_of_le (by rw [HNL.out]; omega)]; rfl)
      clear hb
      go_wp2
      go_ret2
      refine ⟨.inr ?_, HB.out⟩
      rw [HRES.out]
      exact ⟨rfl, g, rfl, HG.out, HK.out⟩
end Go.Proofs.YtalkdddeiebfmaaGreatDoor
/- LedgerOfMany: the walk. -/
namespace Go.Proofs.YtalkdddeiebfmaaGreatDoor
open Go.RowKit

theorem esz_of : ∀ {os : List ObjM} {es es' : List EntV} {a b : Nat} {z : Int}, ESz es a b → rofV es os = (z, es') → ESz es' (a + os.length) (b + (os.map fun o => (usesU o.v).length).sum)
  | [], es, es', a, b, z, h, hr => by
    unfold rofV at hr
    cases hr
    exact h.mono (by simp) (by simp)
  | o :: os, es, es', a, b, z, h, hr => by
    unfold rofV at hr
    obtain ⟨⟨z1, es1⟩, h1⟩ : ∃ v, radV 1 es o.v = v := ⟨_, rfl⟩
    rw [h1] at hr
    rw [List.length_cons, List.map_cons, List.sum_cons]
    split at hr
    · cases hr; exact h.mono (by omega) (by omega)
    · exact (esz_of (h.rad h1) hr).mono (by omega) (by omega)
set_option maxRecDepth 100000 in
set_option maxHeartbeats 1000000 in
theorem ledgerOfMany_any (os : List ObjM) (n : Nat) (hn : os.length = n) (A : Option Addr) (c : Nat) (P : Nat → Prop) (w : World) (hm : Ml w) (ht : TextsAt w) (hr : Row kObj P w A os) (hok : ∀ o ∈ os, ObjMFit o ∧ o.path.size ≤ 1073741824) (hlen : n ≤ 1048576)
    (hw : (os.map objWt).sum ≤ 1099511627776) (hu : (os.map fun o => (usesU o.v).length).sum ≤ 1073741823) :
    Calls Tryz.prog 3 #[.slice A n c] w fun e w' => e = .returned (.bool true) ∧ Below w.heap.size w w' := by
  have HM := Lib.hid hm
  have HT := Lib.hid ht
  have HR := Lib.hid hr
  have HOK := Lib.hid hok
  have HNL := Lib.hid hn
  have HW := Lib.hid hw
  have HU := Lib.hid hu
  clear hm ht hr hok hn hw hu
  go_enter Tryz.func3, Tryz.ntmps3
  go_wp2
  go_loopw [3, 4] (fun lv iv wr => ∃ (i cc : Nat) (A7 : Option Addr) (R : Nat → Prop), iv = .int .i64 i ∧ lv = .slice A7 i cc ∧ i ≤ n ∧ Hid (ListAt kObj 26 w.heap.size wr lv (os.take i) R) ∧ Hid (Below w.heap.size w wr)) (fun _ iv _ => n - (intOf iv).toNat)
  case atStart => exact ⟨0, 0, none, _, rfl, rfl, Nat.zero_le _, ListAt.nil _ _ _ _, Below.refl _ _⟩
  case round =>
    obtain ⟨i, cc, A7, R, rfl, rfl, hi, hli, hb⟩ := hrel
    obtain ⟨wq, rfl⟩ : ∃ wq, wq = wr := ⟨_, rfl⟩
    have HLI := Lib.hid hli.out
    have HB := Lib.hid hb.out
    clear hli
    by_cases hlt : i < n
    · have hil : i < os.length := by rw [HNL.out]; exact hlt
      obtain ⟨a, L, m, B0, cp, rfl, -, hoa⟩ := obj_at HR.out i hil
      have htk := List.take_succ_eq_append_getElem hil
      have hfo := HOK.out _ (List.getElem_mem hil)
      obtain ⟨o, ho⟩ : ∃ o, os[i] = o := ⟨_, rfl⟩
      rw [ho] at hoa htk hfo
      have HTK := Lib.hid htk.symm
      have HLEN := Lib.hid (show (os.take (i + 1)).length = i + 1 by rw [List.length_take]; omega)
      have HFO := Lib.hid hfo
      have HOA := Lib.hid (hoa.below hb.out)
      have HOW := Lib.hid (own_objM o L m B0 cp wq (HOA.out.fit HFO.out.1))
      obtain ⟨y0, y1, y2, y3, y4, y5, y6, -, -⟩ := HOA.out
      have hlti : (i : Int) < (n : Int) := by omega
      have hi0 : (0 : Int) ≤ (i : Int) := by omega
      have h104 : (i + 1) * 104 ≤ 140737488355328 := by omega
      have HSZ := Lib.hid HB.out.size
      clear hoa htk hfo ho hb
      go_wp2_with (first
        | (go_at_call 10; have q := HOW.out; refine q.mono ?_; clear q; rintro e w4 ⟨L4, m4, B4, c4, rfl, hr4, hb4⟩
           have HC := Lib.hid (show Row kObj (fun k => (wq.heap.size ≤ k ∧ k < w4.heap.size) ∨ k = w4.heap.size) (w4.alloc (.cells #[.string o.path, .string o.name, .slice L4 o.ls.length m4, .int .i64 o.prio, .int .i64 o.dl, .slice B4 o.parts.length c4, .int .i64 o.ver] 26)) (some ⟨w4.heap.size, 0, none⟩) [o] from
             Row.newOne (cs := [.string o.path, .string o.name, .slice L4 o.ls.length m4, .int .i64 o.prio, .int .i64 o.dl, .slice B4 o.parts.length c4, .int .i64 o.ver]) (kObj.keep (fun k _ hk => heap_alloc_old _ _ hk) hr4))
           have HB4 := Lib.hid (hb4.alloc hb4.size (.cells #[.string o.path, .string o.name, .slice L4 o.ls.length m4, .int .i64 o.prio, .int .i64 o.dl, .slice B4 o.parts.length c4, .int .i64 o.ver] 26))
           have HLS := Lib.hid (HLI.out.below HB4.out)
           have hsz4 := hb4.size
           clear hr4 hb4 y0 y1 y2 y3 y4 y5 y6)
        | (at_builtin; refine wpList_appN objElem w.heap.size rfl (.tmp 15) (.tmp 21) rfl (v := .slice A7 i cc) (xs := os.take i) (ys := [o]) (zs := os.take (i + 1)) (nz := i + 1) HTK.out HLEN.out rfl HLS.out.own (fun k hk => (HLS.out.low k hk).2.2) (fun k hk e => by have := (HLI.out.own.block_lt _ e).2; omega) rfl rfl HC.out (by exact h104) (by have := HSZ.out; simp; omega) ?_; intro A8 c8 w8 happ
           have HL8 := Lib.hid (HLS.out.app (fun k hk => ⟨by have := HSZ.out; omega, by simp only [World.alloc, Array.size_push]; omega, fun e => by have := (HLI.out.own.block_lt _ e).2; omega⟩) happ)
           have HB8 := Lib.hid (happ.below (HB.out.trans (HB4.out.mono HSZ.out)) (by have := HSZ.out; simp; omega) (fun k e => (HLI.out.own.block_lt k e).1)); clear happ HLS HC))
      go_roundw
      case rel => exact ⟨i + 1, c8, A8, _, by go_num, rfl, hlt, HL8.out, HB8.out⟩
      case measure => simp [intOf]; omega
    · have hge : ¬ ((i : Int) < (n : Int)) := by omega
      obtain rfl : i = n := by omega
      have hos : os.take i = os := List.take_of_length_le (by rw [HNL.out]; exact Nat.le_refl _)
      rw [hos] at HLI
      have HRW := Lib.hid HLI.out.row.2.1
      obtain ⟨⟨z, S, C⟩, hof⟩ : ∃ v, ofV Z0 C0 os = v := ⟨_, rfl⟩
      obtain ⟨es, hes, hrel⟩ := rel_of rel_nil ledOk_zero (fun o ho => (HOK.out o ho).1.ok) hof
      have hez := esz_of esz_nil hes
      obtain ⟨N, hNN⟩ : ∃ N, (os.map objWt).sum = N := ⟨_, rfl⟩
      have HCO := Lib.hid (show Calls Tryz.prog 11 #[.slice A7 i cc] wq (LOfPost os N wq) from by
        have := ledgerOf_any os A7 cc _ wq (HM.out.below HB.out) (HT.out.below HB.out) HRW.out (fun o ho => (HOK.out o ho).1.ok) (by rw [HNL.out]; omega) (by have := HW.out; omega)
        rw [HNL.out, hNN] at this
        exact this)
      have HCR := Lib.hid (fun W (hb : Below w.heap.size w W) => rlOf_any os i HNL.out A c P W (HR.out.below hb) HOK.out (by omega))
      have HWN := Lib.hid (show N ≤ 1099511627776 by rw [← hNN]; exact HW.out)
      have HOF := Lib.hid hof
      have HES := Lib.hid hes
      have HREL := Lib.hid hrel
      have HEZ := Lib.hid (hez.mono (show 0 + os.length ≤ 1048576 by rw [HNL.out]; omega) (show 0 + _ ≤ 1073741823 by have := HU.out; omega))
      clear hos hof hes hrel hez hNN hb
      by_cases hz : z = 0
      · subst hz
        go_upto_region 10 with (first
          | (go_at_call 11; refine HCO.out.mono ?_; rintro e w4 ⟨hres, hb4⟩; have HB4 := Lib.hid (HB.out.trans (hb4.mono HB.out.size)); have HRES := Lib.hid hres; clear hb4 hres; rw [HOF.out] at HRES; rcases HRES.out with ⟨h0, -⟩ | ⟨-, gc, c1, c2, rfl, hkc, hokc, -⟩; first | exact absurd rfl h0 | skip)
          | (go_at_call 12; refine (HCR.out w4 HB4.out).mono ?_; rintro e w5 ⟨hres, hb5⟩; have HB45 := Lib.hid hb5; have HRES5 := Lib.hid hres; clear hb5 hres; rw [HES.out] at HRES5; rcases HRES5.out with ⟨h0, -⟩ | ⟨-, gr, rfl, -, hkr⟩; first | exact absurd rfl h0 | skip))
        have HKC := Lib.hid hkc
        have HOKC := Lib.hid hokc
        have HKR := Lib.hid hkr
        clear hkc hokc hkr
        have HB5 := Lib.hid (HB4.out.trans (HB45.out.mono HB4.out.size))
        go_wp2_with (first
          | (go_at_call 14; have q := lrows_any w5 (HM.out.below HB5.out) (HKC.out.below HB45.out) HOKC.out (by have := HWN.out; omega); refine q.mono ?_; clear q; rintro e w6 ⟨A6, c6, R6, rfl, ho6, hr6, hb6⟩; have HR6 := Lib.hid hr6; have HB56 := Lib.hid hb6; have HO6 := Lib.hid ho6.row'.2.1; have HLE := Lib.hid (show R6.length ≤ 9223372036854775807 by have h1 := ho6.row'.2.2.1; have h2 := ho6.row'.2.2.2; unfold maxLen at h2; omega); clear ho6 hr6 hb6)
          | (go_at_call 15; have q := rrows_any gr _ es S C N w6 (HKR.out.below HB56.out) HREL.out HOKC.out (by have := HEZ.out.len; omega) (by have := HEZ.out.line; omega) HEZ.out.uses (by have := HWN.out; omega); refine q.mono ?_; clear q; rintro e w7 ⟨A7', c7, R7, rfl, hr7, hs7, hb7⟩; have h7 := rowsOf_unique hs7 HR6.out; have HB67 := Lib.hid hb7; have HO7 := Lib.hid (h7 ▸ hr7); rw [h7]; clear hr7 hs7 hb7 h7)
          | (go_at_call 13; have q := sameRows_val A6 A7' _ c6 c7 _ _ R6 w7 (HO6.out.below HB67.out) HO7.out rfl HLE.out; refine q.mono ?_; clear q; rintro e w8 ⟨rfl, hb8⟩; have HB8 := Lib.hid (HB5.out.trans ((HB56.out.trans ((HB67.out.trans (hb8.mono HB67.out.size)).mono HB56.out.size)).mono HB5.out.size)); clear hb8))
        go_ret
        exact ⟨rfl, HB8.out⟩
      · have HZ := Lib.hid hz
        clear hz
        go_wp2_with (first
          | (go_at_call 11; refine HCO.out.mono ?_; rintro e w4 ⟨hres, hb4⟩; have HB4 := Lib.hid (HB.out.trans (hb4.mono HB.out.size)); have HRES := Lib.hid hres; clear hb4 hres; rw [HOF.out] at HRES; rcases HRES.out with ⟨-, rfl⟩ | ⟨h0, -⟩; skip; first | exact absurd h0 HZ.out | skip)
          | (go_at_call 12; refine (HCR.out w4 HB4.out).mono ?_; rintro e w5 ⟨hres, hb5⟩; have HB5 := Lib.hid (HB4.out.trans (hb5.mono HB4.out.size)); have HRES5 := Lib.hid hres; clear hb5 hres; rw [HES.out] at HRES5; rcases HRES5.out with ⟨-, rfl⟩ | ⟨h0, -⟩; skip; first | exact absurd h0 HZ.out | skip))
        go_ret
        exact ⟨rfl, HB5.out⟩
end Go.Proofs.YtalkdddeiebfmaaGreatDoor
