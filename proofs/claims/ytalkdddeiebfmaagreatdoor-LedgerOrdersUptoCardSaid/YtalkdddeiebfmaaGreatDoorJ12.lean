/- The ledger's gone, Release and Change: the walks. -/
import Derived.Test.YtalkdddeiebfmaaGreatDoorJ11
namespace Go.Proofs.YtalkdddeiebfmaaGreatDoor
open Go.RowKit Go.Maps Go.WideMaps

theorem any_take_false {C : ByteArray → Int} {l : List ByteArray} : l.any (fun p => C p == 0) = false ↔ ∀ p ∈ l, C p ≠ 0 := by
  rw [List.any_eq_false]
  exact ⟨fun h p hp => by simpa using h p hp, fun h p hp => by simpa using h p hp⟩
section
variable {g b1 b2 n : Nat} {S : Pl → Int} {C : ByteArray → Int}
def GonePost (r : List ByteArray × List Sh × Int) (w : World) (e : Ending) (w' : World) : Prop :=
  ∃ A c B d, e = .returned (.tuple #[.slice A r.1.length c, .slice B r.2.1.length d, .int .i64 r.2.2]) ∧ Row Kn.str (fun k => w.heap.size ≤ k ∧ k < w'.heap.size) w' A r.1 ∧ Row kSh (fun k => w.heap.size ≤ k ∧ k < w'.heap.size) w' B r.2.1 ∧ Below w.heap.size w w'
theorem GonePost.none {r : List ByteArray × List Sh × Int} {z : Int} (h : r = ([], [], z)) {w w' : World} (hb : Below w.heap.size w w') : GonePost r w (.returned (.tuple #[.slice none 0 0, .slice none 0 0, .int .i64 z])) w' := by
  subst h
  exact ⟨Option.none, 0, Option.none, 0, rfl, Row.nil _ _ _ _, Row.nil _ _ _ _, hb⟩
theorem GonePost.mk_ {r : List ByteArray × List Sh × Int} {l : List ByteArray} {T : List Sh} {nl nt : Nat} (h : r = (l, T, 0)) (hl : l.length = nl) (ht : T.length = nt) {w w1 w' : World} {A B : Option Addr} {c d : Nat} {P Q : Nat → Prop} (h1 : Row Kn.str P w' A l) (h2 : Row kSh Q w' B T)
    (hP : ∀ k, P k → w.heap.size ≤ k ∧ k < w'.heap.size) (hQ : ∀ k, Q k → w.heap.size ≤ k ∧ k < w'.heap.size) (hb : Below w.heap.size w w') : GonePost r w (.returned (.tuple #[.slice A nl c, .slice B nt d, .int .i64 0])) w' := by
  subst h
  subst hl
  subst ht
  exact ⟨A, c, B, d, rfl, h1.mono hP, h2.mono hQ, hb⟩
set_option maxRecDepth 100000 in
set_option maxHeartbeats 1000000 in
theorem gone_any (o : ObjV) (L : Option Addr) (no mo : Nat) (B : Option Addr) (c : Nat) (P : Nat → Prop) (w : World) (h : OArg w o L no mo B P) (k : IsLed w g b1 b2 n S C) :
    Calls Tryz.prog 45 #[.pointer (some ⟨g, 0, none⟩), .agg #[.string o.path, .string o.name, .slice L no mo, .int .i64 o.prio, .int .i64 o.dl, .slice B o.parts.length c, .int .i64 o.ver]] w (GonePost (goneV S C o) w) := by
  have hb0 := (Below.refl w.heap.size w).alloc (Nat.le_refl _) (.cells #[.string o.path, .string o.name, .slice L no mo, .int .i64 o.prio, .int .i64 o.dl, .slice B o.parts.length c, .int .i64 o.ver] 26)
  have hx := OBox.of (heap_alloc_new w (.cells #[.string o.path, .string o.name, .slice L no mo, .int .i64 o.prio, .int .i64 o.dl, .slice B o.parts.length c, .int .i64 o.ver] 26))
  obtain ⟨⟨l, T, z⟩, hV⟩ : ∃ r, sharesV o = r := ⟨_, rfl⟩
  have hcv : goneV S C o = if z ≠ 0 then ([], [], z) else if judgeU S T ≠ 0 then ([], [], judgeU S T) else if l.any (fun p => C p == 0) = true then ([], [], 170) else (l, T, 0) := by unfold goneV; rw [hV]
  have HV := Lib.hid hV
  have hso : z = 0 → SharesOk o l T := fun hz => sharesV_ok h.use (by rw [hV, hz])
  have HA := Lib.hid h
  have HK := Lib.hid k
  have HB0 := Lib.hid hb0
  have HX := Lib.hid hx
  have HCV := Lib.hid hcv
  have HSO := Lib.hid hso
  obtain ⟨nl, hnl⟩ : ∃ n, l.length = n := ⟨_, rfl⟩
  obtain ⟨nt, hnt⟩ : ∃ n, T.length = n := ⟨_, rfl⟩
  have HNL := Lib.hid hnl
  have HNT := Lib.hid hnt
  obtain ⟨-, r0, r1, r2, r3, r4, r5, r6, -⟩ := HX.out
  clear hV hcv hso h k hb0 hx hnl hnt
  go_enter Tryz.func45, Tryz.ntmps45
  go_upto_region 2 with (go_at_call 41; refine (shares_at o l T z nl nt HV HNL.out HNT.out L no mo B c P _ (HA.out.below HB0.out)).mono ?_; rintro e w1 ⟨A1, c1, B1, d1, rfl, hr1, hq1, hb1⟩; have HR1 := Lib.hid hr1; have HQ1 := Lib.hid hq1; have HB1 := Lib.hid (HB0.out.trans (hb1.mono HB0.out.size)); have HBB := Lib.hid hb1; clear hr1 hq1 hb1)
  clear r0 r1 r2 r3 r4 r5 r6
  by_cases hz : z = 0
  · subst hz
    have so := HSO.out rfl
    have SO := Lib.hid so
    obtain ⟨j, hj⟩ : ∃ j, judgeU S T = j := ⟨_, rfl⟩
    have HJ := Lib.hid hj
    have hnt9 : nt ≤ 9223372036854775807 := by have := so.len; rw [HNT.out] at this; omega
    have HS := Lib.hid (fun s hs => (so.sh s hs).1 : ∀ s ∈ T, ShOk s)
    have HC2 := HCV.out
    rw [if_neg (by simp), hj] at HC2
    have HCV2 := Lib.hid HC2
    clear so hj HC2 HCV
    go_upto_region 5 with (go_at_call 42; refine (judge_under T nt HNT.out j HJ HS.out hnt9 B1 d1 _ w1 (HK.out.below HB1.out) HQ1.out).mono ?_; rintro e w2 ⟨rfl, hb2⟩; have HB2 := Lib.hid hb2; have HBA := Lib.hid (HB1.out.trans (hb2.mono HB1.out.size)); clear hb2)
    by_cases hj0 : j = 0
    · subst hj0
      have HC2 := HCV2.out
      rw [if_neg (by simp)] at HC2
      have HCV3 := Lib.hid HC2
      have hl9 : nl ≤ 9 := by rw [← HNL.out]; exact SO.out.few
      clear HC2 HCV2
      go_wp2
      go_loopw [30] (fun iv wr => ∃ i : Nat, iv = .int .i64 i ∧ i ≤ nl ∧ Hid (Below w2.heap.size w2 wr) ∧ Hid (∀ p ∈ l.take i, C p ≠ 0)) (fun iv _ => nl - (intOf iv).toNat)
      case atStart => exact ⟨0, rfl, Nat.zero_le _, Below.refl _ _, by simp [Hid]⟩
      case round =>
        obtain ⟨i, rfl, hi, hbr, hnz⟩ := hrel
        obtain ⟨wo, rfl⟩ : ∃ wo, wo = wr := ⟨_, rfl⟩
        have HBW := Lib.hid (HBA.out.trans (hbr.out.mono HBA.out.size))
        by_cases hlt : i < nl
        · have hltx : i < l.length := by rw [HNL.out]; exact hlt
          obtain ⟨a, rfl, x0⟩ := row_str_at ((HR1.out.below HB2.out).below hbr.out) i hltx
          obtain ⟨p, hp⟩ : ∃ p, l[i] = p := ⟨_, rfl⟩
          have hpm : p ∈ l := by rw [← hp]; exact List.getElem_mem _
          rw [hp] at x0
          have kw := HK.out.below HBW.out
          have g1 := kw.g1
          have lk := kw.cnts.look (SO.out.path p hpm).2
          obtain ⟨z, hz⟩ : ∃ z, C p = z := ⟨_, rfl⟩
          rw [hz] at lk
          have hlti : (i : Int) < (nl : Int) := by omega
          by_cases h0 : z = 0
          · have hf := Lib.hid (show goneV S C o = ([], [], 170) by
              rw [HCV3.out, if_pos]
              rw [List.any_eq_true]
              exact ⟨p, hpm, by simp [hz, h0]⟩)
            have e1 : (z == 0) = true := by simpa using h0
            subst h0
            clear kw hp hpm hz hnz
            go_wp2
            go_ret3
            exact GonePost.none hf.out HBW.out
          · have e1 : (z == 0) = false := by simpa using h0
            have HN2 := Lib.hid (show ∀ p ∈ l.take (i + 1), C p ≠ 0 by
              rw [List.take_succ_eq_append_getElem hltx]
              intro y hy
              rcases List.mem_append.1 hy with hy | hy
              · exact hnz.out y hy
              · rw [List.mem_singleton.1 hy, hp, hz]; exact h0)
            have HBR := Lib.hid hbr.out
            clear kw hp hpm hz hnz h0 hbr
            go_wp2
            go_roundw
            case rel => exact ⟨i + 1, by go_num, hlt, HBR.out, HN2.out⟩
            case measure => simp [intOf]; omega
        · have hge : ¬ ((i : Int) < (nl : Int)) := by omega
          have hf := Lib.hid (show goneV S C o = (l, T, 0) by
            rw [HCV3.out, if_neg]
            rw [Bool.not_eq_true, any_take_false]
            have := hnz.out
            rwa [List.take_of_length_le (by rw [HNL.out]; omega)] at this)
          have HBR := Lib.hid hbr.out
          have hs0 := HB0.out.size
          have hs2 := HB2.out.size
          have hs3 := hbr.out.size
          have HFIN := Lib.hid (GonePost.mk_ (w := w) (w1 := w1) (w' := wo) (c := c1) (d := d1) hf.out HNL.out HNT.out ((HR1.out.below HB2.out).below hbr.out) ((HQ1.out.below HB2.out).below hbr.out) (fun k hk => by omega) (fun k hk => by omega) HBW.out)
          clear hbr hnz hs0 hs2 hs3
          go_wp2
          go_ret3
          exact HFIN.out
    · have HC2 := HCV2.out
      rw [if_pos hj0] at HC2
      have HCV3 := Lib.hid HC2
      have e1 : (j != 0) = true := by simpa using hj0
      clear HC2 hj0
      go_wp2
      go_ret3
      exact GonePost.none HCV3.out HBA.out
  · have HC2 := HCV.out
    rw [if_pos hz] at HC2
    have HCV3 := Lib.hid HC2
    have e1 : (z != 0) = true := by simpa using hz
    clear HC2 hz
    go_wp2
    go_ret3
    exact GonePost.none HCV3.out HB1.out

theorem gone_at (o : ObjV) (l : List ByteArray) (T : List Sh) (z : Int) (nl nt : Nat) (hV : Hid (goneV S C o = (l, T, z))) (hl : l.length = nl) (ht : T.length = nt) (L : Option Addr) (no mo : Nat) (B : Option Addr) (c : Nat) (P : Nat → Prop) (w : World) (h : OArg w o L no mo B P) (k : IsLed w g b1 b2 n S C) :
    Calls Tryz.prog 45 #[.pointer (some ⟨g, 0, none⟩), .agg #[.string o.path, .string o.name, .slice L no mo, .int .i64 o.prio, .int .i64 o.dl, .slice B o.parts.length c, .int .i64 o.ver]] w fun e w' =>
      ∃ A c B d, e = .returned (.tuple #[.slice A nl c, .slice B nt d, .int .i64 z]) ∧ Row Kn.str (fun k => w.heap.size ≤ k ∧ k < w'.heap.size) w' A l ∧ Row kSh (fun k => w.heap.size ≤ k ∧ k < w'.heap.size) w' B T ∧ Below w.heap.size w w' := by
  subst hl
  subst ht
  have := gone_any o L no mo B c P w h k
  unfold GonePost at this
  rw [hV.out] at this
  exact this
theorem goneV_ok {o : ObjV} (hu : UseOk o) {l : List ByteArray} {T : List Sh} (h : goneV S C o = (l, T, 0)) : SharesOk o l T ∧ judgeU S T = 0 ∧ l.any (fun p => C p == 0) = false := by
  unfold goneV at h
  split at h
  · rename_i h1
    exact absurd (congrArg (fun z => z.2.2) h) h1
  · rename_i h1
    split at h
    · rename_i h2
      exact absurd (congrArg (fun z => z.2.2) h) h2
    · rename_i h2
      split at h
      · have : (170 : Int) = 0 := congrArg (fun z => z.2.2) h
        omega
      · rename_i h3
        cases h
        refine ⟨sharesV_ok hu ?_, by simpa using h2, by simpa using h3⟩
        have : (sharesV o).2.2 = 0 := by simpa using h1
        rw [← this]
theorem chargeV_err {o : ObjV} (h : (chargeV S C o).1 ≠ 0) : chargeV S C o = ((chargeV S C o).1, S, C) := by
  unfold chargeV at h ⊢
  split
  · rfl
  · split
    · rfl
    · rename_i h1 h2
      rw [if_neg h1, if_neg h2] at h
      exact absurd rfl h
set_option maxRecDepth 100000 in
set_option maxHeartbeats 1000000 in
theorem release_any (o : ObjV) (mm : Nat) (L : Option Addr) (no mo : Nat) (B : Option Addr) (c : Nat) (P : Nat → Prop) (w : World) (h : OArg w o L no mo B P) (k : IsLed w g b1 b2 n S C) (ok : LedOk mm S C) (hm : mm ≤ 4611686018427387904) (n' : Nat) (hn : n + 60000000000 ≤ n') (hnx : n' < maxLen) :
    Calls Tryz.prog 18 #[.pointer (some ⟨g, 0, none⟩), .agg #[.string o.path, .string o.name, .slice L no mo, .int .i64 o.prio, .int .i64 o.dl, .slice B o.parts.length c, .int .i64 o.ver]] w (LedPost g b1 b2 n' (releaseV S C o) w) := by
  have hb0 := (Below.refl w.heap.size w).alloc (Nat.le_refl _) (.cells #[.string o.path, .string o.name, .slice L no mo, .int .i64 o.prio, .int .i64 o.dl, .slice B o.parts.length c, .int .i64 o.ver] 26)
  have hx := OBox.of (heap_alloc_new w (.cells #[.string o.path, .string o.name, .slice L no mo, .int .i64 o.prio, .int .i64 o.dl, .slice B o.parts.length c, .int .i64 o.ver] 26))
  obtain ⟨⟨l, T, z⟩, hV⟩ : ∃ r, goneV S C o = r := ⟨_, rfl⟩
  have HCV := Lib.hid (show releaseV S C o = if z = 0 then (0, addS (-1) S T, addC (-1) C l) else (z, S, C) by unfold releaseV; rw [hV])
  have HV := Lib.hid hV
  have HGO := Lib.hid (fun (hz : z = 0) => goneV_ok (S := S) (C := C) h.use (show goneV S C o = (l, T, 0) by rw [hV, hz]))
  have HA := Lib.hid h
  have HK := Lib.hid k
  have HOK := Lib.hid ok
  have HB0 := Lib.hid hb0
  have HX := Lib.hid hx
  obtain ⟨nl, hnl⟩ : ∃ n, l.length = n := ⟨_, rfl⟩
  obtain ⟨nt, hnt⟩ : ∃ n, T.length = n := ⟨_, rfl⟩
  have HNL := Lib.hid hnl
  have HNT := Lib.hid hnt
  have HLT := Lib.hid k.lt
  obtain ⟨-, r0, r1, r2, r3, r4, r5, r6, -⟩ := HX.out
  clear hV h k ok hb0 hx hnl hnt
  go_enter Tryz.func18, Tryz.ntmps18
  go_upto_region 2 with (go_at_call 45; refine (gone_at o l T z nl nt HV HNL.out HNT.out L no mo B c P _ (HA.out.below HB0.out) (HK.out.below HB0.out)).mono ?_; rintro e w1 ⟨A1, c1, B1, d1, rfl, hr1, hq1, hb1⟩; have HR1 := Lib.hid hr1; have HQ1 := Lib.hid hq1; have HB1 := Lib.hid (HB0.out.trans (hb1.mono HB0.out.size)); clear hr1 hq1 hb1)
  clear r0 r1 r2 r3 r4 r5 r6
  by_cases hz : z = 0
  · subst hz
    obtain ⟨so, hj, hc⟩ := HGO.out rfl
    have HC2 := HCV.out
    rw [if_pos rfl] at HC2
    have HCV2 := Lib.hid HC2
    have hl9 : nl ≤ 9 := by rw [← HNL.out]; exact so.few
    have hT9 : nt ≤ 57982058550 := by rw [← HNT.out]; exact so.len
    have hsz0 := HB0.out.size
    have HMO := Lib.hid (moveOk_release HOK.out hm so hj)
    have HNE := Lib.hid (fun i (hi : (w.alloc (.cells #[.string o.path, .string o.name, .slice L no mo, .int .i64 o.prio, .int .i64 o.dl, .slice B o.parts.length c, .int .i64 o.ver] 26)).heap.size ≤ i ∧ i < w1.heap.size) => (show i ≠ b1 ∧ i ≠ b2 from
      ⟨fun e => by have := HLT.out b1 (.inr (.inl rfl)); omega, fun e => by have := HLT.out b2 (.inr (.inr rfl)); omega⟩))
    clear HC2 HCV hsz0 so hj hc
    go_wp2_with (go_at_call 44; refine (move_at (-1) l T nl nt HNL.out HNT.out A1 B1 c1 d1 _ _ w1 (HK.out.below HB1.out) HMO.out HR1.out HQ1.out HNE.out HNE.out hl9 hT9 n' hn hnx).mono ?_; rintro e w3 ⟨rfl, hk3, ht3⟩; have HK3 := Lib.hid hk3; have HT3 := Lib.hid ht3; clear hk3 ht3)
    go_ret
    rw [HCV2.out]
    exact ⟨rfl, HK3.out, (Turn.of_below HB1.out).trans (HT3.out.mono fun j _ hj => .inl hj)⟩
  · have HC2 := HCV.out
    rw [if_neg hz] at HC2
    have HCV3 := Lib.hid HC2
    have e1 : (z == 0) = false := by simpa using hz
    clear HC2 hz
    go_wp2
    go_ret
    exact LedPost.kept HCV3.out HK.out HB1.out (by omega)
end
end Go.Proofs.YtalkdddeiebfmaaGreatDoor
