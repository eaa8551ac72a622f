/- Uses, Of, In of an object that is read from memory; within. -/
import Derived.Test.YtalkdddeiebfmaaGreatDoorJ70
namespace Go.Proofs.YtalkdddeiebfmaaGreatDoor
open Go.RowKit

section
variable {o : ObjM} {P : Nat → Prop} {w : World}
theorem objOk_of {L : Option Addr} {m : Nat} {B : Option Addr} (f : ObjMOk o) (hr : Row kPart P w B o.parts) : ObjOk w (o.v.re L o.ls.length m) B P := ⟨⟨L, _, m, rfl⟩, hr, f.len, f.small⟩
theorem usesM_any (f : ObjMOk o) (L : Option Addr) (m : Nat) (B : Option Addr) (c : Nat) (hr : Row kPart P w B o.parts) :
    Calls Tryz.prog 29 #[.agg #[.string o.path, .string o.name, .slice L o.ls.length m, .int .i64 o.prio, .int .i64 o.dl, .slice B o.parts.length c, .int .i64 o.ver]] w fun e w' =>
      ∃ A k, e = .returned (.tuple #[.slice A (usesU o.v).length k, .int .i64 (usesV o.parts).2]) ∧ Row kAmt (fun _ => True) w' A (usesU o.v) ∧ (usesU o.v).length ≤ 9223372036854775807 ∧ Below w.heap.size w w' := by
  refine (uses_any (o.v.re L o.ls.length m) B c P w (objOk_of f hr) f.use.names (by have := f.use.few; exact Nat.le_trans this (by omega))).mono fun e w' hp => ?_
  obtain ⟨A, k, rfl, ho, hb⟩ := hp
  have hlen : (usesV o.parts).1.length = (usesU o.v).length := by unfold usesU; rw [List.length_map]; rfl
  have ho' : Own kAmt 45 w.heap.size (fun _ => True) w' (.slice A (usesU o.v).length k) (usesU o.v) := by rw [← hlen]; exact ho
  refine ⟨A, k, by rw [← hlen]; rfl, ho'.row'.2.1, ?_, hb⟩
  have h1 := ho'.row'.2.2.1
  have h2 := ho'.row'.2.2.2
  unfold maxLen at h2
  omega
theorem inM_any (f : ObjMOk o) (s : ScV) (L : Option Addr) (m : Nat) (B : Option Addr) (c : Nat) (hr : Row kPart P w B o.parts) (ht : TextsAt w) :
    Calls Tryz.prog 28 #[.agg #[.string o.path, .string o.name, .slice L o.ls.length m, .int .i64 o.prio, .int .i64 o.dl, .slice B o.parts.length c, .int .i64 o.ver], .agg #[.int .i64 s.kind, .int .i64 s.arg]] w fun e w' =>
      e = .returned (.bool (inS o.prio o.dl o.parts s)) ∧ Below w.heap.size w w' := in_any s (o.v.re L o.ls.length m) B c P w (objOk_of f hr) ht
theorem ofM_any (f : ObjMOk o) (L : Option Addr) (m : Nat) (B : Option Addr) (c : Nat) (hr : Row kPart P w B o.parts) (ht : TextsAt w) :
    Calls Tryz.prog 53 #[.agg #[.string o.path, .string o.name, .slice L o.ls.length m, .int .i64 o.prio, .int .i64 o.dl, .slice B o.parts.length c, .int .i64 o.ver]] w fun e w' =>
      ∃ A k, e = .returned (.slice A (ofS o.v 6).length k) ∧ Row kSc (fun _ => True) w' A (ofS o.v 6) ∧ (ofS o.v 6).length ≤ 9223372036854775807 ∧ Below w.heap.size w w' := by
  refine (of_any (o.v.re L o.ls.length m) B c P w (objOk_of f hr) ht).mono fun e w' hp => ?_
  obtain ⟨A, k, rfl, ho, hb⟩ := hp
  have ho' : Own kSc 47 w.heap.size (fun _ => True) w' (.slice A (ofS o.v 6).length k) (ofS o.v 6) := ho
  refine ⟨A, k, rfl, ho'.row'.2.1, ?_, hb⟩
  have h1 := ho'.row'.2.2.1
  have h2 := ho'.row'.2.2.2
  unfold maxLen at h2
  omega
end
theorem valAt_nonneg {r : ByteArray} : ∀ {U : List Amt}, (∀ u ∈ U, 0 ≤ u.val) → 0 ≤ valAt U r
  | [], _ => by simp [valAt]
  | u :: U, h => by
    rw [valAt_cons]
    have h1 := h u (by simp)
    have h2 := valAt_nonneg (r := r) (U := U) fun v hv => h v (List.mem_cons_of_mem _ hv)
    split <;> omega
theorem valAt_take_le {r : ByteArray} {U : List Amt} (h : ∀ u ∈ U, 0 ≤ u.val) (j : Nat) : valAt (U.take j) r ≤ valAt U r := by
  have h1 := valAt_append (U.take j) (U.drop j) r
  rw [List.take_append_drop] at h1
  have h2 := valAt_nonneg (r := r) (U := U.drop j) fun u hu => h u (List.mem_of_mem_drop hu)
  omega
theorem usesU_pos {o : ObjV} (h : (usesV o.parts).2 = 0) : ∀ u ∈ usesU o, 0 ≤ u.val ∧ u.val ≤ 9223372036854775807 := fun u hu => by
  unfold usesU at hu
  obtain ⟨p, hp, rfl⟩ := List.mem_map.1 hu
  exact uses_val h p hp
theorem partW_nonneg {h : ObjM} (hz : (sharesV h.v).2.2 = 0) (p : ByteArray) (s : ScV) (r : ByteArray) : 0 ≤ partW h p s r := by
  unfold partW
  split
  · exact valAt_nonneg fun u hu => (usesU_pos (shares_path hz).2.1 u hu).1
  · exact Int.le_refl _
/-- the sum over what is held -/
def sumW (held : List ObjM) (p : ByteArray) (s : ScV) (r : ByteArray) : Int := (held.map fun h => partW h p s r).sum
theorem sumW_at {held : List ObjM} (hz : ∀ o ∈ held, (sharesV o.v).2.2 = 0) (p : ByteArray) (s : ScV) (r : ByteArray) : sumW held p s r = sumAt held (p, (s.kind, s.arg), r) := by
  unfold sumW sumAt
  congr 1
  exact List.map_congr_left fun o ho => partW_sv (hz o ho) p s r
theorem sumW_append (l l' : List ObjM) (p : ByteArray) (s : ScV) (r : ByteArray) : sumW (l ++ l') p s r = sumW l p s r + sumW l' p s r := by
  unfold sumW
  rw [List.map_append, List.sum_append]
theorem sumW_nonneg {p : ByteArray} {s : ScV} {r : ByteArray} : ∀ {l : List ObjM}, (∀ o ∈ l, (sharesV o.v).2.2 = 0) → 0 ≤ sumW l p s r
  | [], _ => by simp [sumW]
  | o :: l, h => by
    have h1 := partW_nonneg (h o (by simp)) p s r
    have h2 := sumW_nonneg (p := p) (s := s) (r := r) (l := l) fun q hq => h q (List.mem_cons_of_mem _ hq)
    unfold sumW at h2 ⊢
    rw [List.map_cons, List.sum_cons]; omega
theorem sumW_take {held : List ObjM} {i : Nat} (hi : i < held.length) (hz : ∀ o ∈ held, (sharesV o.v).2.2 = 0) (p : ByteArray) (s : ScV) (r : ByteArray) : sumW (held.take (i + 1)) p s r = sumW (held.take i) p s r + partW held[i] p s r ∧ sumW (held.take (i + 1)) p s r ≤ sumW held p s r ∧ 0 ≤ sumW (held.take i) p s r := by
  refine ⟨by rw [List.take_succ_eq_append_getElem hi, sumW_append]; simp [sumW], ?_, sumW_nonneg fun o ho => hz o (List.mem_of_mem_take ho)⟩
  have h1 := sumW_append (held.take (i + 1)) (held.drop (i + 1)) p s r
  rw [List.take_append_drop] at h1
  have h2 := sumW_nonneg (p := p) (s := s) (r := r) (l := held.drop (i + 1)) fun o ho => hz o (List.mem_of_mem_drop ho)
  omega
theorem valAt_step {U : List Amt} {j : Nat} (hj : j < U.length) (r : ByteArray) : valAt (U.take (j + 1)) r = valAt (U.take j) r + if U[j].name = r then U[j].val else 0 := by
  rw [List.take_succ_eq_append_getElem hj, valAt_append]; simp [valAt]
set_option maxRecDepth 100000 in
set_option maxHeartbeats 2000000 in
theorem within_any (held : List ObjM) (n : Nat) (hn : held.length = n) (A : Option Addr) (c : Nat) (P : Nat → Prop) (p : ByteArray) (s : ScV) (r : ByteArray) (w : World) (hm : Ml w) (ht : TextsAt w) (hr : Row kObj P w A held) (hf : ∀ o ∈ held, ObjMFit o) (hz : ∀ o ∈ held, (sharesV o.v).2.2 = 0)
    (htot : sumW held p s r ≤ 9223372036854775807) (hl : n ≤ 9223372036854775806) :
    Calls Tryz.prog 51 #[.slice A n c, .string p, .agg #[.int .i64 s.kind, .int .i64 s.arg], .string r] w fun e w' => e = .returned (.tuple #[.int .i64 (sumW held p s r), .bool true]) ∧ Below w.heap.size w w' := by
  have hb0 := (Below.refl w.heap.size w).alloc (Nat.le_refl _) (.cells #[.int .i64 s.kind, .int .i64 s.arg] 47)
  have hx := heap_alloc_new w (.cells #[.int .i64 s.kind, .int .i64 s.arg] 47)
  obtain ⟨w0, hw0⟩ : ∃ w0, w.alloc (.cells #[.int .i64 s.kind, .int .i64 s.arg] 47) = w0 := ⟨_, rfl⟩
  rw [hw0] at hb0 hx
  obtain ⟨t6, ht6⟩ : ∃ t, w.heap.size = t := ⟨_, rfl⟩
  have HB0 := Lib.hid hb0
  rw [ht6] at hx
  have HX := Lib.hid (show w0.cell? ⟨t6, 0, none⟩ = some (.int .i64 s.kind) ∧ w0.cell? ⟨t6, 1, none⟩ = some (.int .i64 s.arg) from ⟨(cell_of_row _ _ 0 _ _ _ hx).trans rfl, (cell_of_row _ _ 1 _ _ _ hx).trans rfl⟩)
  have HR := Lib.hid (hr.below hb0)
  have HM := Lib.hid (hm.below hb0)
  have HT := Lib.hid (ht.below hb0)
  have HF := Lib.hid hf
  have HZ := Lib.hid hz
  have HTOT := Lib.hid htot
  have HN := Lib.hid hn
  clear hb0 hx hr hm ht hf hz htot hn
  go_enter Tryz.func51, Tryz.ntmps51
  go_wp2
  clear hw0
  go_loopw [10, 11] (fun tv iv wr => ∃ i : Nat, iv = .int .i64 i ∧ tv = .int .i64 (sumW (held.take i) p s r) ∧ i ≤ n ∧ Hid (Below w0.heap.size w0 wr)) (fun _ iv _ => n - (intOf iv).toNat)
  case atStart => exact ⟨0, rfl, rfl, Nat.zero_le _, Below.refl _ _⟩
  case round =>
    obtain ⟨i, rfl, rfl, hi, hb⟩ := hrel
    obtain ⟨wq, rfl⟩ : ∃ wq, wq = wr := ⟨_, rfl⟩
    have HB := Lib.hid hb.out
    clear hb
    by_cases hlt : i < n
    · have hil : i < held.length := by rw [HN.out]; exact hlt
      obtain ⟨a, L1, m1, B1, c1, rfl, -, hoa⟩ := obj_at (HR.out.below HB.out) i hil
      have hfo := HF.out _ (List.getElem_mem hil)
      have hzo := HZ.out _ (List.getElem_mem hil)
      have hst := sumW_take hil HZ.out p s r
      obtain ⟨y, hy⟩ : ∃ y, held[i] = y := ⟨_, rfl⟩
      rw [hy] at hoa hfo hzo hst
      have HOA := Lib.hid hoa
      have HFO := Lib.hid hfo
      have HZO := Lib.hid hzo
      have HST := Lib.hid hst
      obtain ⟨T, hT⟩ : ∃ T, sumW (held.take i) p s r = T := ⟨_, rfl⟩
      rw [hT] at HST ⊢
      have hlti : (i : Int) < (n : Int) := by omega
      have hi0 : (0 : Int) ≤ (i : Int) := by omega
      have HS := Lib.hid (show ∀ W, Below wq.heap.size wq W → (W.cell? ⟨t6, 0, none⟩ = some (.int .i64 s.kind) ∧ W.cell? ⟨t6, 1, none⟩ = some (.int .i64 s.arg) ∧ W.cell? (a.add (i * 7)) = some (.string y.path) ∧ W.cell? ⟨(a.add (i * 7)).block, (a.add (i * 7)).off + 1, none⟩ = some (.string y.name) ∧ W.cell? ⟨(a.add (i * 7)).block, (a.add (i * 7)).off + 2, none⟩ = some (.slice L1 y.ls.length m1) ∧ W.cell? ⟨(a.add (i * 7)).block, (a.add (i * 7)).off + 3, none⟩ = some (.int .i64 y.prio) ∧ W.cell? ⟨(a.add (i * 7)).block, (a.add (i * 7)).off + 4, none⟩ = some (.int .i64 y.dl) ∧ W.cell? ⟨(a.add (i * 7)).block, (a.add (i * 7)).off + 5, none⟩ = some (.slice B1 y.parts.length c1) ∧ W.cell? ⟨(a.add (i * 7)).block, (a.add (i * 7)).off + 6, none⟩ = some (.int .i64 y.ver)) from fun W hW => by
        obtain ⟨x0, x1⟩ := HX.out
        obtain ⟨y0, y1, y2, y3, y4, y5, y6, -, -⟩ := HOA.out.below hW
        have hbw := HB.out.trans (hW.mono HB.out.size)
        exact ⟨(hbw.cell (World.block_lt_of_cell? _ _ x0)).trans x0, (hbw.cell (World.block_lt_of_cell? _ _ x1)).trans x1, y0, y1, y2, y3, y4, y5, y6⟩)
      have HOW := Lib.hid (fun W (hW : Below wq.heap.size wq W) => own_objM y L1 m1 B1 c1 W ((HOA.out.below hW).fit HFO.out))
      clear hoa hfo hzo hst hy hT
      go_upto_region 5 with fail
      go_cut [38] (fun v wx => v = .bool (!(underB y.path p && inS y.prio y.dl y.parts s)) ∧ Below wq.heap.size wq wx)
      case first =>
        have HUN := Lib.hid (fun W (hW : Below wq.heap.size wq W) => under_any y.path p W (HM.out.below (HB.out.trans (hW.mono HB.out.size))))
        cases hu : underB y.path p
        · rw [hu] at HUN
          have z0 := fun z : BW wq => (HS.out z.w z.h).2.2.1
          have C1 := Lib.hid (fun z : BW wq => HUN.out z.w z.h)
          refine wp_region_pure (by kernel_rfl) (by kernel_rfl) ?_
          repeat (first | go_big_quiet_step (first | (go_at_call 55; exact Calls.pure_of (C1.out _))) | quiet_step (first | (go_at_call 55; exact Calls.pure_of (C1.out _))))
          refine wpQuiet_nil ?_
          rintro _ ⟨z, rfl⟩
          clear z0
          go_wp2
          go_meet
          exact ⟨by simp [hu], z.h⟩
        · rw [hu] at HUN
          go_region_held3 (fun w' => w'.cell? ⟨t6, 0, none⟩ = some (.int .i64 s.kind) ∧ w'.cell? ⟨t6, 1, none⟩ = some (.int .i64 s.arg) ∧ w'.cell? (a.add (i * 7)) = some (.string y.path) ∧ w'.cell? ⟨(a.add (i * 7)).block, (a.add (i * 7)).off + 1, none⟩ = some (.string y.name) ∧ w'.cell? ⟨(a.add (i * 7)).block, (a.add (i * 7)).off + 2, none⟩ = some (.slice L1 y.ls.length m1) ∧ w'.cell? ⟨(a.add (i * 7)).block, (a.add (i * 7)).off + 3, none⟩ = some (.int .i64 y.prio) ∧ w'.cell? ⟨(a.add (i * 7)).block, (a.add (i * 7)).off + 4, none⟩ = some (.int .i64 y.dl) ∧ w'.cell? ⟨(a.add (i * 7)).block, (a.add (i * 7)).off + 5, none⟩ = some (.slice B1 y.parts.length c1) ∧ w'.cell? ⟨(a.add (i * 7)).block, (a.add (i * 7)).off + 6, none⟩ = some (.int .i64 y.ver)) (exact HS.out _ (by repeat (first | exact HW4.out | exact HW3.out | exact HW2.out | exact Below.refl _ _ | refine Below.drew ?_))) (first
            | (go_at_call 55; refine (HUN.out _ (by repeat (first | exact Below.refl _ _ | refine Below.drew ?_))).mono ?_; rintro e w2 ⟨rfl, hb2⟩; have HW2 := Lib.hid (BJp hb2 (show Below wq.heap.size wq _ from (by repeat (first | exact Below.refl _ _ | refine Below.drew ?_)))); clear hb2 HUN)
            | (go_at_call 10; refine (HOW.out _ (by repeat (first | exact HW2.out | refine Below.drew ?_))).mono ?_; rintro e w3 ⟨L3, m3, B3, e3, rfl, hr3, hb3⟩; have HW3 := Lib.hid (BJp hb3 (show Below wq.heap.size wq _ from (by repeat (first | exact HW2.out | refine Below.drew ?_)))); have HR3 := Lib.hid (kObj_parts hr3).1; clear hr3 hb3 HOW)
            | (go_at_call 28; refine (inM_any HFO.out.ok s L3 m3 B3 e3 (HR3.out.below (by repeat (first | exact Below.refl _ _ | refine Below.drew ?_))) (HT.out.below (HB.out.trans ((show Below wq.heap.size wq _ from (by repeat (first | exact HW3.out | refine Below.drew ?_))).mono HB.out.size)))).mono ?_; rintro e w4 ⟨rfl, hb4⟩; have HW4 := Lib.hid (BJp hb4 (show Below wq.heap.size wq _ from (by repeat (first | exact HW3.out | refine Below.drew ?_)))); clear hb4 HR3))
          all_goals (go_wp2_with fail; go_meet; exact ⟨by simp [hu], HW4.out⟩)
      case rest =>
        obtain ⟨rfl, hb5⟩ := hcut
        rename World => w5
        have HB5 := Lib.hid hb5
        clear hb5
        cases hgo : (underB y.path p && inS y.prio y.dl y.parts s)
        · have HPW := Lib.hid (show partW y p s r = 0 from by
            unfold partW
            rw [if_neg (by rw [← Bool.and_eq_true, hgo]; simp)])
          go_wp2
          go_roundw
          case rel => exact ⟨i + 1, by go_num, by rw [HST.out.1, HPW.out, Int.add_zero], hlt, HB.out.trans (HB5.out.mono HB.out.size)⟩
          case measure => simp [intOf]; omega
        · have HPW := Lib.hid (show partW y p s r = valAt (usesU y.v) r from by
            unfold partW
            rw [if_pos (by rw [← Bool.and_eq_true, hgo])])
          have HUP := Lib.hid (usesU_pos (shares_path HZO.out).2.1)
          have HU0 := Lib.hid (shares_path HZO.out).2.1
          obtain ⟨-, -, y0, y1, y2, y3, y4, y5, y6⟩ := HS.out _ HB5.out
          go_upto_region 7 with (first
            | (go_at_call 10; refine (HOW.out _ HB5.out).mono ?_; rintro e w6 ⟨L3, m3, B3, e3, rfl, hr3, hb3⟩; have HB6 := Lib.hid (HB5.out.trans (hb3.mono HB5.out.size)); have HR3 := Lib.hid (kObj_parts hr3).1; clear hr3 hb3 HOW)
            | (go_at_call 29; refine (usesM_any HFO.out.ok L3 m3 B3 e3 HR3.out).mono ?_; rintro e w7 ⟨A7, k7, rfl, hr7, hl7, hb7⟩; have HB7 := Lib.hid (HB6.out.trans (hb7.mono HB6.out.size)); have HR7 := Lib.hid hr7; have HL7 := Lib.hid hl7; rw [show (usesV y.parts).2 = 0 from HU0.out]; clear hr7 hl7 hb7 HR3 HB6))
          clear y0 y1 y2 y3 y4 y5 y6
          obtain ⟨U, hU⟩ : ∃ U, usesU y.v = U := ⟨_, rfl⟩
          rw [hU] at HPW HUP HR7 HL7 ⊢
          obtain ⟨q, hq⟩ : ∃ q, U.length = q := ⟨_, rfl⟩
          rw [hq] at HL7 ⊢
          have HQ := Lib.hid hq
          have hlq := HL7.out
          clear hU hq
          go_wp2
          go_loopw [10, 14] (fun tv jv wr => ∃ j : Nat, jv = .int .i64 j ∧ tv = .int .i64 (T + valAt (U.take j) r) ∧ j ≤ q ∧ Hid (Below w7.heap.size w7 wr)) (fun _ jv _ => q - (intOf jv).toNat)
          case atStart => exact ⟨0, rfl, by rw [show valAt (U.take 0) r = 0 from rfl, Int.add_zero], Nat.zero_le _, Below.refl _ _⟩
          case round =>
            obtain ⟨j, rfl, rfl, hj, hbj⟩ := hrel
            obtain ⟨wz, rfl⟩ : ∃ wz, wz = wr := ⟨_, rfl⟩
            have HBJ := Lib.hid hbj.out
            clear hbj
            by_cases hjq : j < q
            · have hjl : j < U.length := by rw [HQ.out]; exact hjq
              obtain ⟨b, rfl, -, a0, a1⟩ := amt_at (HR7.out.below HBJ.out) j hjl
              have hv := valAt_step hjl r
              have hle := valAt_take_le (r := r) (U := U) (fun u hu => (HUP.out u hu).1) (j + 1)
              have hpo := valAt_nonneg (r := r) (U := U.take j) fun u hu => (HUP.out u (List.mem_of_mem_take hu)).1
              have hup := HUP.out _ (List.getElem_mem hjl)
              obtain ⟨u, hu⟩ : ∃ u, U[j] = u := ⟨_, rfl⟩
              rw [hu] at a0 a1 hv hup
              have hjq' : (j : Int) < (q : Int) := by omega
              have hj0 : (0 : Int) ≤ (j : Int) := by omega
              have h1 := HST.out
              rw [HPW.out] at h1
              have htt := HTOT.out
              have HV := Lib.hid hv
              obtain ⟨V, hV⟩ : ∃ V, T + valAt (U.take j) r = V := ⟨_, rfl⟩
              have HVV := Lib.hid hV
              rw [hV]
              by_cases he : u.name = r
              · have e1 : (u.name.toList == r.toList) = true := by rw [bytes_beq]; simpa using he
                rw [if_pos he] at hv
                have hw1 : wrap64 (9223372036854775807 - V) = 9223372036854775807 - V := wrap_id (by omega) (by omega)
                have hw2 : wrap64 (V + u.val) = V + u.val := wrap_id (by omega) (by omega)
                have hgt : ¬ (u.val > 9223372036854775807 - V) := by omega
                have HE := Lib.hid he
                clear he hv hle hpo hup h1 htt hV hu
                go_wp2
                go_roundw
                case rel => exact ⟨j + 1, by go_num, by rw [hw2, HV.out, if_pos HE.out, ← HVV.out, Int.add_assoc], hjq, HBJ.out⟩
                case measure => simp [intOf]; omega
              · have e1 : (u.name.toList == r.toList) = false := by rw [bytes_beq]; simpa using he
                have HE := Lib.hid he
                clear he hv hle hpo hup h1 htt hV hu
                go_wp2
                go_roundw
                case rel => exact ⟨j + 1, by go_num, by rw [HV.out, if_neg HE.out, Int.add_zero, HVV.out], hjq, HBJ.out⟩
                case measure => simp [intOf]; omega
            · have hge : ¬ ((j : Int) < (q : Int)) := by omega
              obtain rfl : j = q := by omega
              have hfin : T + valAt (U.take j) r = sumW (held.take (i + 1)) p s r := by
                rw [HST.out.1, HPW.out, List.take_of_length_le (by rw [HQ.out]; exact Nat.le_refl _)]
              rw [hfin]
              go_wp2
              go_roundw
              case rel => exact ⟨i + 1, by go_num, rfl, hlt, HB.out.trans ((HB7.out.trans (HBJ.out.mono HB7.out.size)).mono HB.out.size)⟩
              case measure => simp [intOf]; omega
    · have hge : ¬ ((i : Int) < (n : Int)) := by omega
      obtain rfl : i = n := by omega
      rw [List.take_of_length_le (by rw [HN.out]; exact Nat.le_refl _)]
      go_wp2
      go_ret2
      exact ⟨rfl, by have h := HB0.out.trans (HB.out.mono HB0.out.size); first | exact h | (rw [ht6] at h; exact h)⟩
end Go.Proofs.YtalkdddeiebfmaaGreatDoor
