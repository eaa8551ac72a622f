/- agrees: every row is the sum, every sum a row (printed by mkagree.py). -/
import Derived.Test.YtalkdddeiebfmaaGreatDoorJ72
import Derived.Test.YtalkdddeiebfmaaGreatDoorJ63
namespace Go.Proofs.YtalkdddeiebfmaaGreatDoor
open Go.RowKit

/-- how many of the objects stand under a path -/
def cntW (l : List ObjM) (p : ByteArray) : Int := (l.map fun o => if underB o.path p = true then 1 else 0).sum
theorem cntW_append (l l' : List ObjM) (p : ByteArray) : cntW (l ++ l') p = cntW l p + cntW l' p := by
  unfold cntW
  rw [List.map_append, List.sum_append]
theorem cntW_take {l : List ObjM} {i : Nat} (hi : i < l.length) (p : ByteArray) : cntW (l.take (i + 1)) p = cntW (l.take i) p + if underB l[i].path p = true then 1 else 0 := by
  rw [List.take_succ_eq_append_getElem hi, cntW_append]; simp [cntW]
theorem cntW_le (p : ByteArray) : ∀ l : List ObjM, 0 ≤ cntW l p ∧ cntW l p ≤ l.length
  | [] => by simp [cntW]
  | o :: l => by
    have h := cntW_le p l
    unfold cntW at h ⊢
    rw [List.map_cons, List.sum_cons, List.length_cons]
    split <;> omega
theorem under_mem {h p : ByteArray} : underB h p = true ↔ p ∈ lineB h := by
  rw [under_line, List.any_eq_true]
  constructor
  · rintro ⟨x, hx, e⟩
    rw [bytes_beq, decide_eq_true_iff] at e
    exact e ▸ hx
  · intro hx
    exact ⟨p, hx, by simp⟩
theorem cntAt_under {p : ByteArray} : ∀ {l : List ObjM}, (∀ o ∈ l, (sharesV o.v).2.2 = 0) → cntAt l p = cntW l p
  | [], _ => rfl
  | o :: l, h => by
    rw [cntAt_cons, cntAt_under (l := l) fun q hq => h q (List.mem_cons_of_mem _ hq)]
    obtain ⟨h1, -, h2⟩ := shares_path (h o (by simp))
    have h3 : cvL (sharesV o.v).1 p = if underB o.path p = true then 1 else 0 := by
      rw [h2]
      show cvL (lineB o.path) p = _
      by_cases hu : underB o.path p = true
      · rw [if_pos hu, cvL_one (lineB_nodup _) (under_mem.1 hu)]
      · rw [if_neg hu, cvL_out fun e => hu (under_mem.2 e)]
    rw [h3]
    rfl
theorem cntW_root : ∀ {l : List ObjM}, (∀ o ∈ l, (sharesV o.v).2.2 = 0) → cntW l ⟨#[47]⟩ = l.length
  | [], _ => rfl
  | o :: l, h => by
    have ih := cntW_root (l := l) fun q hq => h q (List.mem_cons_of_mem _ hq)
    obtain ⟨h1, -, -⟩ := shares_path (h o (by simp))
    unfold cntW at ih ⊢
    have hu : underB o.path ⟨#[47]⟩ = true := under_mem.2 (lineB_root h1)
    rw [List.map_cons, List.sum_cons, ih, if_pos hu, List.length_cons]
    omega
/-- a use that is not 0 has its row -/
theorem row_there {S : Pl → Int} {C : ByteArray → Int} {held : List ObjM} {Rs : List Sh} (inv : BookInv S C held) (hr : RowsOf S Rs) {y : ObjM} (hy : y ∈ held) : ∀ p ∈ lineB y.path, ∀ t ∈ ofS y.v 6, ∀ u ∈ usesU y.v, 0 < u.val → ∃ z ∈ Rs, z.1 = (p, (t.kind, t.arg), u.name) := fun p hp t ht u hu hv => by
  have hz := inv.acc y hy
  obtain ⟨i, hi, rfl⟩ := List.mem_iff_getElem.1 hy
  have h1 := (inv.at_ (List.getElem?_eq_getElem hi)).1 (p, (t.kind, t.arg), u.name)
  have hrest := inv.rest (i := i)
  have h2 := sumAt_nonneg hrest.1 hrest.2 (p, (t.kind, t.arg), u.name)
  have h3 : u.val ≤ svL (sharesV held[i].v).2.1 (p, (t.kind, t.arg), u.name) := by
    rw [← partW_sv hz]
    unfold partW
    rw [if_pos ⟨under_mem.2 hp, mem_ofS.1 ht⟩]
    obtain ⟨j, hj, rfl⟩ := List.mem_iff_getElem.1 hu
    have hpos := fun v hv => (usesU_pos (shares_path hz).2.1 v hv).1
    have h4 := valAt_take_le (r := (usesU held[i].v)[j].name) hpos (j + 1)
    rw [valAt_step hj, if_pos rfl] at h4
    have h5 := valAt_nonneg (r := (usesU held[i].v)[j].name) (U := (usesU held[i].v).take j) fun v hv => hpos v (List.mem_of_mem_take hv)
    omega
  exact ⟨((p, (t.kind, t.arg), u.name), S (p, (t.kind, t.arg), u.name)), (hr.mem _).2 ⟨by simp only; omega, rfl⟩, rfl⟩
theorem live_sta : StOk ⟨#[47, 97]⟩ := by unfold StOk; decide
set_option maxRecDepth 100000 in
set_option maxHeartbeats 4000000 in
theorem agrees_any {w : World} {N bb g b1 b2 m n c : Nat} {A : Option Addr} {R : Nat → Prop} {S : Pl → Int} {C : ByteArray → Int} {held : List ObjM} (hm : Ml w) (ht : TextsAt w) (k : IsBook w N bb g b1 b2 m A n c R S C held) (inv : BookInv S C held) (hM : m ≤ 2400000000000) :
    Calls Tryz.prog 25 #[.pointer (some ⟨bb, 0, none⟩)] w fun e w' => e = .returned (.bool true) ∧ Below w.heap.size w w' := by
  have HK := Lib.hid k
  have HM := Lib.hid hm
  have HT := Lib.hid ht
  have HI := Lib.hid inv
  have HN := Lib.hid k.hn
  have HN4 := Lib.hid (show n ≤ 40 from by rw [k.hn]; exact k.len)
  have HRH := Lib.hid (show Row kObj (fun k => N ≤ k) w A held from k.list.row.2.1)
  have HCE := Lib.hid (show ∀ W, Below w.heap.size w W → (W.cell? ⟨bb, 0, none⟩ = some (.pointer (some ⟨g, 0, none⟩)) ∧ W.cell? ⟨bb, 1, none⟩ = some (.slice A n c)) from fun W hW => (k.below hW).cells)
  clear k hm ht inv
  obtain ⟨k0, k1⟩ := HCE.out w (Below.refl _ _)
  go_enter Tryz.func25, Tryz.ntmps25
  go_upto_region 2 with (go_at_call 14; refine (lrows_any w HM.out HK.out.led HK.out.ok (by omega)).mono ?_; rintro e w1 ⟨A1, c1x, Rs, rfl, ho, hrs, hb1⟩; have HB1 := Lib.hid hb1; have HRS := Lib.hid hrs; have HRW := Lib.hid (show Row kSh (fun _ => True) w1 A1 Rs from ho.row'.2.1.mono fun _ _ => trivial); have HLE := Lib.hid (show Rs.length ≤ 9223372036854775807 by have h1 := ho.row'.2.2.1; have h2 := ho.row'.2.2.2; unfold maxLen at h2; omega); clear ho hrs hb1)
  clear k0 k1
  obtain ⟨q, hq⟩ : ∃ q, Rs.length = q := ⟨_, rfl⟩
  rw [hq] at HLE ⊢
  have HQ := Lib.hid hq
  have hle := HLE.out
  clear hq
  go_wp2
  go_loopw [4] (fun iv wr => ∃ i : Nat, iv = .int .i64 i ∧ i ≤ q ∧ Hid (Below w1.heap.size w1 wr)) (fun iv _ => q - (intOf iv).toNat)
  case atStart => exact ⟨0, rfl, Nat.zero_le _, Below.refl _ _⟩
  case round =>
    obtain ⟨i, rfl, hi, hb⟩ := hrel
    obtain ⟨wq, rfl⟩ : ∃ wq, wq = wr := ⟨_, rfl⟩
    have HB := Lib.hid hb.out
    have HBW := Lib.hid (HB1.out.trans (hb.out.mono HB1.out.size))
    clear hb
    by_cases hlt : i < q
    · have hil : i < Rs.length := by rw [HQ.out]; exact hlt
      obtain ⟨a, rfl, -, hs⟩ := sh_at (HRW.out.below HB.out) i hil
      have hmem := (HRS.out.mem Rs[i]).1 (List.getElem_mem hil)
      obtain ⟨u, hu⟩ : ∃ u, Rs[i] = u := ⟨_, rfl⟩
      rw [hu] at hs hmem
      have HS0 := Lib.hid hs
      have HME := Lib.hid hmem
      have hlti : (i : Int) < (q : Int) := by omega
      have hi0 : (0 : Int) ≤ (i : Int) := by omega
      have HS := Lib.hid (show ∀ W, Below wq.heap.size wq W → (W.cell? ⟨bb, 0, none⟩ = some (.pointer (some ⟨g, 0, none⟩)) ∧ W.cell? ⟨bb, 1, none⟩ = some (.slice A n c) ∧ W.cell? (a.add (i * 5)) = some (.string u.1.1) ∧ W.cell? ⟨(a.add (i * 5)).block, (a.add (i * 5)).off + 1, none⟩ = some (.int .i64 u.1.2.1.1) ∧ W.cell? ⟨(a.add (i * 5)).block, (a.add (i * 5)).off + 2, none⟩ = some (.int .i64 u.1.2.1.2) ∧ W.cell? ⟨(a.add (i * 5)).block, (a.add (i * 5)).off + 3, none⟩ = some (.string u.1.2.2) ∧ W.cell? ⟨(a.add (i * 5)).block, (a.add (i * 5)).off + 4, none⟩ = some (.int .i64 u.2)) from fun W hW => by
        obtain ⟨k0, k1⟩ := HCE.out W (HBW.out.trans (hW.mono HBW.out.size))
        obtain ⟨l0, l1, l2, l3, l4⟩ := HS0.out
        exact ⟨k0, k1, (hW.cell (World.block_lt_of_cell? _ _ l0)).trans l0, (hW.cell (p := ⟨_, _, none⟩) (World.block_lt_of_cell? _ _ l1)).trans l1, (hW.cell (p := ⟨_, _, none⟩) (World.block_lt_of_cell? _ _ l2)).trans l2, (hW.cell (p := ⟨_, _, none⟩) (World.block_lt_of_cell? _ _ l3)).trans l3, (hW.cell (p := ⟨_, _, none⟩) (World.block_lt_of_cell? _ _ l4)).trans l4⟩)
      have HWI := Lib.hid (show ∀ W, Below wq.heap.size wq W → Calls Tryz.prog 51 #[.slice A n c, .string u.1.1, .agg #[.int .i64 u.1.2.1.1, .int .i64 u.1.2.1.2], .string u.1.2.2] W fun e w' => e = .returned (.tuple #[.int .i64 u.2, .bool true]) ∧ Below W.heap.size W w' from fun W hW => by
        have hbw := HBW.out.trans (hW.mono HBW.out.size)
        have hsum : sumW held u.1.1 ⟨u.1.2.1.1, u.1.2.1.2⟩ u.1.2.2 = u.2 := by
          rw [sumW_at HI.out.acc, HME.out.2, HI.out.sum]
        have q := within_any held n HN.out.symm A c _ u.1.1 ⟨u.1.2.1.1, u.1.2.1.2⟩ u.1.2.2 W (HM.out.below hbw) (HT.out.below hbw) (HRH.out.below hbw) HI.out.fit HI.out.acc (by rw [hsum, HME.out.2]; exact HK.out.ok.hi u.1) (by have := HN4.out; omega)
        rw [hsum] at q
        exact q)
      have HUS := Lib.hid (fun W (hW : Below wq.heap.size wq W) => used_any u.1 (HK.out.ok.pl u.1 HME.out.1).1 u.2 (Lib.hid HME.out.2.symm) W (HK.out.led.below (HBW.out.trans (hW.mono HBW.out.size))))
      clear hs hmem hu
      go_upto_region 5 with fail
      go_cut [5, 6] (fun v ov wx => v = .int .i64 u.2 ∧ ov = .bool true ∧ Below wq.heap.size wq wx)
      case first =>
        go_region_held3 (fun w' => w'.cell? ⟨bb, 0, none⟩ = some (.pointer (some ⟨g, 0, none⟩)) ∧ w'.cell? ⟨bb, 1, none⟩ = some (.slice A n c) ∧ w'.cell? (a.add (i * 5)) = some (.string u.1.1) ∧ w'.cell? ⟨(a.add (i * 5)).block, (a.add (i * 5)).off + 1, none⟩ = some (.int .i64 u.1.2.1.1) ∧ w'.cell? ⟨(a.add (i * 5)).block, (a.add (i * 5)).off + 2, none⟩ = some (.int .i64 u.1.2.1.2) ∧ w'.cell? ⟨(a.add (i * 5)).block, (a.add (i * 5)).off + 3, none⟩ = some (.string u.1.2.2) ∧ w'.cell? ⟨(a.add (i * 5)).block, (a.add (i * 5)).off + 4, none⟩ = some (.int .i64 u.2)) (exact HS.out _ (by repeat (first | exact HW2.out | exact Below.refl _ _ | refine Below.drew ?_))) (first
          | (go_at_call 51; refine (HWI.out _ (by repeat (first | exact Below.refl _ _ | refine Below.drew ?_))).mono ?_; rintro e w2 ⟨rfl, hb2⟩; have HW2 := Lib.hid (BJp hb2 (show Below wq.heap.size wq _ from (by repeat (first | exact Below.refl _ _ | refine Below.drew ?_)))); clear hb2 HWI))
        all_goals (go_wp2_with fail; go_meet; exact ⟨rfl, rfl, HW2.out⟩)
      case rest =>
        obtain ⟨rfl, rfl, hb3⟩ := hcut
        rename World => w3
        have HB3 := Lib.hid hb3
        have e0 : (u.2 == 0) = false := by simpa using (show u.2 ≠ 0 from by rw [HME.out.2]; exact HME.out.1)
        have e1 : (u.2 != u.2) = false := by simp
        clear hb3 HWI
        go_upto_region 6 with fail
        go_cut [90] (fun v wx => v = .bool false ∧ Below wq.heap.size wq wx)
        case first =>
          go_region_held3 (fun w' => w'.cell? ⟨bb, 0, none⟩ = some (.pointer (some ⟨g, 0, none⟩)) ∧ w'.cell? ⟨bb, 1, none⟩ = some (.slice A n c) ∧ w'.cell? (a.add (i * 5)) = some (.string u.1.1) ∧ w'.cell? ⟨(a.add (i * 5)).block, (a.add (i * 5)).off + 1, none⟩ = some (.int .i64 u.1.2.1.1) ∧ w'.cell? ⟨(a.add (i * 5)).block, (a.add (i * 5)).off + 2, none⟩ = some (.int .i64 u.1.2.1.2) ∧ w'.cell? ⟨(a.add (i * 5)).block, (a.add (i * 5)).off + 3, none⟩ = some (.string u.1.2.2) ∧ w'.cell? ⟨(a.add (i * 5)).block, (a.add (i * 5)).off + 4, none⟩ = some (.int .i64 u.2)) (exact HS.out _ (by repeat (first | exact HW4.out | exact HB3.out | exact Below.refl _ _ | refine Below.drew ?_))) (first
            | (go_at_call 27; refine (HUS.out _ (by repeat (first | exact HB3.out | exact Below.refl _ _ | refine Below.drew ?_))).mono ?_; rintro e w4 ⟨rfl, hb2⟩; have HW4 := Lib.hid (BJp hb2 (show Below wq.heap.size wq _ from (by repeat (first | exact HB3.out | exact Below.refl _ _ | refine Below.drew ?_)))); clear hb2 HUS))
          all_goals (go_wp2_with fail; go_meet; exact ⟨rfl, HW4.out⟩)
        case rest =>
          obtain ⟨rfl, hb4⟩ := hcut
          rename World => w4
          have HB4 := Lib.hid (HB.out.trans (hb4.mono HB.out.size))
          clear hb4
          go_wp2
          go_roundw
          case rel => exact ⟨i + 1, by go_num, hlt, HB4.out⟩
          case measure => simp [intOf]; omega
    · have hge : ¬ ((i : Int) < (q : Int)) := by omega
      have hn4 := HN4.out
      clear hi hlt hle
      go_wp2
      go_loopw [7] (fun iv wr => ∃ i : Nat, iv = .int .i64 i ∧ i ≤ n ∧ Hid (Below wq.heap.size wq wr)) (fun iv _ => n - (intOf iv).toNat)
      case atStart => exact ⟨0, rfl, Nat.zero_le _, Below.refl _ _⟩
      case round =>
        obtain ⟨i, rfl, hi, hb⟩ := hrel
        obtain ⟨wz, rfl⟩ : ∃ wz, wz = wr := ⟨_, rfl⟩
        have HBZ := Lib.hid (HBW.out.trans (hb.out.mono HBW.out.size))
        have HBQ := Lib.hid hb.out
        clear hb
        by_cases hlt : i < n
        · have hil : i < held.length := by rw [← HN.out]; exact hlt
          obtain ⟨a, L1, m1, B1, c1, rfl, -, hoa⟩ := obj_at (HRH.out.below HBZ.out) i hil
          have hfo := HI.out.fit _ (List.getElem_mem hil)
          have hrt := row_there HI.out HRS.out (List.getElem_mem hil)
          have hzo := (shares_path (HI.out.acc _ (List.getElem_mem hil))).1
          obtain ⟨y, hy⟩ : ∃ y, held[i] = y := ⟨_, rfl⟩
          rw [hy] at hoa hfo hrt hzo
          have HOA := Lib.hid hoa
          have HFO := Lib.hid hfo
          have HRT := Lib.hid hrt
          have hlti : (i : Int) < (n : Int) := by omega
          have hi0 : (0 : Int) ≤ (i : Int) := by omega
          have HS := Lib.hid (show ∀ W, Below wz.heap.size wz W → (W.cell? ⟨bb, 0, none⟩ = some (.pointer (some ⟨g, 0, none⟩)) ∧ W.cell? ⟨bb, 1, none⟩ = some (.slice (some a) n c) ∧ W.cell? (a.add (i * 7)) = some (.string y.path) ∧ W.cell? ⟨(a.add (i * 7)).block, (a.add (i * 7)).off + 1, none⟩ = some (.string y.name) ∧ W.cell? ⟨(a.add (i * 7)).block, (a.add (i * 7)).off + 2, none⟩ = some (.slice L1 y.ls.length m1) ∧ W.cell? ⟨(a.add (i * 7)).block, (a.add (i * 7)).off + 3, none⟩ = some (.int .i64 y.prio) ∧ W.cell? ⟨(a.add (i * 7)).block, (a.add (i * 7)).off + 4, none⟩ = some (.int .i64 y.dl) ∧ W.cell? ⟨(a.add (i * 7)).block, (a.add (i * 7)).off + 5, none⟩ = some (.slice B1 y.parts.length c1) ∧ W.cell? ⟨(a.add (i * 7)).block, (a.add (i * 7)).off + 6, none⟩ = some (.int .i64 y.ver)) from fun W hW => by
            obtain ⟨k0, k1⟩ := HCE.out W (HBZ.out.trans (hW.mono HBZ.out.size))
            obtain ⟨y0, y1, y2, y3, y4, y5, y6, -, -⟩ := HOA.out.below hW
            exact ⟨k0, k1, y0, y1, y2, y3, y4, y5, y6⟩)
          have HOW := Lib.hid (fun W (hW : Below wz.heap.size wz W) => own_objM y L1 m1 B1 c1 W ((HOA.out.below hW).fit HFO.out))
          have HOW2 := HOW
          clear hoa hfo hrt hy
          obtain ⟨k0, k1, y0, y1, y2, y3, y4, y5, y6⟩ := HS.out _ (Below.refl _ _)
          go_upto_region 12 with (go_at_call 52; refine (line_any y.path wz (HM.out.below HBZ.out)).mono ?_; rintro e w2 ⟨A8, c8, rfl, ho, hb2⟩; have HB2 := Lib.hid hb2; have HR8 := Lib.hid (show Row Kn.str (fun _ => True) w2 A8 (lineB y.path) from ho.row'.2.1.mono fun _ _ => trivial); have HL8 := Lib.hid (show (lineB y.path).length ≤ 9223372036854775807 from by have h1 := ho.row'.2.2.1; have h2 := ho.row'.2.2.2; unfold maxLen at h2; omega); clear ho hb2 k0 k1 y0 y1 y2 y3 y4 y5 y6)
          obtain ⟨k0, k1, y0, y1, y2, y3, y4, y5, y6⟩ := HS.out _ HB2.out
          go_upto_region 13 with (first
            | (go_at_call 10; refine (HOW.out _ HB2.out).mono ?_; rintro e w3 ⟨L3, m3, B3, e3, rfl, hr3, hb3⟩; have HB3 := Lib.hid (HB2.out.trans (hb3.mono HB2.out.size)); have HR3 := Lib.hid (kObj_parts hr3).1; have HR9 := Lib.hid (HR8.out.below hb3); clear hr3 hb3 HOW HR8)
            | (go_at_call 53; refine (ofM_any HFO.out.ok L3 m3 B3 e3 HR3.out (HT.out.below (HBZ.out.trans (HB3.out.mono HBZ.out.size)))).mono ?_; rintro e w4 ⟨A10, k10, rfl, hr, hl, hb⟩; have HB4 := Lib.hid (HB3.out.trans (hb.mono HB3.out.size)); have HR10 := Lib.hid hr; have HL10 := Lib.hid hl; have HR11 := Lib.hid (HR9.out.below hb); clear hr hl hb HR3 HR9 HB3 k0 k1 y0 y1 y2 y3 y4 y5 y6))
          obtain ⟨k0, k1, y0, y1, y2, y3, y4, y5, y6⟩ := HS.out _ HB4.out
          go_upto_region 14 with (first
            | (go_at_call 10; refine (HOW2.out _ HB4.out).mono ?_; rintro e w5 ⟨L3, m3, B3, e3, rfl, hr3, hb3⟩; have HB5 := Lib.hid (HB4.out.trans (hb3.mono HB4.out.size)); have HR3 := Lib.hid (kObj_parts hr3).1; have HR12 := Lib.hid (HR11.out.below hb3); have HR13 := Lib.hid (HR10.out.below hb3); clear hr3 hb3 HOW2 HR11 HR10)
            | (go_at_call 29; refine (usesM_any HFO.out.ok L3 m3 B3 e3 HR3.out).mono ?_; rintro e w6 ⟨A11, k11, rfl, hr, hl, hb⟩; have HB6 := Lib.hid (HB5.out.trans (hb.mono HB5.out.size)); have HR16 := Lib.hid hr; have HL11 := Lib.hid hl; have HR14 := Lib.hid (HR12.out.below hb); have HR15 := Lib.hid (HR13.out.below hb); clear hr hl hb HR3 HR12 HR13 HB5 k0 k1 y0 y1 y2 y3 y4 y5 y6))
          obtain ⟨L, hL⟩ : ∃ L, lineB y.path = L := ⟨_, rfl⟩
          rw [hL] at HRT HR14 HL8 ⊢
          obtain ⟨T, hT⟩ : ∃ T, ofS y.v 6 = T := ⟨_, rfl⟩
          rw [hT] at HRT HR15 HL10 ⊢
          obtain ⟨U, hU⟩ : ∃ U, usesU y.v = U := ⟨_, rfl⟩
          rw [hU] at HRT HR16 HL11 ⊢
          obtain ⟨nl, hnl⟩ : ∃ q, L.length = q := ⟨_, rfl⟩
          rw [hnl] at HL8 ⊢
          obtain ⟨nt, hnt⟩ : ∃ q, T.length = q := ⟨_, rfl⟩
          rw [hnt] at HL10 ⊢
          obtain ⟨nu, hnu⟩ : ∃ q, U.length = q := ⟨_, rfl⟩
          rw [hnu] at HL11 ⊢
          have HNL := Lib.hid hnl
          have HNT := Lib.hid hnt
          have HNU := Lib.hid hnu
          have hl8 := HL8.out
          have hl10 := HL10.out
          have hl11 := HL11.out
          have HRX := Lib.hid (show Row kSh (fun _ => True) w6 A1 Rs from HRW.out.below (HB.out.trans ((HBQ.out.trans (HB6.out.mono HBQ.out.size)).mono HB.out.size)))
          have HBE := Lib.hid (show Below wq.heap.size wq w6 from HBQ.out.trans (HB6.out.mono HBQ.out.size))
          clear hL hT hU hnl hnt hnu HS HOA HB2 HB4 HB6 HFO
          go_wp2
          go_loopw [13] (fun jv wr => ∃ j : Nat, jv = .int .i64 j ∧ j ≤ nl ∧ Hid (Below w6.heap.size w6 wr)) (fun jv _ => nl - (intOf jv).toNat)
          case atStart => exact ⟨0, rfl, Nat.zero_le _, Below.refl _ _⟩
          case round =>
            obtain ⟨j, rfl, hj, hbj⟩ := hrel
            obtain ⟨wj, rfl⟩ : ∃ wj, wj = wr := ⟨_, rfl⟩
            have HBJ := Lib.hid hbj.out
            clear hbj
            by_cases hjl : j < nl
            · have hjl' : (j : Int) < (nl : Int) := by omega
              have hj0 : (0 : Int) ≤ (j : Int) := by omega
              go_wp2
              go_loopw [14] (fun kv wr => ∃ k : Nat, kv = .int .i64 k ∧ k ≤ nt ∧ Hid (Below w6.heap.size w6 wr)) (fun kv _ => nt - (intOf kv).toNat)
              case atStart => exact ⟨0, rfl, Nat.zero_le _, HBJ.out⟩
              case round =>
                obtain ⟨k, rfl, hk, hbk⟩ := hrel
                obtain ⟨wk, rfl⟩ : ∃ wk, wk = wr := ⟨_, rfl⟩
                have HBK := Lib.hid hbk.out
                clear hbk
                by_cases hkl : k < nt
                · have hkl' : (k : Int) < (nt : Int) := by omega
                  have hk0 : (0 : Int) ≤ (k : Int) := by omega
                  go_wp2
                  go_loopw [15] (fun mv wr => ∃ m : Nat, mv = .int .i64 m ∧ m ≤ nu ∧ Hid (Below w6.heap.size w6 wr)) (fun mv _ => nu - (intOf mv).toNat)
                  case atStart => exact ⟨0, rfl, Nat.zero_le _, HBK.out⟩
                  case round =>
                    obtain ⟨v, rfl, hv, hbv⟩ := hrel
                    obtain ⟨wv, rfl⟩ : ∃ wv, wv = wr := ⟨_, rfl⟩
                    have HBV := Lib.hid hbv.out
                    clear hbv
                    by_cases hvl : v < nu
                    · have hvl' : (v : Int) < (nu : Int) := by omega
                      have hv0 : (0 : Int) ≤ (v : Int) := by omega
                      have hjL : j < L.length := by rw [HNL.out]; exact hjl
                      have hkT : k < T.length := by rw [HNT.out]; exact hkl
                      have hvU : v < U.length := by rw [HNU.out]; exact hvl
                      obtain ⟨aL, rfl, cL⟩ := row_str_at (HR14.out.below HBV.out) j hjL
                      obtain ⟨aT, rfl, cT0, cT1⟩ := sc_at (HR15.out.below HBV.out) k hkT
                      obtain ⟨aU, rfl, -, cU0, cU1⟩ := amt_at (HR16.out.below HBV.out) v hvU
                      have hex := HRT.out _ (List.getElem_mem hjL) _ (List.getElem_mem hkT) _ (List.getElem_mem hvU)
                      obtain ⟨p, hp⟩ : ∃ p, L[j] = p := ⟨_, rfl⟩
                      obtain ⟨s, hs⟩ : ∃ s, T[k] = s := ⟨_, rfl⟩
                      obtain ⟨u, hu⟩ : ∃ u, U[v] = u := ⟨_, rfl⟩
                      rw [hp] at cL hex
                      rw [hs] at cT0 cT1 hex
                      rw [hu] at cU0 cU1 hex
                      have HEX := Lib.hid hex
                      have HCS := Lib.hid (show ∀ W, Below wv.heap.size wv W → (W.cell? (aL.add j) = some (.string p) ∧ W.cell? (aT.add (k * 2)) = some (.int .i64 s.kind) ∧ W.cell? ⟨(aT.add (k * 2)).block, (aT.add (k * 2)).off + 1, none⟩ = some (.int .i64 s.arg) ∧ W.cell? (aU.add (v * 2)) = some (.string u.name) ∧ W.cell? ⟨(aU.add (v * 2)).block, (aU.add (v * 2)).off + 1, none⟩ = some (.int .i64 u.val)) from fun W hW =>
                        ⟨(hW.cell (World.block_lt_of_cell? _ _ cL)).trans cL, (hW.cell (World.block_lt_of_cell? _ _ cT0)).trans cT0, (hW.cell (p := ⟨_, _, none⟩) (World.block_lt_of_cell? _ _ cT1)).trans cT1, (hW.cell (World.block_lt_of_cell? _ _ cU0)).trans cU0, (hW.cell (p := ⟨_, _, none⟩) (World.block_lt_of_cell? _ _ cU1)).trans cU1⟩)
                      clear hex hp hs hu cL cT0 cT1 cU0 cU1
                      go_upto_region 23 with fail
                      go_cut [174] (fun z wx => z = .bool false ∧ Below wv.heap.size wv wx)
                      case first =>
                        by_cases hpos : 0 < u.val
                        · have hgt : u.val > 0 := hpos
                          have HRO := Lib.hid (fun W (hW : Below wv.heap.size wv W) => row_any Rs q HQ.out A1 c1x _ p s u.name W (HRX.out.below (HBV.out.trans (hW.mono HBV.out.size))) HLE.out (HEX.out hpos))
                          clear hpos
                          go_region_held3 (fun w' => w'.cell? (aL.add j) = some (.string p) ∧ w'.cell? (aT.add (k * 2)) = some (.int .i64 s.kind) ∧ w'.cell? ⟨(aT.add (k * 2)).block, (aT.add (k * 2)).off + 1, none⟩ = some (.int .i64 s.arg) ∧ w'.cell? (aU.add (v * 2)) = some (.string u.name) ∧ w'.cell? ⟨(aU.add (v * 2)).block, (aU.add (v * 2)).off + 1, none⟩ = some (.int .i64 u.val)) (exact HCS.out _ (by repeat (first | exact HW2.out | exact Below.refl _ _ | refine Below.drew ?_))) (first
                            | (go_at_call 54; refine (HRO.out _ (by repeat (first | exact Below.refl _ _ | refine Below.drew ?_))).mono ?_; rintro e w2 ⟨rfl, hb2⟩; have HW2 := Lib.hid (BJp hb2 (show Below wv.heap.size wv _ from (by repeat (first | exact Below.refl _ _ | refine Below.drew ?_)))); clear hb2 HRO))
                          all_goals (go_wp2_with fail; go_meet; exact ⟨rfl, HW2.out⟩)
                        · have hgt : ¬ u.val > 0 := hpos
                          obtain ⟨cL, cT0, cT1, cU0, cU1⟩ := HCS.out _ (Below.refl _ _)
                          clear hpos
                          go_quiet (fail)
                          go_wp2
                          go_meet
                          exact ⟨rfl, below_drewN (Below.refl _ _) _⟩
                      case rest =>
                        obtain ⟨rfl, hb3⟩ := hcut
                        rename World => w7
                        have HB7 := Lib.hid (HBV.out.trans (hb3.mono HBV.out.size))
                        clear hb3
                        go_wp2
                        go_roundw
                        case rel => exact ⟨v + 1, by go_num, hvl, HB7.out⟩
                        case measure => simp [intOf]; omega
                    · have hgev : ¬ ((v : Int) < (nu : Int)) := by omega
                      go_wp2
                      go_roundw
                      case rel => exact ⟨k + 1, by go_num, hkl, HBV.out⟩
                      case measure => simp [intOf]; omega
                · have hgek : ¬ ((k : Int) < (nt : Int)) := by omega
                  go_wp2
                  go_roundw
                  case rel => exact ⟨j + 1, by go_num, hjl, HBK.out⟩
                  case measure => simp [intOf]; omega
            · have hgej : ¬ ((j : Int) < (nl : Int)) := by omega
              go_wp2
              go_roundw
              case rel => exact ⟨i + 1, by go_num, hlt, HBE.out.trans (HBJ.out.mono HBE.out.size)⟩
              case measure => simp [intOf]; omega
        · have hgei : ¬ ((i : Int) < (n : Int)) := by omega
          obtain ⟨k0, k1⟩ := HCE.out _ HBZ.out
          clear hi hlt
          go_wp2
          go_loopw [16, 17] (fun cv iv wr => ∃ i : Nat, iv = .int .i64 i ∧ cv = .int .i64 (cntW (held.take i) ⟨#[47, 97]⟩) ∧ i ≤ n ∧ Hid (Below w.heap.size w wr)) (fun _ iv _ => n - (intOf iv).toNat)
          case atStart => exact ⟨0, rfl, rfl, Nat.zero_le _, HBZ.out⟩
          case round =>
            obtain ⟨j, rfl, rfl, hj, hbj⟩ := hrel
            obtain ⟨wj, rfl⟩ : ∃ wj, wj = wr := ⟨_, rfl⟩
            have HBJ := Lib.hid hbj.out
            clear hbj k0 k1
            obtain ⟨k0, k1⟩ := HCE.out _ HBJ.out
            by_cases hjn : j < n
            · have hjl : j < held.length := by rw [← HN.out]; exact hjn
              obtain ⟨a, L1, m1, B1, c1, rfl, -, hoa⟩ := obj_at (HRH.out.below HBJ.out) j hjl
              have hct := cntW_take hjl ⟨#[47, 97]⟩
              have hcl := cntW_le ⟨#[47, 97]⟩ (held.take j)
              rw [List.length_take] at hcl
              obtain ⟨y, hy⟩ : ∃ y, held[j] = y := ⟨_, rfl⟩
              rw [hy] at hoa hct
              have y0 := hoa.c0
              have HCT := Lib.hid hct
              have hlti : (j : Int) < (n : Int) := by omega
              have hj0 : (0 : Int) ≤ (j : Int) := by omega
              obtain ⟨V, hV⟩ : ∃ V, cntW (held.take j) ⟨#[47, 97]⟩ = V := ⟨_, rfl⟩
              have HV := Lib.hid hV
              rw [hV] at hcl ⊢
              have hw1 : wrap64 (V + 1) = V + 1 := wrap_id (by omega) (by omega)
              have HUN := Lib.hid (under_any y.path ⟨#[47, 97]⟩ wj (HM.out.below HBJ.out))
              cases hu : underB y.path ⟨#[47, 97]⟩
              · rw [hu] at HUN HCT
                clear hoa hct hcl hy hV hu
                go_wp2_with (go_at_call 55; refine HUN.out.mono ?_; rintro e w2 ⟨rfl, hb2⟩; have HB2 := Lib.hid (HBJ.out.trans (hb2.mono HBJ.out.size)); clear hb2 HUN)
                go_roundw
                case rel => exact ⟨j + 1, by go_num, by rw [HCT.out, HV.out]; simp [hw1], hjn, HB2.out⟩
                case measure => simp [intOf]; omega
              · rw [hu] at HUN HCT
                clear hoa hct hcl hy hV hu
                go_wp2_with (go_at_call 55; refine HUN.out.mono ?_; rintro e w2 ⟨rfl, hb2⟩; have HB2 := Lib.hid (HBJ.out.trans (hb2.mono HBJ.out.size)); clear hb2 HUN)
                go_roundw
                case rel => exact ⟨j + 1, by go_num, by rw [HCT.out, HV.out]; simp [hw1], hjn, HB2.out⟩
                case measure => simp [intOf]; omega
            · have hgej : ¬ ((j : Int) < (n : Int)) := by omega
              obtain rfl : j = n := by omega
              rw [List.take_of_length_le (by rw [← HN.out]; exact Nat.le_refl _)]
              have HC1 := Lib.hid (fun W (hW : Below wj.heap.size wj W) => count_any ⟨#[47]⟩ live_st (j : Int) (Lib.hid (show C ⟨#[47]⟩ = (j : Int) from by rw [HI.out.cnt, cntAt_under HI.out.acc, cntW_root HI.out.acc, ← HN.out])) W (HK.out.led.below (HBJ.out.trans (hW.mono HBJ.out.size))))
              obtain ⟨V, hV⟩ : ∃ V, cntW held ⟨#[47, 97]⟩ = V := ⟨_, rfl⟩
              rw [hV]
              have HC2 := Lib.hid (fun W (hW : Below wj.heap.size wj W) => count_any ⟨#[47, 97]⟩ live_sta V (Lib.hid (show C ⟨#[47, 97]⟩ = V from by rw [HI.out.cnt, cntAt_under HI.out.acc, hV])) W (HK.out.led.below (HBJ.out.trans (hW.mono HBJ.out.size))))
              clear hV hj hjn
              go_upto_region 31 with fail
              clear k0 k1
              go_region_held3 (fun w' => w'.cell? ⟨bb, 0, none⟩ = some (.pointer (some ⟨g, 0, none⟩)) ∧ w'.cell? ⟨bb, 1, none⟩ = some (.slice A j c)) (exact HCE.out _ (by repeat (first | exact HW3.out | exact HW2.out | exact HBJ.out | refine Below.drew ?_))) (first
                | (go_at_call 19; refine (HC1.out _ (by repeat (first | exact Below.refl _ _ | refine Below.drew ?_))).mono ?_; rintro e w2 ⟨rfl, hb2⟩; have hb2' := BJp hb2 (show Below wj.heap.size wj _ from (by repeat (first | exact Below.refl _ _ | refine Below.drew ?_))); have HX2 := Lib.hid hb2'; have HW2 := Lib.hid (HBJ.out.trans (hb2'.mono HBJ.out.size)); clear hb2 hb2' HC1)
                | (go_at_call 19; refine (HC2.out _ (by repeat (first | exact HX2.out | exact Below.refl _ _ | refine Below.drew ?_))).mono ?_; rintro e w3 ⟨rfl, hb2⟩; have hb2' := BJp hb2 (show Below wj.heap.size wj _ from (by repeat (first | exact HX2.out | exact Below.refl _ _ | refine Below.drew ?_))); have HW3 := Lib.hid (HBJ.out.trans (hb2'.mono HBJ.out.size)); clear hb2 hb2' HC2))
              all_goals
                go_wp2_with fail
                go_ret
                exact ⟨by simp, HW3.out⟩
end Go.Proofs.YtalkdddeiebfmaaGreatDoor
