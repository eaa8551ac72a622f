/- label.Split once more: how the world's draws go. -/
import Derived.Test.YtalkdddeiebfmaaGreatDoorJ13
namespace Go.Proofs.YtalkdddeiebfmaaGreatDoor
namespace D
open Go.RowKit

/-- Go.RowKit.Below, and no draw is taken back -/
structure Below (B : Nat) (w w' : World) : Prop where
  toB : Go.RowKit.Below B w w'
  dr : w.drawn ≤ w'.drawn
instance instCoe {B : Nat} {w w' : World} : Coe (Below B w w') (Go.RowKit.Below B w w') := ⟨Below.toB⟩
section
variable {B B' : Nat} {a b c w w' : World}
theorem Below.refl (B : Nat) (w : World) : Below B w w := ⟨Go.RowKit.Below.refl _ _, Nat.le_refl _⟩
theorem Below.trans (h : Below B a b) (k : Below B b c) : Below B a c := ⟨h.toB.trans k.toB, Nat.le_trans h.dr k.dr⟩
theorem Below.mono (h : Below B w w') (hB : B' ≤ B) : Below B' w w' := ⟨h.toB.mono hB, h.dr⟩
theorem Below.alloc (h : Below B a w) (hB : B ≤ w.heap.size) (o : Obj) : Below B a (w.alloc o) := ⟨h.toB.alloc hB o, h.dr⟩
theorem Below.drew (h : Below B a w) : Below B a w.drew := ⟨h.toB.drew, Nat.le_trans h.dr (Nat.le_succ _)⟩
theorem Below.size (h : Below B w w') : w.heap.size ≤ w'.heap.size := h.toB.size
theorem Below.block (h : Below B w w') : ∀ k, k < B → w'.heap[k]? = w.heap[k]? := h.toB.block
theorem Below.cell (h : Below B w w') {p : Addr} (hp : p.block < B) : w'.cell? p = w.cell? p := h.toB.cell hp
end
theorem below_drewN {B : Nat} {a w : World} (h : Below B a w) (n : Nat) : Below B a (w.drewN n) := ⟨Go.Proofs.YtalkdddeiebfmaaGreatDoor.below_drewN h.toB n, Nat.le_trans h.dr (Nat.le_add_right _ _)⟩
theorem below_iterAt {B : Nat} {a w : World} (h : Below B a w) {k : Nat} (hk : B ≤ k) (s : ByteArray) (p : Nat) : Below B a (w.iterAt k s p) := ⟨Lib.below_iterAt h.toB hk s p, h.dr⟩

set_option maxRecDepth 100000 in
theorem name_loop (s : ByteArray) (w : World) (h1 : 1 ≤ s.size) (h2 : s.size ≤ 32) (h3 : ((s[0]'(by omega)).toNat : Int) ≠ 45) (h4 : ((s[s.size - 1]'(by omega)).toNat : Int) ≠ 45) :
    Calls Tryz.prog 110 #[.string s] w fun e w' => e = .returned (.bool (s.data.toList.all okB)) ∧ Below w.heap.size w w' := by
  have e1 : decide ((s.size : Int) < 1) = false := by simp; omega
  have e2 : decide ((s.size : Int) > 32) = false := by simp; omega
  have e3 : (((s[0]'(by omega)).toNat : Int) == 45) = false := by simpa using h3
  have e4 : (((s[s.size - 1]'(by omega)).toNat : Int) == 45) = false := by simpa using h4
  clear h3 h4
  go_enter Tryz.func110, Tryz.ntmps110
  go_wp2
  clear e1 e2 e3 e4
  go_loopw [4] (fun v wr => ∃ (pos : Nat), wr.heap[w.heap.size]? = some (.stringIter s pos) ∧ Below w.heap.size w wr ∧ PrefOk s pos) (fun _ wr => s.size - wr.iterPos w.heap.size)
  case atStart => exact ⟨0, World.iter_heap w s 0, (Below.refl _ _).alloc (Nat.le_refl _) _, fun i _ h => absurd h (by omega)⟩
  case round =>
    obtain ⟨pos, hit, hbw, hpf⟩ := hrel
    have hpos0 := iterPos_of hit
    by_cases hp : pos < s.size
    · by_cases hok : okB s[pos] = true
      · have ha : (s[pos]'hp).toNat < 128 := by
          by_cases hh : (s[pos]'hp).toNat < 128
          · exact hh
          · have := plainC_high ((s[pos]'hp).toNat : Int) (by omega)
            unfold okB at hok; rw [this] at hok; cases hok
        have hnx : ∀ ty, (Instr.next (.pointer (some ⟨w.heap.size, 0, none⟩)) true ty).run Tryz.prog wr = _ := fun ty => Lib.run_next_ascii_at wr w.heap.size s pos ty hit hp ha
        have hit2 := Lib.iterAt_heap wr w.heap.size s pos (pos + 1) hit
        have hbw2 := below_iterAt hbw (k := w.heap.size) (Nat.le_refl _) s (pos + 1)
        have hpf2 := hpf.next hp hok
        unfold okB okC at hok
        obtain ⟨W1, hW1⟩ : ∃ W1, W1 = wr.iterAt w.heap.size s (pos + 1) := ⟨_, rfl⟩
        rw [← hW1] at hnx hit2 hbw2
        clear hW1 hit hbw hpf ha
        rcases Bool.or_eq_true _ _ ▸ hok with hq | hq
        · clear hok
          go_wp2_with (go_at_call 140; refine (plain_any _ _).mono ?_; rintro e w' ⟨rfl, rfl⟩)
          go_roundw
          case rel => exact ⟨pos + 1, hit2, hbw2, hpf2⟩
          case measure => rw [iterPos_of hit2, hpos0]; omega
        · have hq' : (((s[pos]'hp).toNat : Int) != 45) = false := by simp [bne, hq]
          clear hok
          cases hc : plainC ((s[pos]'hp).toNat : Int)
          all_goals
            go_wp2_with (go_at_call 140; refine (plain_any _ _).mono ?_; rintro e w' ⟨rfl, rfl⟩)
            go_roundw
            case rel => exact ⟨pos + 1, hit2, hbw2, hpf2⟩
            case measure => rw [iterPos_of hit2, hpos0]; omega
      · have hall := Lib.hid (all_false hp (by simpa using hok))
        have hnx : ∀ ty, (Instr.next (.pointer (some ⟨w.heap.size, 0, none⟩)) true ty).run Tryz.prog wr = _ := fun ty => Lib.run_next_any_at wr w.heap.size s pos ty hit hp
        have hc : okC ((Utf8.decode s pos).1 : Int) = false := by
          by_cases ha : (s[pos]'hp).toNat < 128
          · rw [decode_ascii s pos hp ha]; simpa [okB] using hok
          · exact plainC_high _ (by have := (decode_high s pos hp (by omega)).1; omega)
        have hbw2 := below_iterAt hbw (k := w.heap.size) (Nat.le_refl _) s (pos + (Utf8.decode s pos).2)
        obtain ⟨W1, hW1⟩ : ∃ W1, W1 = wr.iterAt w.heap.size s (pos + (Utf8.decode s pos).2) := ⟨_, rfl⟩
        rw [← hW1] at hnx hbw2
        clear hW1 hit hbw hpf hok
        generalize (Utf8.decode s pos).1 = c at hnx hc
        unfold okC at hc
        have hc1 : plainC (c : Int) = false := (Bool.or_eq_false_iff.1 hc).1
        have hc2 : ((c : Int) != 45) = true := by have := (Bool.or_eq_false_iff.1 hc).2; simp [bne, this]
        clear hc
        go_wp2_with (go_at_call 140; refine (plain_any _ _).mono ?_; rintro e w' ⟨rfl, rfl⟩)
        go_ret
        exact ⟨by rw [hall.out]; rfl, hbw2⟩
    · have hnx : ∀ ty, (Instr.next (.pointer (some ⟨w.heap.size, 0, none⟩)) true ty).run Tryz.prog wr = _ := fun ty => Lib.run_next_end_at wr w.heap.size s pos ty hit hp
      have hall := Lib.hid (all_of_pref hpf (by omega))
      clear hpf
      go_wp2
      go_ret
      exact ⟨by rw [hall.out]; rfl, hbw⟩

set_option maxRecDepth 100000 in
theorem name_any (s : ByteArray) (w : World) : Calls Tryz.prog 110 #[.string s] w fun e w' => e = .returned (.bool (nameB s)) ∧ Below w.heap.size w w' := by
  by_cases h1 : 1 ≤ s.size
  · by_cases h2 : s.size ≤ 32
    · have g1 := getElem_head s (by omega)
      have g2 := getElem_last s (by omega)
      by_cases h3 : ((s[0]'(by omega)).toNat : Int) = 45
      · have hb := Lib.hid (show nameB s = false by
          have : (s[0]'(by omega)) = 45 := UInt8.toNat_inj.1 (by simp; omega)
          unfold nameB nameL; rw [g1, this]; simp)
        have e1 : decide ((s.size : Int) < 1) = false := by simp; omega
        have e2 : decide ((s.size : Int) > 32) = false := by simp; omega
        have e3 : (((s[0]'(by omega)).toNat : Int) == 45) = true := by simpa using h3
        clear h3 g1 g2
        go_enter Tryz.func110, Tryz.ntmps110
        go_wp2
        go_ret
        exact ⟨by rw [hb.out]; rfl, Below.refl _ _⟩
      · by_cases h4 : ((s[s.size - 1]'(by omega)).toNat : Int) = 45
        · have hb := Lib.hid (show nameB s = false by
            have : (s[s.size - 1]'(by omega)) = 45 := UInt8.toNat_inj.1 (by simp; omega)
            unfold nameB nameL; rw [g2, this]; simp)
          have e1 : decide ((s.size : Int) < 1) = false := by simp; omega
          have e2 : decide ((s.size : Int) > 32) = false := by simp; omega
          have e3 : (((s[0]'(by omega)).toNat : Int) == 45) = false := by simpa using h3
          have e4 : (((s[s.size - 1]'(by omega)).toNat : Int) == 45) = true := by simpa using h4
          clear h3 h4 g1 g2
          go_enter Tryz.func110, Tryz.ntmps110
          go_wp2
          go_ret
          exact ⟨by rw [hb.out]; rfl, Below.refl _ _⟩
        · have hb : nameB s = s.data.toList.all okB := by
            have n3 : (s[0]'(by omega)) ≠ 45 := fun e => h3 (by rw [e]; rfl)
            have n4 : (s[s.size - 1]'(by omega)) ≠ 45 := fun e => h4 (by rw [e]; rfl)
            unfold nameB nameL; rw [g1, g2, data_len]; simp [n3, n4, h1, h2]
          rw [hb]
          exact name_loop s w h1 h2 h3 h4
    · have hb := Lib.hid (show nameB s = false by unfold nameB nameL; rw [data_len]; simp [h2])
      have e1 : decide ((s.size : Int) < 1) = false := by simp; omega
      have e2 : decide ((s.size : Int) > 32) = true := by simp; omega
      go_enter Tryz.func110, Tryz.ntmps110
      go_wp2
      go_ret
      exact ⟨by rw [hb.out]; rfl, Below.refl _ _⟩
  · have hb := Lib.hid (show nameB s = false by unfold nameB nameL; rw [data_len]; simp [h1])
    have e1 : decide ((s.size : Int) < 1) = true := by simp; omega
    go_enter Tryz.func110, Tryz.ntmps110
    go_wp2
    go_ret
    exact ⟨by rw [hb.out]; rfl, Below.refl _ _⟩

def SplitPost (s : ByteArray) (w : World) (e : Ending) (w' : World) : Prop :=
  ∃ v, e = .returned (.tuple #[v, .int .i64 (errPath s)]) ∧ Sl Kn.str (fun k => w.heap.size ≤ k) w' v (pathNames s) ∧ Below w.heap.size w w'

theorem split_no (s : ByteArray) (w w' : World) (h : pathL s.data.toList = none) (hb : Below w.heap.size w w') : SplitPost s w (.returned (.tuple #[.slice none 0 0, .int .i64 41])) w' :=
  ⟨_, by rw [show errPath s = 41 by simp [errPath, isPath, h]], by unfold pathNames; rw [h]; exact Sl.nil _ _ _, hb⟩

theorem split_yes (s : ByteArray) (w w' : World) (v : Value) (l : List (List UInt8)) (h : pathL s.data.toList = some l) (hs : Sl Kn.str (fun k => w.heap.size ≤ k) w' v (l.map mkB)) (hb : Below w.heap.size w w') : SplitPost s w (.returned (.tuple #[v, .int .i64 0])) w' :=
  ⟨_, by rw [show errPath s = 0 by simp [errPath, isPath, h]], by unfold pathNames; rw [h]; exact hs, hb⟩

set_option maxRecDepth 100000 in
theorem split_root (s : ByteArray) (w : World) (h : s.data.toList = [47]) : Calls Tryz.prog 71 #[.string s] w (SplitPost s w) := by
  have e1 : (s.toList == [47]) = true := by rw [toList_eq, h]; rfl
  have hfin := Lib.hid (split_yes s w w (.slice none 0 0) [] (by unfold pathL; rw [if_pos h]) (Sl.nil _ _ _) (Below.refl _ _))
  clear h
  go_enter Tryz.func71, Tryz.ntmps71
  go_wp2
  go_ret2
  exact hfin.out

set_option maxRecDepth 100000 in
theorem split_noslash (s : ByteArray) (w : World) (h0 : s.data.toList ≠ [47]) (h : Lib.hasPrefix s.data.toList [47] = false) : Calls Tryz.prog 71 #[.string s] w (SplitPost s w) := by
  have e1 : (s.toList == [47]) = false := by rw [toList_eq]; simpa using h0
  have hp : pathL s.data.toList = none := by
    unfold pathL; rw [if_neg h0, if_neg]
    rintro ⟨hh, _⟩
    match hl : s.data.toList with
    | [] => rw [hl] at hh; cases hh
    | b :: l => rw [hl] at hh h; injection hh with hh; subst hh; simp [Lib.hasPrefix, List.isPrefixOf] at h
  have hfin := Lib.hid (split_no s w w hp (Below.refl _ _))
  clear h0 hp
  go_enter Tryz.func71, Tryz.ntmps71
  go_wp2_with (go_at_call 108; refine (Tryz.strings_CutPrefix _ _ _).mono ?_; rintro e w' ⟨rfl, rfl⟩)
  go_ret2
  exact hfin.out

theorem strSplit_any (r : ByteArray) (w : World) (hm : Ml w) (hs : r.size < 4294967281) :
    Calls Tryz.prog 109 #[.string r, .string ⟨#[47]⟩] w fun e w' => e = .returned (.slice (some ⟨w.heap.size, 0, none⟩) (splitC 47 r.data.toList).length (splitC 47 r.data.toList).length) ∧
      Row Kn.str (fun k => w.heap.size ≤ k) w' (some ⟨w.heap.size, 0, none⟩) ((splitC 47 r.data.toList).map mkB) ∧ Below w.heap.size w w' := by
  obtain ⟨m, hm⟩ := hm
  refine (Tryz.strings_Split r ⟨#[47]⟩ m w hs hm (by decide)).mono ?_
  rintro e w' ⟨rfl, rfl⟩
  refine ⟨?_, fun _ => ⟨_, rfl, Nat.le_refl _, _, flat_str _ _ _, fun j u hu => ?_⟩, (Below.refl _ _).alloc (Nat.le_refl _) _⟩
  · rw [splitC_length, show Lib.countB r ⟨#[47]⟩ = r.data.toList.count 47 from count_one 47 r.data.toList]
  · rw [add_new, cell_of_row _ _ _ _ _ _ (heap_alloc_new w _), splitB_slash]; simpa using hu

set_option maxRecDepth 100000 in
theorem split_long (s : ByteArray) (w : World) (h0 : s.data.toList ≠ [47]) (h : Lib.hasPrefix s.data.toList [47] = true) (hl : 64 < s.size) : Calls Tryz.prog 71 #[.string s] w (SplitPost s w) := by
  have e1 : (s.toList == [47]) = false := by rw [toList_eq]; simpa using h0
  have hp : pathL s.data.toList = none := by
    unfold pathL; rw [if_neg h0, if_neg]
    rintro ⟨_, hh, _⟩
    rw [data_len] at hh; omega
  have hfin := Lib.hid (split_no s w w hp (Below.refl _ _))
  have e2 : decide ((s.size : Int) > 64) = true := by simp; omega
  clear h0 hp
  go_enter Tryz.func71, Tryz.ntmps71
  go_wp2_with (go_at_call 108; refine (Tryz.strings_CutPrefix _ _ _).mono ?_; rintro e w' ⟨rfl, rfl⟩)
  go_ret2
  exact hfin.out

set_option maxRecDepth 100000 in
theorem split_main (s : ByteArray) (w : World) (hm : Ml w) (h0 : s.data.toList ≠ [47]) (h : Lib.hasPrefix s.data.toList [47] = true) (hl : s.size ≤ 64) : Calls Tryz.prog 71 #[.string s] w (SplitPost s w) := by
  have e1 : (s.toList == [47]) = false := by rw [toList_eq]; simpa using h0
  have e2 : decide ((s.size : Int) > 64) = false := by simp; omega
  obtain ⟨hhead, htrim⟩ := prefix_slash h
  obtain ⟨r, hr⟩ : ∃ r, (⟨(Lib.trimPrefix s.data.toList [47]).toArray⟩ : ByteArray) = r := ⟨_, rfl⟩
  have hrl : r.data.toList = s.data.toList.tail := by rw [← hr, htrim]
  have hrs : r.size ≤ 64 := by rw [← data_len r, hrl, List.length_tail, data_len]; omega
  have hpl : ∀ (A B : Prop) [Decidable A] [Decidable B], A = ((splitC 47 r.data.toList).length ≤ 8) → B = ((splitC 47 r.data.toList).all nameL = true) → pathL s.data.toList = if A then (if B then some (splitC 47 r.data.toList) else none) else none := by
    rintro A B _ _ rfl rfl
    unfold pathL
    rw [if_neg h0, ← hrl]
    by_cases c1 : (splitC 47 r.data.toList).length ≤ 8 <;> by_cases c2 : (splitC 47 r.data.toList).all nameL = true
    · rw [if_pos ⟨hhead, by rw [data_len]; exact hl, c1, c2⟩, if_pos c1, if_pos c2]
    · rw [if_neg (fun hh => c2 hh.2.2.2), if_pos c1, if_neg c2]
    · rw [if_neg (fun hh => c1 hh.2.2.1), if_neg c1]
    · rw [if_neg (fun hh => c1 hh.2.2.1), if_neg c1]
  have HPL := Lib.hid hpl
  have HR := Lib.hid hr
  clear hpl hr hhead htrim hrl
  by_cases hn : (splitC 47 r.data.toList).length ≤ 8
  · have e3 : decide (((splitC 47 r.data.toList).length : Int) > 8) = false := by simp; omega
    have hyes := Lib.hid (fun w' v (c2 : (splitC 47 r.data.toList).all nameL = true) hs hb => split_yes s w w' v (splitC 47 r.data.toList) (by rw [HPL.out _ _ rfl rfl, if_pos hn, if_pos c2]) hs hb)
    have hno := Lib.hid (fun w' (c2 : ¬ (splitC 47 r.data.toList).all nameL = true) hb => split_no s w w' (by rw [HPL.out _ _ rfl rfl, if_pos hn, if_neg c2]) hb)
    clear h0 HPL
    have hC := Lib.hid (fun w hm => strSplit_any r w hm (by omega))
    have hss : ((splitC 47 r.data.toList).map mkB).length = (splitC 47 r.data.toList).length := by simp
    generalize splitC 47 r.data.toList = ps at *
    have HSS := Lib.hid hss
    clear hss
    go_enter Tryz.func71, Tryz.ntmps71
    go_wp2_with (first
      | (go_at_call 108; refine (Tryz.strings_CutPrefix _ _ _).mono ?_; rintro e w' ⟨rfl, rfl⟩; rw [HR.out])
      | (go_at_call 109; refine (hC.out _ hm).mono ?_; rintro e w1 ⟨rfl, hrow, hb⟩; have HB := Lib.hid hb; clear hb))
    clear hC
    go_loopw [30] (fun i wr => ∃ k : Nat, i = .int .i64 k ∧ k ≤ ps.length ∧ Below w1.heap.size w1 wr ∧ (ps.take k).all nameL = true) (fun i _ => ps.length - (intOf i).toNat)
    case atStart => exact ⟨0, rfl, Nat.zero_le _, Below.refl _ _, rfl⟩
    case round =>
      obtain ⟨k, rfl, hk, hbr, hall⟩ := hrel
      by_cases hlt : k < ps.length
      · obtain ⟨a, ha, hcell⟩ := row_str_at (hrow.below hbr.toB) k (by rw [HSS.out]; exact hlt)
        have hel : ((ps.map mkB)[k]'(by rw [HSS.out]; exact hlt)) = mkB ps[k] := by simp
        rw [hel] at hcell
        obtain rfl : (⟨w'.heap.size, 0, none⟩ : Addr) = a := by injection ha
        clear ha hel
        rw [add_new] at hcell
        have hnm : nameB (mkB ps[k]) = nameL ps[k] := by unfold nameB; rw [mkB_data]
        have hstep : (ps.take (k + 1)).all nameL = ((ps.take k).all nameL && nameL ps[k]) := by
          rw [List.take_succ_eq_append_getElem hlt, List.all_append]; simp
        cases hv : nameL ps[k]
        · have hfalse : ¬ ps.all nameL = true := by
            rw [List.all_eq_true]; intro h; have := h ps[k] (List.getElem_mem _); rw [hv] at this; cases this
          have HN := Lib.hid (hnm.trans hv)
          clear hnm hstep hv
          have HALL := Lib.hid hall
          clear hall
          go_wp2_with (go_at_call 110; refine (name_any _ _).mono ?_; rintro e w2 ⟨rfl, hb2⟩; rw [HN.out]; have HB2 := Lib.hid hb2; clear hb2)
          go_ret2
          exact hno.out _ hfalse ((HB.out.trans (hbr.mono HB.out.size)).trans (HB2.out.mono (Nat.le_trans HB.out.size hbr.size)))
        · have HN := Lib.hid (hnm.trans hv)
          have HST := Lib.hid (hstep.trans (by rw [hall, hv]))
          clear hnm hstep hv hall
          go_wp2_with (go_at_call 110; refine (name_any _ _).mono ?_; rintro e w2 ⟨rfl, hb2⟩; rw [HN.out]; have HB2 := Lib.hid hb2; clear hb2)
          go_roundw
          case rel => exact ⟨k + 1, by go_num, hlt, hbr.trans (HB2.out.mono hbr.size), HST.out⟩
          case measure => simp [intOf]; omega
      · have hall' : ps.all nameL = true := by rw [List.take_of_length_le (by omega)] at hall; exact hall
        clear hall
        go_wp2
        go_ret2
        exact hyes.out _ _ hall' ⟨_, _, by rw [HSS.out]; rfl, Nat.le_of_eq HSS.out, by unfold maxLen; omega, hrow.below hbr.toB⟩ (HB.out.trans (hbr.mono HB.out.size))
  · have hp : pathL s.data.toList = none := by rw [HPL.out _ _ rfl rfl, if_neg hn]
    have hfin := Lib.hid (fun w' hb => split_no s w w' hp hb)
    have e3 : decide (((splitC 47 r.data.toList).length : Int) > 8) = true := by simp; omega
    clear h0 hp
    go_enter Tryz.func71, Tryz.ntmps71
    go_wp2_with (first
      | (go_at_call 108; refine (Tryz.strings_CutPrefix _ _ _).mono ?_; rintro e w' ⟨rfl, rfl⟩; rw [HR.out])
      | (go_at_call 109; refine (strSplit_any _ _ hm (by omega)).mono ?_; rintro e w1 ⟨rfl, hrow, hb⟩; have HB := Lib.hid hb; clear hb hrow))
    go_ret2
    exact hfin.out _ HB.out

theorem split_any (s : ByteArray) (w : World) (hm : Ml w) : Calls Tryz.prog 71 #[.string s] w (SplitPost s w) := by
  by_cases h0 : s.data.toList = [47]
  · exact split_root s w h0
  · cases h : Lib.hasPrefix s.data.toList [47]
    · exact split_noslash s w h0 h
    · by_cases hl : s.size ≤ 64
      · exact split_main s w hm h0 h hl
      · exact split_long s w h0 h (by omega)
end D
end Go.Proofs.YtalkdddeiebfmaaGreatDoor
