/- The document's answer for the scopes: Valid, All, Print, Parse. -/
import Derived.Test.YtdchffghgajbfaaDoorV9
import Derived.Laws.Tables
import Derived.Laws.IdiomStrings
namespace Go.Proofs.YtdchffghgajbfaaDoor
open Go.RowKit

theorem rvalid_any (s : ScV) (w : World) : Calls Tryd.prog 36 #[.agg #[.int .i64 s.kind, .int .i64 s.arg]] w fun e w' => e = .returned (.bool (validS s)) ∧ Below w.heap.size w w' := by
  obtain ⟨k, a⟩ := s
  have hb0 := Lib.hid ((Below.refl w.heap.size w).alloc (Nat.le_refl _) (.cells #[.int .i64 k, .int .i64 a] 54))
  by_cases h5 : k = 5
  · have e5 : (k == 5) = true := by simpa using h5
    by_cases h1 : 0 ≤ a
    · have e1 : decide (a ≥ 0) = true := by simpa using h1
      have hv := Lib.hid (show validS ⟨k, a⟩ = decide (a ≤ 9) by
        subst h5
        unfold validS
        rw [Bool.eq_iff_iff]
        simp
        omega)
      clear h5
      go_enter Tryd.func36, Tryd.ntmps36
      go_wp2
      go_ret
      exact ⟨by rw [hv.out]; rfl, hb0.out⟩
    · have e1 : decide (a ≥ 0) = false := by simpa using h1
      have hv := Lib.hid (show validS ⟨k, a⟩ = false by
        subst h5
        unfold validS
        simp
        omega)
      clear h5
      go_enter Tryd.func36, Tryd.ntmps36
      go_wp2
      go_ret
      exact ⟨by rw [hv.out]; rfl, hb0.out⟩
  · have e5 : (k == 5) = false := by simpa using h5
    by_cases h1 : 0 ≤ k
    · have e1 : decide (k ≥ 0) = true := by simpa using h1
      by_cases h2 : k < 5
      · have e2 : decide (k < 5) = true := by simpa using h2
        have hv := Lib.hid (show validS ⟨k, a⟩ = (a == 0) by
          unfold validS
          rw [if_neg (by simp only; omega), if_neg h5]
          rw [Bool.eq_iff_iff]; simp)
        clear h5
        go_enter Tryd.func36, Tryd.ntmps36
        go_wp2
        go_ret
        exact ⟨by rw [hv.out]; rfl, hb0.out⟩
      · have e2 : decide (k < 5) = false := by simpa using h2
        have hv := Lib.hid (show validS ⟨k, a⟩ = false by unfold validS; rw [if_pos (.inr (by simp only; omega))])
        clear h5
        go_enter Tryd.func36, Tryd.ntmps36
        go_wp2
        go_ret
        exact ⟨by rw [hv.out]; rfl, hb0.out⟩
    · have e1 : decide (k ≥ 0) = false := by simpa using h1
      have hv := Lib.hid (show validS ⟨k, a⟩ = false by unfold validS; rw [if_pos (.inl (by simp only; omega))])
      clear h5
      go_enter Tryd.func36, Tryd.ntmps36
      go_wp2
      go_ret
      exact ⟨by rw [hv.out]; rfl, hb0.out⟩
theorem rvalid_val (s : ScV) (b : Bool) (hb : Hid (validS s = b)) (w : World) : Calls Tryd.prog 36 #[.agg #[.int .i64 s.kind, .int .i64 s.arg]] w fun e w' => e = .returned (.bool b) ∧ Below w.heap.size w w' := by
  have := rvalid_any s w
  rw [hb.out] at this; exact this
/-- of one kind: those with an argument from 0 on -/
def rowT (k : Int) (n : Nat) : List ScV := ((List.range n).map fun (j : Nat) => ScV.mk k (j : Int)).filter validS
/-- of the kinds from 0 on -/
def scopesUp (k : Nat) : List ScV := (List.range k).flatMap fun (i : Nat) => rowT (i : Int) 10
theorem rowT_len (k : Int) (n : Nat) : (rowT k n).length ≤ n := by
  unfold rowT
  exact Nat.le_trans (List.length_filter_le _ _) (by simp)
theorem rowT_step (k : Int) (n : Nat) : rowT k (n + 1) = rowT k n ++ (if validS ⟨k, (n : Int)⟩ then [⟨k, (n : Int)⟩] else []) := by
  unfold rowT
  rw [List.range_succ, List.map_append, List.filter_append]
  congr 1
  simp only [List.map_cons, List.map_nil, List.filter_cons, List.filter_nil]
theorem scopesUp_step (k : Nat) : scopesUp (k + 1) = scopesUp k ++ rowT (k : Int) 10 := by
  unfold scopesUp
  rw [List.range_succ, List.flatMap_append]
  simp
theorem scopesUp_len (k : Nat) : (scopesUp k).length ≤ 10 * k := by
  induction k with
  | zero => simp [scopesUp]
  | succ k ih =>
    rw [scopesUp_step, List.length_append]
    have := rowT_len (k : Int) 10
    omega
theorem scopesUp_all : scopesUp 6 = allS := by decide
def RAllPost (w : World) (e : Ending) (w' : World) : Prop := ∃ A c, e = .returned (.slice A 15 c) ∧ Own kSc 54 w.heap.size (fun _ => True) w' (.slice A 15 c) allS ∧ Below w.heap.size w w'
set_option maxRecDepth 100000 in
theorem rAll_any (w : World) : Calls Tryd.prog 72 #[] w (RAllPost w) := by
  have HW := Lib.hid (Below.refl w.heap.size w)
  go_enter Tryd.func72, Tryd.ntmps72
  go_wp2
  go_loopw [1, 2] (fun lv kv wr => ∃ (j n : Nat) (B : Option Addr) (M : List ScV), kv = .int .i64 (j : Int) ∧ lv = .slice B M.length n ∧ j ≤ 6 ∧ M.length ≤ 60 ∧ Hid (ScsAt w.heap.size w wr lv M (scopesUp j))) (fun _ kv _ => 6 - (intOf kv).toNat)
  case atStart => exact ⟨0, 0, none, [], by go_num, rfl, Nat.zero_le _, Nat.zero_le _, Own.nil _ _ _ _ _, HW.out, by simp [scopesUp]⟩
  case round =>
    obtain ⟨j, n, B, M, rfl, rfl, hj, hM, hall⟩ := hrel
    obtain ⟨wo, rfl⟩ : ∃ wo, wo = wr := ⟨_, rfl⟩
    by_cases hlt : j < 6
    · have hlt1 : (j : Int) < 6 := by omega
      have HLEN := Lib.hid (show (scopesUp j).length ≤ 10 * j from scopesUp_len j)
      clear hM
      go_wp2
      go_loopw [1, 3] (fun lv av wr => ∃ (a n : Nat) (B : Option Addr) (M : List ScV), av = .int .i64 (a : Int) ∧ lv = .slice B M.length n ∧ a ≤ 10 ∧ M.length ≤ 60 ∧ Hid (ScsAt w.heap.size w wr lv M (scopesUp j ++ rowT (j : Int) a))) (fun _ av _ => 10 - (intOf av).toNat)
      case atStart => exact ⟨0, n, B, M, by go_num, rfl, Nat.zero_le _, by rw [hall.out.eq]; have := HLEN.out; omega, hall.out.own, hall.out.below, by rw [hall.out.eq]; simp [rowT]⟩
      case round =>
        clear hall
        obtain ⟨a, n2, B2, M2, rfl, rfl, ha, hM2, hall2⟩ := hrel
        obtain ⟨wp, rfl⟩ : ∃ wp, wp = wr := ⟨_, rfl⟩
        have hsz := hall2.out.below.size
        by_cases hlta : a < 10
        · have hlt2 : (a : Int) < 10 := by omega
          have HB1 := Lib.hid ((Below.refl wp.heap.size wp).alloc (Nat.le_refl _) (.cells #[.int .i64 (j : Int), .int .i64 (a : Int)] 54))
          obtain ⟨s0, s1⟩ := scAt_new wp (j : Int) (a : Int)
          have HLN := Lib.hid (show M2.length ≤ 10 * j + a by
            rw [hall2.out.eq, List.length_append]
            have := HLEN.out
            have := rowT_len (j : Int) a
            omega)
          have h16 : (M2.length + 1) * 16 ≤ 140737488355328 := by omega
          cases hv : validS ⟨(j : Int), (a : Int)⟩
          · have HV := Lib.hid hv
            have HST := Lib.hid (show rowT (j : Int) (a + 1) = rowT (j : Int) a by rw [rowT_step, hv]; simp)
            clear hv
            go_wp2_with (go_at_call 36; refine (rvalid_val ⟨(j : Int), (a : Int)⟩ false HV _).mono ?_; rintro e w2 ⟨rfl, hb2⟩; have HB2 := Lib.hid (HB1.out.trans (hb2.mono HB1.out.size)); clear hb2)
            go_roundw
            case rel => exact ⟨a + 1, n2, B2, M2, by go_num, rfl, hlta, hM2, by have := hall2.out.mono_below HB2.out hsz; unfold Hid; rw [HST.out]; exact this⟩
            case measure => simp [intOf]; omega
          · have HV := Lib.hid hv
            have HST := Lib.hid (show rowT (j : Int) (a + 1) = rowT (j : Int) a ++ [⟨(j : Int), (a : Int)⟩] by rw [rowT_step, hv]; rfl)
            clear hv
            go_wp2_with (first
              | (go_at_call 36; refine (rvalid_val ⟨(j : Int), (a : Int)⟩ true HV _).mono ?_; rintro e w2 ⟨rfl, hb2⟩; have HB2 := Lib.hid (HB1.out.trans (hb2.mono HB1.out.size)); have m0 := (hb2.cell (World.block_lt_of_cell? _ _ s0)).trans s0; have m1 := (hb2.cell (World.block_lt_of_cell? _ _ s1)).trans s1; clear hb2)
              | (at_builtin; refine wpList_app_plain scElem kSc_plain w.heap.size rfl (.tmp 18) (.tmp 20) rfl (v := .slice B2 M2.length n2) (xs := M2) (ys := [(⟨(j : Int), (a : Int)⟩ : ScV)]) rfl ((hall2.out.own.below HB2.out).alloc _) rfl rfl (Row.newOnePlain (cs := ScV.cells ⟨(j : Int), (a : Int)⟩) kSc_plain rfl) (by exact h16) (by have := HB2.out.size; simp; omega) ?_; intro A7 c7 w7 happ; have HA7 := Lib.hid happ; clear happ))
            go_roundw
            case rel =>
              have hl1 : (M2 ++ [(⟨(j : Int), (a : Int)⟩ : ScV)]).length = M2.length + 1 := by rw [List.length_append]; rfl
              exact ⟨a + 1, c7, A7, M2 ++ [⟨(j : Int), (a : Int)⟩], by go_num, by rw [hl1], hlta, by rw [hl1]; have := HLN.out; omega, by
                have := hall2.out.app (HB2.out.alloc HB2.out.size _) hsz rfl HA7.out
                unfold Hid; rw [HST.out]; rw [List.append_assoc] at this; exact this⟩
            case measure => simp [intOf]; omega
        · have hge2 : ¬ ((a : Int) < 10) := by omega
          have ha13 : a = 10 := by omega
          subst ha13
          go_wp2
          go_roundw
          case rel => exact ⟨j + 1, n2, B2, M2, by go_num, rfl, hlt, hM2, by unfold Hid; rw [scopesUp_step]; exact hall2.out⟩
          case measure => simp [intOf]; omega
    · have hge : ¬ ((j : Int) < 6) := by omega
      have hj9 : j = 6 := by omega
      subst hj9
      have HM9 := Lib.hid (show M = allS by rw [hall.out.eq, scopesUp_all])
      have hl15 : M.length = 15 := by rw [HM9.out]; rfl
      have HO := Lib.hid (show Own kSc 54 w.heap.size (fun _ => True) wo (.slice B 15 n) allS by have := hall.out.own; rw [HM9.out] at this; exact this)
      have HBL := Lib.hid hall.out.below
      rw [hl15]
      clear hall hM hl15
      go_wp2
      go_ret
      exact ⟨_, _, rfl, HO.out, HBL.out⟩

theorem rprint_bad (s : ScV) (w : World) (hv : validS s = false) : Calls Tryd.prog 44 #[.agg #[.int .i64 s.kind, .int .i64 s.arg]] w (PrintPost ⟨#[]⟩ 150 w) := by
  obtain ⟨k, a⟩ := s
  have hb0 := Lib.hid ((Below.refl w.heap.size w).alloc (Nat.le_refl _) (.cells #[.int .i64 k, .int .i64 a] 54))
  have HV := Lib.hid hv
  clear hv
  obtain ⟨s0, s1⟩ := scAt_new w k a
  go_enter Tryd.func44, Tryd.ntmps44
  go_wp2_with (go_at_call 36; refine (rvalid_val ⟨k, a⟩ false HV _).mono ?_; rintro e w2 ⟨rfl, hb2⟩)
  go_ret2
  exact ⟨rfl, hb0.out.trans (hb2.mono hb0.out.size)⟩
theorem rprint_0 (a : Int) (w : World) (hv : validS ⟨0, a⟩ = true) : Calls Tryd.prog 44 #[.agg #[.int .i64 0, .int .i64 a]] w (PrintPost (textK 0) 0 w) := by
  have hb0 := Lib.hid ((Below.refl w.heap.size w).alloc (Nat.le_refl _) (.cells #[.int .i64 0, .int .i64 a] 54))
  have HV := Lib.hid hv
  clear hv
  obtain ⟨s0, s1⟩ := scAt_new w 0 a
  go_enter Tryd.func44, Tryd.ntmps44
  go_wp2_with (go_at_call 36; refine (rvalid_val ⟨0, a⟩ true HV _).mono ?_; rintro e w2 ⟨rfl, hb2⟩; have HB2 := Lib.hid (hb0.out.trans (hb2.mono hb0.out.size)); have m0 := (hb2.cell (World.block_lt_of_cell? _ _ s0)).trans s0; have k0 := (((Below.refl w2.heap.size w2).alloc (Nat.le_refl _) (.cells #[.string ⟨#[97, 108, 108]⟩, .string ⟨#[98, 101, 115, 116]⟩, .string ⟨#[110, 111, 116, 98, 101, 115, 116]⟩, .string ⟨#[101, 110, 100, 115]⟩, .string ⟨#[110, 111, 116, 101, 110, 100, 115]⟩, .string ⟨#[112, 114, 105, 111, 114, 105, 116, 121, 61]⟩] 107)).cell (World.block_lt_of_cell? _ _ m0)).trans m0; clear hb2)
  go_ret2
  exact ⟨rfl, HB2.out.alloc HB2.out.size _⟩
theorem rprint_1 (a : Int) (w : World) (hv : validS ⟨1, a⟩ = true) : Calls Tryd.prog 44 #[.agg #[.int .i64 1, .int .i64 a]] w (PrintPost (textK 1) 0 w) := by
  have hb0 := Lib.hid ((Below.refl w.heap.size w).alloc (Nat.le_refl _) (.cells #[.int .i64 1, .int .i64 a] 54))
  have HV := Lib.hid hv
  clear hv
  obtain ⟨s0, s1⟩ := scAt_new w 1 a
  go_enter Tryd.func44, Tryd.ntmps44
  go_wp2_with (go_at_call 36; refine (rvalid_val ⟨1, a⟩ true HV _).mono ?_; rintro e w2 ⟨rfl, hb2⟩; have HB2 := Lib.hid (hb0.out.trans (hb2.mono hb0.out.size)); have m0 := (hb2.cell (World.block_lt_of_cell? _ _ s0)).trans s0; have k0 := (((Below.refl w2.heap.size w2).alloc (Nat.le_refl _) (.cells #[.string ⟨#[97, 108, 108]⟩, .string ⟨#[98, 101, 115, 116]⟩, .string ⟨#[110, 111, 116, 98, 101, 115, 116]⟩, .string ⟨#[101, 110, 100, 115]⟩, .string ⟨#[110, 111, 116, 101, 110, 100, 115]⟩, .string ⟨#[112, 114, 105, 111, 114, 105, 116, 121, 61]⟩] 107)).cell (World.block_lt_of_cell? _ _ m0)).trans m0; clear hb2)
  go_ret2
  exact ⟨rfl, HB2.out.alloc HB2.out.size _⟩
theorem rprint_2 (a : Int) (w : World) (hv : validS ⟨2, a⟩ = true) : Calls Tryd.prog 44 #[.agg #[.int .i64 2, .int .i64 a]] w (PrintPost (textK 2) 0 w) := by
  have hb0 := Lib.hid ((Below.refl w.heap.size w).alloc (Nat.le_refl _) (.cells #[.int .i64 2, .int .i64 a] 54))
  have HV := Lib.hid hv
  clear hv
  obtain ⟨s0, s1⟩ := scAt_new w 2 a
  go_enter Tryd.func44, Tryd.ntmps44
  go_wp2_with (go_at_call 36; refine (rvalid_val ⟨2, a⟩ true HV _).mono ?_; rintro e w2 ⟨rfl, hb2⟩; have HB2 := Lib.hid (hb0.out.trans (hb2.mono hb0.out.size)); have m0 := (hb2.cell (World.block_lt_of_cell? _ _ s0)).trans s0; have k0 := (((Below.refl w2.heap.size w2).alloc (Nat.le_refl _) (.cells #[.string ⟨#[97, 108, 108]⟩, .string ⟨#[98, 101, 115, 116]⟩, .string ⟨#[110, 111, 116, 98, 101, 115, 116]⟩, .string ⟨#[101, 110, 100, 115]⟩, .string ⟨#[110, 111, 116, 101, 110, 100, 115]⟩, .string ⟨#[112, 114, 105, 111, 114, 105, 116, 121, 61]⟩] 107)).cell (World.block_lt_of_cell? _ _ m0)).trans m0; clear hb2)
  go_ret2
  exact ⟨rfl, HB2.out.alloc HB2.out.size _⟩
theorem rprint_3 (a : Int) (w : World) (hv : validS ⟨3, a⟩ = true) : Calls Tryd.prog 44 #[.agg #[.int .i64 3, .int .i64 a]] w (PrintPost (textK 3) 0 w) := by
  have hb0 := Lib.hid ((Below.refl w.heap.size w).alloc (Nat.le_refl _) (.cells #[.int .i64 3, .int .i64 a] 54))
  have HV := Lib.hid hv
  clear hv
  obtain ⟨s0, s1⟩ := scAt_new w 3 a
  go_enter Tryd.func44, Tryd.ntmps44
  go_wp2_with (go_at_call 36; refine (rvalid_val ⟨3, a⟩ true HV _).mono ?_; rintro e w2 ⟨rfl, hb2⟩; have HB2 := Lib.hid (hb0.out.trans (hb2.mono hb0.out.size)); have m0 := (hb2.cell (World.block_lt_of_cell? _ _ s0)).trans s0; have k0 := (((Below.refl w2.heap.size w2).alloc (Nat.le_refl _) (.cells #[.string ⟨#[97, 108, 108]⟩, .string ⟨#[98, 101, 115, 116]⟩, .string ⟨#[110, 111, 116, 98, 101, 115, 116]⟩, .string ⟨#[101, 110, 100, 115]⟩, .string ⟨#[110, 111, 116, 101, 110, 100, 115]⟩, .string ⟨#[112, 114, 105, 111, 114, 105, 116, 121, 61]⟩] 107)).cell (World.block_lt_of_cell? _ _ m0)).trans m0; clear hb2)
  go_ret2
  exact ⟨rfl, HB2.out.alloc HB2.out.size _⟩
theorem rprint_4 (a : Int) (w : World) (hv : validS ⟨4, a⟩ = true) : Calls Tryd.prog 44 #[.agg #[.int .i64 4, .int .i64 a]] w (PrintPost (textK 4) 0 w) := by
  have hb0 := Lib.hid ((Below.refl w.heap.size w).alloc (Nat.le_refl _) (.cells #[.int .i64 4, .int .i64 a] 54))
  have HV := Lib.hid hv
  clear hv
  obtain ⟨s0, s1⟩ := scAt_new w 4 a
  go_enter Tryd.func44, Tryd.ntmps44
  go_wp2_with (go_at_call 36; refine (rvalid_val ⟨4, a⟩ true HV _).mono ?_; rintro e w2 ⟨rfl, hb2⟩; have HB2 := Lib.hid (hb0.out.trans (hb2.mono hb0.out.size)); have m0 := (hb2.cell (World.block_lt_of_cell? _ _ s0)).trans s0; have k0 := (((Below.refl w2.heap.size w2).alloc (Nat.le_refl _) (.cells #[.string ⟨#[97, 108, 108]⟩, .string ⟨#[98, 101, 115, 116]⟩, .string ⟨#[110, 111, 116, 98, 101, 115, 116]⟩, .string ⟨#[101, 110, 100, 115]⟩, .string ⟨#[110, 111, 116, 101, 110, 100, 115]⟩, .string ⟨#[112, 114, 105, 111, 114, 105, 116, 121, 61]⟩] 107)).cell (World.block_lt_of_cell? _ _ m0)).trans m0; clear hb2)
  go_ret2
  exact ⟨rfl, HB2.out.alloc HB2.out.size _⟩
theorem dig_conv (w : World) {a : Int} (h1 : 0 ≤ a) (h2 : a < 10) : (convert 123 9 (.slice (some ⟨w.heap.size, 0, none⟩) 1 1)).run Tryd.prog (w.alloc (.cells #[.int .u8 (48 + a)] 5)) = .ok (.string (digB a)) (w.alloc (.cells #[.int .u8 (48 + a)] 5)) := by
  have h8 : ((UInt8.ofNat (48 + a.toNat)).toNat : Int) = 48 + a := by
    have : (UInt8.ofNat (48 + a.toNat)).toNat = 48 + a.toNat := by simp; omega
    rw [this]; omega
  exact run_convert_bytes_back (P := Tryd.prog) _ 123 9 5 ⟨w.heap.size, 0, none⟩ 1 [UInt8.ofNat (48 + a.toNat)] Tryd.underlying123 Tryd.underlying5 Tryd.underlying9 (fun j hj => by
    obtain rfl : j = 0 := by simpa using hj
    simp only [List.getElem_cons_zero]
    rw [h8]
    exact (cell_of_row _ _ _ _ _ _ (heap_alloc_new w (.cells #[.int .u8 (48 + a)] 5))).trans rfl)
theorem dig_conv2 (w : World) (o : Obj) {a : Int} (h1 : 0 ≤ a) (h2 : a < 10) : (convert 123 9 (.slice (some ⟨w.heap.size + 1, 0, none⟩) 1 1)).run Tryd.prog ((w.alloc o).alloc (.cells #[.int .u8 (48 + a)] 5)) = .ok (.string (digB a)) ((w.alloc o).alloc (.cells #[.int .u8 (48 + a)] 5)) := by
  have := dig_conv (w.alloc o) h1 h2
  rwa [show (w.alloc o).heap.size = w.heap.size + 1 by simp] at this
set_option maxRecDepth 100000 in
theorem rprint_5 (a : Int) (w : World) (hv : validS ⟨5, a⟩ = true) : Calls Tryd.prog 44 #[.agg #[.int .i64 5, .int .i64 a]] w (PrintPost (textK 5 ++ digB a) 0 w) := by
  have hb0 := Lib.hid ((Below.refl w.heap.size w).alloc (Nat.le_refl _) (.cells #[.int .i64 5, .int .i64 a] 54))
  have HV := Lib.hid hv
  have hr : 0 ≤ a ∧ a < 10 := by simp [validS] at hv; omega
  clear hv
  obtain ⟨s0, s1⟩ := scAt_new w 5 a
  obtain ⟨hr1, hr2⟩ := hr
  have hcat : (⟨#[112, 114, 105, 111, 114, 105, 116, 121, 61]⟩ : ByteArray).size + (digB a).size ≤ 9223372036854775807 := by show 9 + 1 ≤ _; omega
  go_enter Tryd.func44, Tryd.ntmps44
  go_wp2_with (go_at_call 36; refine (rvalid_val ⟨5, a⟩ true HV _).mono ?_; rintro e w2 ⟨rfl, hb2⟩; have HB2 := Lib.hid (hb0.out.trans (hb2.mono hb0.out.size)); have m0 := (hb2.cell (World.block_lt_of_cell? _ _ s0)).trans s0; have m1 := (hb2.cell (World.block_lt_of_cell? _ _ s1)).trans s1; have k0 := (((Below.refl w2.heap.size w2).alloc (Nat.le_refl _) (.cells #[.string ⟨#[97, 108, 108]⟩, .string ⟨#[98, 101, 115, 116]⟩, .string ⟨#[110, 111, 116, 98, 101, 115, 116]⟩, .string ⟨#[101, 110, 100, 115]⟩, .string ⟨#[110, 111, 116, 101, 110, 100, 115]⟩, .string ⟨#[112, 114, 105, 111, 114, 105, 116, 121, 61]⟩] 107)).cell (World.block_lt_of_cell? _ _ m0)).trans m0; have k1 := (((Below.refl w2.heap.size w2).alloc (Nat.le_refl _) (.cells #[.string ⟨#[97, 108, 108]⟩, .string ⟨#[98, 101, 115, 116]⟩, .string ⟨#[110, 111, 116, 98, 101, 115, 116]⟩, .string ⟨#[101, 110, 100, 115]⟩, .string ⟨#[110, 111, 116, 101, 110, 100, 115]⟩, .string ⟨#[112, 114, 105, 111, 114, 105, 116, 121, 61]⟩] 107)).cell (World.block_lt_of_cell? _ _ m1)).trans m1; have hcv := dig_conv2 w2 (.cells #[.string ⟨#[97, 108, 108]⟩, .string ⟨#[98, 101, 115, 116]⟩, .string ⟨#[110, 111, 116, 98, 101, 115, 116]⟩, .string ⟨#[101, 110, 100, 115]⟩, .string ⟨#[110, 111, 116, 101, 110, 100, 115]⟩, .string ⟨#[112, 114, 105, 111, 114, 105, 116, 121, 61]⟩] 107) hr1 hr2; clear hb2)
  go_ret2
  exact ⟨rfl, (HB2.out.alloc HB2.out.size _).alloc (by have := HB2.out.size; simp; omega) _⟩
theorem rprint_any (s : ScV) (w : World) : Calls Tryd.prog 44 #[.agg #[.int .i64 s.kind, .int .i64 s.arg]] w (PrintPost (printS s).1 (printS s).2 w) := by
  cases hv : validS s
  · have := rprint_bad s w hv
    unfold printS; rw [hv]; exact this
  · obtain ⟨k, a⟩ := s
    unfold printS
    rw [hv]
    rcases validS_kinds hv with rfl | rfl | rfl | rfl | rfl | rfl
    · exact rprint_0 a w hv
    · exact rprint_1 a w hv
    · exact rprint_2 a w hv
    · exact rprint_3 a w hv
    · exact rprint_4 a w hv
    · exact rprint_5 a w hv
end Go.Proofs.YtdchffghgajbfaaDoor
