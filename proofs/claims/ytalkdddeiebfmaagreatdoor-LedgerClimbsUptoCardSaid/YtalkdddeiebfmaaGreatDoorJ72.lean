/- row: is there one of these? -/
import Derived.Test.YtalkdddeiebfmaaGreatDoorJ71
namespace Go.Proofs.YtalkdddeiebfmaaGreatDoor
open Go.RowKit

theorem take_none {α : Type} {l : List α} {Q : α → Prop} {i : Nat} (hi : i < l.length) (h : ∀ z ∈ l.take i, Q z) (he : Q l[i]) : ∀ z ∈ l.take (i + 1), Q z := fun z hz => by
  rw [List.take_succ_eq_append_getElem hi, List.mem_append] at hz
  rcases hz with hz | hz
  · exact h z hz
  · rw [List.mem_singleton.1 hz]; exact he
set_option maxRecDepth 100000 in
set_option maxHeartbeats 1000000 in
theorem row_any (xs : List Sh) (n : Nat) (hn : xs.length = n) (A : Option Addr) (c : Nat) (P : Nat → Prop) (p : ByteArray) (s : ScV) (r : ByteArray) (w : World) (hr : Row kSh P w A xs) (hl : n ≤ 9223372036854775807) (hex : ∃ z ∈ xs, z.1 = (p, (s.kind, s.arg), r)) :
    Calls Tryz.prog 54 #[.slice A n c, .string p, .agg #[.int .i64 s.kind, .int .i64 s.arg], .string r] w fun e w' => e = .returned (.bool true) ∧ Below w.heap.size w w' := by
  have hb0 := (Below.refl w.heap.size w).alloc (Nat.le_refl _) (.cells #[.int .i64 s.kind, .int .i64 s.arg] 47)
  have hx := heap_alloc_new w (.cells #[.int .i64 s.kind, .int .i64 s.arg] 47)
  obtain ⟨w0, hw0⟩ : ∃ w0, w.alloc (.cells #[.int .i64 s.kind, .int .i64 s.arg] 47) = w0 := ⟨_, rfl⟩
  rw [hw0] at hb0 hx
  obtain ⟨t6, ht6⟩ : ∃ t, w.heap.size = t := ⟨_, rfl⟩
  have HB0 := Lib.hid hb0
  rw [ht6] at hx
  have HX := Lib.hid (show w0.cell? ⟨t6, 0, none⟩ = some (.int .i64 s.kind) ∧ w0.cell? ⟨t6, 1, none⟩ = some (.int .i64 s.arg) from ⟨(cell_of_row _ _ 0 _ _ _ hx).trans rfl, (cell_of_row _ _ 1 _ _ _ hx).trans rfl⟩)
  have HR := Lib.hid (hr.below hb0)
  have HN := Lib.hid hn
  have HEX := Lib.hid hex
  clear hb0 hx hr hn hex
  go_enter Tryz.func54, Tryz.ntmps54
  go_wp2
  clear hw0
  go_loopw [9] (fun iv wr => ∃ i : Nat, iv = .int .i64 i ∧ i ≤ n ∧ Hid (∀ z ∈ xs.take i, z.1 ≠ (p, (s.kind, s.arg), r)) ∧ Hid (Below w0.heap.size w0 wr)) (fun iv _ => n - (intOf iv).toNat)
  case atStart => exact ⟨0, rfl, Nat.zero_le _, by simp [Hid], Below.refl _ _⟩
  case round =>
    obtain ⟨i, rfl, hi, hno, hb⟩ := hrel
    obtain ⟨wq, rfl⟩ : ∃ wq, wq = wr := ⟨_, rfl⟩
    have HB := Lib.hid hb.out
    have HNO := Lib.hid hno.out
    clear hb hno
    by_cases hlt : i < n
    · have hil : i < xs.length := by rw [HN.out]; exact hlt
      obtain ⟨a, rfl, -, l0, l1, l2, l3, l4⟩ := sh_at (HR.out.below HB.out) i hil
      have htk := take_none (Q := fun z : Sh => z.1 ≠ (p, (s.kind, s.arg), r)) hil HNO.out
      obtain ⟨u, hu⟩ : ∃ u, xs[i] = u := ⟨_, rfl⟩
      rw [hu] at l0 l1 l2 l3 l4 htk
      have hlti : (i : Int) < (n : Int) := by omega
      have hi0 : (0 : Int) ≤ (i : Int) := by omega
      have x0 := (HB.out.cell (World.block_lt_of_cell? _ _ HX.out.1)).trans HX.out.1
      have x1 := (HB.out.cell (World.block_lt_of_cell? _ _ HX.out.2)).trans HX.out.2
      have HTK := Lib.hid htk
      have HBR := Lib.hid (HB0.out.trans (HB.out.mono HB0.out.size))
      clear htk hu
      by_cases h1 : u.1.2.2 = r
      · have e1 : (u.1.2.2.toList == r.toList) = true := by rw [bytes_beq]; simpa using h1
        cases h2 : eqSc ⟨u.1.2.1.1, u.1.2.1.2⟩ s
        · have hrun := fun W => run_eqlSc ⟨u.1.2.1.1, u.1.2.1.2⟩ s false h2 W
          have HTK2 := Lib.hid (HTK.out (fun e => by
            rw [eqSc_iff, decide_eq_false_iff_not] at h2
            refine h2 ?_
            have e2 := congrArg (fun z => z.2.1.1) e
            have e3 := congrArg (fun z => z.2.1.2) e
            simp only at e2 e3
            rw [e2, e3]))
          clear h1 h2
          go_wp2
          go_quiet (fail)
          go_wp2
          go_roundw
          case rel => exact ⟨i + 1, by go_num, hlt, HTK2.out, below_drewN HB.out _⟩
          case measure => simp [intOf]; omega
        · have hrun := fun W => run_eqlSc ⟨u.1.2.1.1, u.1.2.1.2⟩ s true h2 W
          clear h1 h2
          by_cases h3 : u.1.1 = p
          · have e3 : (u.1.1.toList == p.toList) = true := by rw [bytes_beq]; simpa using h3
            clear h3
            go_wp2
            go_quiet (fail)
            go_wp2
            go_ret
            exact ⟨rfl, by have h := HBR.out; first | exact below_drewN h _ | (rw [ht6] at h; exact below_drewN h _)⟩
          · have e3 : (u.1.1.toList == p.toList) = false := by rw [bytes_beq]; simpa using h3
            have HTK2 := Lib.hid (HTK.out (fun e => h3 (congrArg (fun z => z.1) e)))
            clear h3
            go_wp2
            go_quiet (fail)
            go_wp2
            go_roundw
            case rel => exact ⟨i + 1, by go_num, hlt, HTK2.out, below_drewN HB.out _⟩
            case measure => simp [intOf]; omega
      · have e1 : (u.1.2.2.toList == r.toList) = false := by rw [bytes_beq]; simpa using h1
        have HTK2 := Lib.hid (HTK.out (fun e => h1 (congrArg (fun z => z.2.2) e)))
        clear h1
        go_wp2
        go_quiet (fail)
        go_wp2
        go_roundw
        case rel => exact ⟨i + 1, by go_num, hlt, HTK2.out, below_drewN HB.out _⟩
        case measure => simp [intOf]; omega
    · obtain rfl : i = n := by omega
      have h := HNO.out
      rw [List.take_of_length_le (by rw [HN.out]; exact Nat.le_refl _)] at h
      obtain ⟨z, hz, e⟩ := HEX.out
      exact absurd e (h z hz)
end Go.Proofs.YtalkdddeiebfmaaGreatDoor
