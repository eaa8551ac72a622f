/- Rows that are alike. -/
import Derived.Test.YtalkdddeiebfmaaGreatDoorJ25
namespace Go.Proofs.YtalkdddeiebfmaaGreatDoor
open Go.RowKit

theorem run_eqScIn (x y : ScV) (W : World) : (Op.equalIn 9999 47 (.agg #[.int .i64 x.kind, .int .i64 x.arg]) (.agg #[.int .i64 y.kind, .int .i64 y.arg])).run Tryz.prog W = .ok (eqSc x y) W := by
  refine eqf_struct Tryz.underlying47 (by kernel_rfl) ?_
  refine eqf_more (by rfl) (by go_simp; rfl) (by go_simp; rfl) (by go_simp) ?_
  exact eqf_end (by rfl) (by go_simp; rfl) (by go_simp; rfl) (by go_simp)
theorem run_eqUse (s : Sh) (W : World) : (Op.equalIn 10000 49 (.agg #[.string s.1.1, .int .i64 s.1.2.1.1, .int .i64 s.1.2.1.2, .string s.1.2.2, .int .i64 s.2]) (.agg #[.string s.1.1, .int .i64 s.1.2.1.1, .int .i64 s.1.2.1.2, .string s.1.2.2, .int .i64 s.2])).run Tryz.prog W = .ok true W := by
  have h : (Op.equalIn 10000 49 (.agg #[.string s.1.1, .int .i64 s.1.2.1.1, .int .i64 s.1.2.1.2, .string s.1.2.2, .int .i64 s.2]) (.agg #[.string s.1.1, .int .i64 s.1.2.1.1, .int .i64 s.1.2.1.2, .string s.1.2.2, .int .i64 s.2])).run Tryz.prog W = .ok (s.1.1.toList == s.1.1.toList && (eqSc ⟨s.1.2.1.1, s.1.2.1.2⟩ ⟨s.1.2.1.1, s.1.2.1.2⟩ && (s.1.2.2.toList == s.1.2.2.toList && s.2 == s.2))) W := by
    refine eqf_struct Tryz.underlying49 (by kernel_rfl) ?_
    refine eqf_more (by rfl) (by go_simp; rfl) (by go_simp; rfl) (by go_simp) ?_
    refine eqf_more (by rfl) (by go_simp) (by go_simp) (run_eqScIn ⟨s.1.2.1.1, s.1.2.1.2⟩ ⟨s.1.2.1.1, s.1.2.1.2⟩ W) ?_
    refine eqf_more (by rfl) (by go_simp; rfl) (by go_simp; rfl) (by go_simp) ?_
    exact eqf_end (by rfl) (by go_simp; rfl) (by go_simp; rfl) (by go_simp)
  rw [h]
  simp [eqSc]
theorem run_neqUse (s : Sh) (W : World) : (binOp .neq 49 (.agg #[.string s.1.1, .int .i64 s.1.2.1.1, .int .i64 s.1.2.1.2, .string s.1.2.2, .int .i64 s.2]) (.agg #[.string s.1.1, .int .i64 s.1.2.1.1, .int .i64 s.1.2.1.2, .string s.1.2.2, .int .i64 s.2])).run Tryz.prog W = .ok (.bool false) W := by
  rw [run_neq_struct, run_eqUse]; rfl
set_option maxRecDepth 100000 in
theorem sameRows_val (A B : Option Addr) (n c d : Nat) (P Q : Nat → Prop) (xs : List Sh) (w : World) (hx : Row kSh P w A xs) (hy : Row kSh Q w B xs) (hn : xs.length = n) (hlx : n ≤ 9223372036854775807) :
    Calls Tryz.prog 13 #[.slice A n c, .slice B n d] w fun e w' => e = .returned (.bool true) ∧ Below w.heap.size w w' := by
  subst hn
  go_enter Tryz.func13, Tryz.ntmps13
  go_wp2
  go_loopw [5] (fun i wr => ∃ k : Nat, i = .int .i64 k ∧ k ≤ xs.length ∧ Below w.heap.size w wr) (fun i _ => xs.length - (intOf i).toNat)
  case atStart => exact ⟨0, rfl, Nat.zero_le _, Below.refl _ _⟩
  case round =>
    obtain ⟨k, rfl, hk, hbr⟩ := hrel
    by_cases hlt : k < xs.length
    · obtain ⟨a, rfl, -, l0, l1, l2, l3, l4⟩ := sh_at (hx.below hbr) k hlt
      obtain ⟨b, rfl, -, m0, m1, m2, m3, m4⟩ := sh_at (hy.below hbr) k hlt
      have hx1 : (k : Int) < (xs.length : Int) := by omega
      have hk0 : (0 : Int) ≤ (k : Int) := by omega
      have hrun := fun W => run_neqUse xs[k] W
      go_wp2
      go_quiet (fail)
      go_wp2
      go_roundw
      case rel => exact ⟨k + 1, by go_num, hlt, below_drewN hbr _⟩
      case measure => simp [intOf]; omega
    · have hge : ¬ ((k : Int) < (xs.length : Int)) := by omega
      go_wp2
      go_ret
      exact ⟨rfl, hbr⟩
end Go.Proofs.YtalkdddeiebfmaaGreatDoor
