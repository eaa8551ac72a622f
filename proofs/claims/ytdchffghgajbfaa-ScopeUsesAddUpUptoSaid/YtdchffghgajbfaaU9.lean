/- scope.Uses: quant.Add, the functions that are handed on. -/
import Derived.Test.YtdchffghgajbfaaU8
import Derived.Test.YtdchffghgajbfaaU5
import Derived.Test.YtdchffghgajbfaaShelf
namespace Go.Proofs.Ytdchffghgajbfaa
open Go.RowKit

def addQ (a b : Int) : Int × Int := if a < 0 ∨ b < 0 then (0, 1) else if a > 9223372036854775807 - b then (0, 7) else (a + b, 0)
theorem qAdd_any (a b : Int) (w : World) (ha : a ≤ 9223372036854775807) (hb : -9223372036854775808 ≤ b ∧ b ≤ 9223372036854775807) : Calls Try.prog 13 #[.int .i64 a, .int .i64 b] w fun e w' => e = .returned (.tuple #[.int .i64 (addQ a b).1, .int .i64 (addQ a b).2]) ∧ w = w' := by
  obtain ⟨hb1, hb2⟩ := hb
  by_cases h1 : a < 0
  · have e1 : decide (a < 0) = true := by simpa using h1
    have hr := Lib.hid (show addQ a b = (0, 1) by unfold addQ; rw [if_pos (.inl h1)])
    go_enter Try.func13, Try.ntmps13
    go_wp2
    go_ret2
    exact ⟨by rw [hr.out]; rfl, rfl⟩
  · have e1 : decide (a < 0) = false := by simpa using h1
    by_cases h2 : b < 0
    · have e2 : decide (b < 0) = true := by simpa using h2
      have hr := Lib.hid (show addQ a b = (0, 1) by unfold addQ; rw [if_pos (.inr h2)])
      go_enter Try.func13, Try.ntmps13
      go_wp2
      go_ret2
      exact ⟨by rw [hr.out]; rfl, rfl⟩
    · have e2 : decide (b < 0) = false := by simpa using h2
      have hw : IntKind.i64.wrap (9223372036854775807 - b) = 9223372036854775807 - b := by rw [IntKind.wrap_i64]; omega
      by_cases h3 : a > 9223372036854775807 - b
      · have e3 : decide (a > 9223372036854775807 - b) = true := by simpa using h3
        have hr := Lib.hid (show addQ a b = (0, 7) by unfold addQ; rw [if_neg (by omega), if_pos h3])
        go_enter Try.func13, Try.ntmps13
        go_wp2
        go_ret2
        exact ⟨by rw [hr.out]; rfl, rfl⟩
      · have e3 : decide (a > 9223372036854775807 - b) = false := by simpa using h3
        have hr := Lib.hid (show addQ a b = (a + b, 0) by unfold addQ; rw [if_neg (by omega), if_neg h3])
        have hw2 : IntKind.i64.wrap (a + b) = a + b := by rw [IntKind.wrap_i64]; omega
        go_enter Try.func13, Try.ntmps13
        go_wp2
        go_ret2
        exact ⟨by rw [hr.out]; rfl, rfl⟩
def negA (x : Amt) : Bool := decide (x.val < 0)
theorem uses1_any (x : Amt) (w : World) : Calls Try.prog 12 #[.agg #[.string x.name, .int .i64 x.val]] w fun e w' => e = .returned (.bool (negA x)) ∧ Below w.heap.size w w' := by
  have hb0 := Lib.hid ((Below.refl w.heap.size w).alloc (Nat.le_refl _) (.cells #[.string x.name, .int .i64 x.val] 36))
  obtain ⟨v, hv⟩ : ∃ v, x.val = v := ⟨_, rfl⟩
  have HV := Lib.hid (show negA x = decide (v < 0) by unfold negA; rw [hv])
  rw [hv] at hb0 ⊢
  clear hv
  cases hd : decide (v < 0)
  · go_enter Try.func12, Try.ntmps12
    go_wp2
    go_ret
    exact ⟨by rw [HV.out, hd]; rfl, hb0.out⟩
  · go_enter Try.func12, Try.ntmps12
    go_wp2
    go_ret
    exact ⟨by rw [HV.out, hd]; rfl, hb0.out⟩
set_option maxRecDepth 100000 in
theorem amtIndex_any (A : Option Addr) (c : Nat) (P : Nat → Prop) (xs : List Amt) (w : World) (hr : Row kAmt P w A xs) (hn : xs.length ≤ 9223372036854775807) :
    Calls Try.prog 17 #[.slice A xs.length c, .func (.func 12) #[] #[]] w fun e w' => e = .returned (.int .i64 (idxFn negA xs)) ∧ Below w.heap.size w w' := by
  go_enter Try.func17, Try.ntmps17
  go_wp2
  go_loopw [8] (fun i wr => ∃ k : Nat, i = .int .i64 k ∧ k ≤ xs.length ∧ Below w.heap.size w wr ∧ ∀ x ∈ xs.take k, negA x = false) (fun i _ => xs.length - (intOf i).toNat)
  case atStart => exact ⟨0, rfl, Nat.zero_le _, Below.refl _ _, by simp⟩
  case round =>
    obtain ⟨k, rfl, hk, hbr, hall⟩ := hrel
    by_cases hlt : k < xs.length
    · obtain ⟨a, rfl, _, ⟨e0, e1⟩⟩ := amt_at (hr.below hbr) k hlt
      have hsn : ∀ (b : Bool), negA xs[k] = b → (b = false → ∀ x ∈ xs.take (k + 1), negA x = false) ∧ (b = true → idxFn negA xs = k) := by
        rintro b rfl
        refine ⟨fun h x hx => ?_, fun h => idxFn_some hlt hall h⟩
        rw [List.take_succ_eq_append_getElem hlt] at hx
        rcases List.mem_append.1 hx with hx | hx
        · exact hall x hx
        · rw [List.mem_singleton.1 hx]; exact h
      have HS := Lib.hid hsn
      have HC := Lib.hid (uses1_any xs[k] wr)
      clear hsn hall
      cases hv : negA xs[k]
      · have HV := Lib.hid hv
        clear hv
        go_wp2_with (go_at_call 12; refine HC.out.mono ?_; rintro e w2 ⟨rfl, hb2⟩; rw [HV.out])
        go_roundw
        case rel => exact ⟨k + 1, by go_num, hlt, hbr.trans (hb2.mono hbr.size), (HS.out _ HV.out).1 rfl⟩
        case measure => simp [intOf]; omega
      · have HV := Lib.hid hv
        clear hv
        go_wp2_with (go_at_call 12; refine HC.out.mono ?_; rintro e w2 ⟨rfl, hb2⟩; rw [HV.out])
        go_ret
        exact ⟨by rw [(HS.out _ HV.out).2 rfl]; rfl, hbr.trans (hb2.mono hbr.size)⟩
    · have HI := Lib.hid (idxFn_none (p := negA) (xs := xs) (by rw [List.take_of_length_le (by omega)] at hall; exact hall))
      clear hall
      go_wp2
      go_ret
      exact ⟨by rw [HI.out]; rfl, hbr⟩
theorem amtContains_any (A : Option Addr) (c : Nat) (P : Nat → Prop) (xs : List Amt) (w : World) (hr : Row kAmt P w A xs) (hn : xs.length ≤ 9223372036854775807) :
    Calls Try.prog 11 #[.slice A xs.length c, .func (.func 12) #[] #[]] w fun e w' => e = .returned (.bool (xs.any negA)) ∧ Below w.heap.size w w' := by
  have HI := Lib.hid (idxFn_any negA xs)
  obtain ⟨n, hn2⟩ : ∃ n, idxFn negA xs = n := ⟨_, rfl⟩
  have HC := Lib.hid (amtIndex_any A c P xs w hr hn)
  rw [hn2] at HC HI
  clear hn2
  go_enter Try.func11, Try.ntmps11
  go_wp2_with (go_at_call 17; refine HC.out.mono ?_; rintro e w2 ⟨rfl, hb2⟩)
  go_ret
  exact ⟨by rw [← HI.out]; rfl, hb2⟩
end Go.Proofs.Ytdchffghgajbfaa
