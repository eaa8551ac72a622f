/- value: of a name, 0 where it isn't there: the walk. -/
import Derived.Test.YtdchffghgajbfaaY1
namespace Go.Proofs.Ytdchffghgajbfaa
open Go.RowKit

def valA (s : ByteArray) (xs : List Amt) : Int := ((xs.find? fun x => x.name.toList == s.toList).map Amt.val).getD 0
theorem valA_at {s : ByteArray} {xs : List Amt} {k : Nat} (hk : k < xs.length) (h : ∀ x ∈ xs.take k, (x.name.toList == s.toList) = false) (hv : (xs[k].name.toList == s.toList) = true) : valA s xs = xs[k].val := by
  have h2 : (xs.find? fun x => x.name.toList == s.toList) = some xs[k] := by
    obtain ⟨y, hy⟩ : ∃ y, xs[k] = y := ⟨_, rfl⟩
    have h1 : xs = xs.take k ++ y :: xs.drop (k + 1) := by rw [← hy, ← List.drop_eq_getElem_cons hk, List.take_append_drop]
    rw [hy] at hv ⊢
    rw [h1, List.find?_append, List.find?_eq_none.2 (fun x hx => by simp [h x hx]), show (List.find? (fun x : Amt => x.name.toList == s.toList) (y :: List.drop (k + 1) xs)) = some y from List.find?_cons_of_pos (p := fun x : Amt => x.name.toList == s.toList) hv]
    rfl
  unfold valA
  rw [h2]; rfl
theorem valA_none {s : ByteArray} {xs : List Amt} (h : ∀ x ∈ xs, (x.name.toList == s.toList) = false) : valA s xs = 0 := by
  unfold valA
  rw [List.find?_eq_none.2 (fun x hx => by simp [h x hx])]; rfl
theorem valA_amt (s : ByteArray) : ∀ S : List (Key × Int), valA s (S.map amtOf) = getK s.data.toList S
  | [] => rfl
  | p :: S => by
    rw [getK_cons, ← valA_amt s S]
    unfold valA
    rw [List.map_cons]
    by_cases h : s.data.toList = p.1
    · rw [if_pos h, List.find?_cons_of_pos (by simp [amtOf, toList_eq, h])]; rfl
    · rw [if_neg h, List.find?_cons_of_neg (by simpa [amtOf, toList_eq] using fun e => h e.symm)]
set_option maxRecDepth 100000 in
theorem value_any (A : Option Addr) (n c : Nat) (P : Nat → Prop) (xs : List Amt) (s : ByteArray) (w : World) (hx : Row kAmt P w A xs) (hn : xs.length = n) (hlx : n ≤ 9223372036854775807) :
    Calls Try.prog 8 #[.slice A n c, .string s] w fun e w' => e = .returned (.int .i64 (valA s xs)) ∧ Below w.heap.size w w' := by
  subst hn
  go_enter Try.func8, Try.ntmps8
  go_wp2
  go_loopw [5] (fun i wr => ∃ k : Nat, i = .int .i64 k ∧ k ≤ xs.length ∧ Hid (∀ x ∈ xs.take k, (x.name.toList == s.toList) = false) ∧ Below w.heap.size w wr) (fun i _ => xs.length - (intOf i).toNat)
  case atStart => exact ⟨0, rfl, Nat.zero_le _, fun x hx => by simp at hx, Below.refl _ _⟩
  case round =>
    obtain ⟨k, rfl, hk, hall, hbr⟩ := hrel
    by_cases hlt : k < xs.length
    · obtain ⟨a, rfl, -, l0, l1⟩ := amt_at (hx.below hbr) k hlt
      have hsn : ∀ (b : Bool), (xs[k].name.toList == s.toList) = b → (b = false → ∀ x ∈ xs.take (k + 1), (x.name.toList == s.toList) = false) ∧ (b = true → valA s xs = xs[k].val) := by
        rintro b rfl
        refine ⟨fun h x hx => ?_, fun h => valA_at hlt hall.out h⟩
        rw [List.take_succ_eq_append_getElem hlt] at hx
        rcases List.mem_append.1 hx with hx | hx
        · exact hall.out x hx
        · rw [List.mem_singleton.1 hx]; exact h
      have HS := Lib.hid hsn
      clear hsn hall
      cases hv : (xs[k].name.toList == s.toList)
      · have HF := Lib.hid ((HS.out _ hv).1 rfl)
        go_wp2
        go_roundw
        case rel => exact ⟨k + 1, by go_num, hlt, HF.out, hbr⟩
        case measure => simp [intOf]; omega
      · have HF := Lib.hid ((HS.out _ hv).2 rfl)
        go_wp2
        go_ret
        exact ⟨by rw [HF.out]; rfl, hbr⟩
    · have HI := Lib.hid (valA_none (s := s) (xs := xs) (by have := hall.out; rw [List.take_of_length_le (by omega)] at this; exact this))
      clear hall
      go_wp2
      go_ret
      exact ⟨by rw [HI.out]; rfl, hbr⟩
end Go.Proofs.Ytdchffghgajbfaa
