/- A row of bools of the call's own. -/
import Derived.Test.YtalkdddeiebfmaaGreatDoorJ30
namespace Go.Proofs.YtalkdddeiebfmaaGreatDoor
open Go.RowKit

def boolCells (b : Bool) : List Value := [.bool b]
def kBool : Kn Bool := Kn.enc boolCells 1 (by omega) (fun _ => rfl) (fun x u hu => by rw [List.mem_singleton.1 hu]; rfl)
theorem bool_at {P : Nat → Prop} {w : World} {A : Option Addr} {xs : List Bool} (h : Row kBool P w A xs) (i : Nat) (hi : i < xs.length) : ∃ a, A = some a ∧ P a.block ∧ w.cell? (a.add i) = some (.bool xs[i]) := by
  obtain ⟨a, cs, hA, hP, hr, hc⟩ := h.at_ i hi
  obtain rfl : cs = boolCells xs[i] := hr
  have := hc 0 _ rfl
  have e : i * kBool.sz = i := Nat.mul_one i
  rw [e] at this
  exact ⟨a, hA, hP, this⟩
theorem flat_bools (P : Nat → Prop) (w : World) (xs : List Bool) : Flat kBool P w xs (xs.map Value.bool) := by
  refine ⟨by simp [kBool, Kn.enc], fun i hi => ?_⟩
  show ((xs.map Value.bool).drop (i * 1)).take 1 = [Value.bool xs[i]]
  rw [Nat.mul_one, List.drop_eq_getElem_cons (by simpa using hi)]
  simp
/-- what 'seen' has: the places that came -/
def seenL (n : Nat) (ks : List Nat) : List Bool := (List.range n).map fun k => decide (k ∈ ks)
theorem seenL_len (n : Nat) (ks : List Nat) : (seenL n ks).length = n := by simp [seenL]
theorem seenL_get {n : Nat} {ks : List Nat} {k : Nat} (hk : k < n) : (seenL n ks)[k]'(by rw [seenL_len]; exact hk) = decide (k ∈ ks) := by simp [seenL]
theorem seenL_set {n : Nat} {ks : List Nat} {k : Nat} : (seenL n ks).set k true = seenL n (ks ++ [k]) := by
  refine List.ext_getElem (by simp [seenL]) fun i h1 h2 => ?_
  rw [List.getElem_set]
  simp only [seenL, List.getElem_map, List.getElem_range, List.mem_append, List.mem_singleton]
  by_cases e : k = i
  · rw [if_pos e]; subst e; simp
  · rw [if_neg e]
    congr 1
    simp [Ne.symm e]
theorem seenL_nil (n : Nat) : seenL n [] = List.replicate n false := by
  refine List.ext_getElem (by simp [seenL]) fun i h1 h2 => by simp [seenL]
theorem made_bools (n : Nat) : (madeCells (Value.bool false).cells (n * 1)).toList = List.replicate n (.bool false) := by
  have hc : (Value.bool false).cells = #[.bool false] := rfl
  rw [hc, Nat.mul_one]
  refine List.ext_getElem (by simp [madeCells]) fun i h1 h2 => ?_
  simp [madeCells, Nat.mod_one]
theorem own_seen {base n : Nat} {w : World} {v : Value} (h : w.ownsRow base 4 1 v n (List.replicate n (.bool false))) : Own kBool 4 base (fun _ => False) w v (seenL n []) := by
  refine ⟨List.replicate n (.bool false), ?_, ?_⟩
  · rw [seenL_len]; exact h
  · have := flat_bools (fun _ => False) w (seenL n [])
    rw [seenL_nil] at this ⊢
    simpa using this
theorem own_seen_set {base g n cap m : Nat} {w : World} {ks : List Nat} (h : Own kBool 4 base (fun _ => False) w (.slice (some ⟨g, 0, none⟩) m cap) (seenL n ks)) {k : Nat} (hk : k < n) :
    Own kBool 4 base (fun _ => False) (w.setCell ⟨g, k, none⟩ (.bool true)) (.slice (some ⟨g, 0, none⟩) m cap) (seenL n (ks ++ [k])) := by
  have := Own.setEnc (f := boolCells) (n := 1) h k (by rw [seenL_len]; exact hk) 0 (by omega) (.bool true) true rfl
  rw [seenL_set, Nat.mul_one, Nat.add_zero] at this
  exact this
end Go.Proofs.YtalkdddeiebfmaaGreatDoor
