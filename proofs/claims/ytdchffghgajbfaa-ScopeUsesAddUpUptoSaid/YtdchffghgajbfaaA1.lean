/- label.plain, label.Name. -/
import Derived.Test.YtdchffghgajbfaaProg
import Derived.Test.YtdchffghgajbfaaA0
import Derived.WalkKit
import Derived.WalkSpells
import Derived.WalkLawsBesides
import Derived.Deep.LoopGhost
import Derived.Lib.OthersKept
import Derived.BigQuiet
import Derived.Lib.Hide
import Derived.Deep.QuietTactic
namespace Go.Proofs.Ytdchffghgajbfaa
open Go.RowKit

theorem iterPos_of {w : World} {k : Nat} {s : ByteArray} {p : Nat} (h : w.heap[k]? = some (.stringIter s p)) : w.iterPos k = p := by simp [World.iterPos, h]
theorem below_drewN {B : Nat} {a w : World} (h : Below B a w) (n : Nat) : Below B a (w.drewN n) := h.trans ⟨rfl, rfl, rfl, Nat.le_refl _, fun _ _ => rfl⟩

def PrefOk (s : ByteArray) (pos : Nat) : Prop := ∀ i (h : i < s.size), i < pos → okB s[i] = true

theorem PrefOk.next {s : ByteArray} {pos : Nat} (h : PrefOk s pos) (hp : pos < s.size) (hb : okB s[pos] = true) : PrefOk s (pos + 1) := fun i hi hlt => by
  by_cases e : i = pos
  · subst e; exact hb
  · exact h i hi (by omega)

theorem all_of_pref {s : ByteArray} {pos : Nat} (h : PrefOk s pos) (hp : s.size ≤ pos) : s.data.toList.all okB = true := by
  rw [List.all_eq_true]
  intro x hx
  obtain ⟨i, hi, rfl⟩ := List.getElem_of_mem hx
  exact h i (by simpa using hi) (by have : i < s.size := (by simpa using hi); omega)
theorem all_false {s : ByteArray} {pos : Nat} (hp : pos < s.size) (hb : okB s[pos] = false) : s.data.toList.all okB = false := by
  rw [Bool.eq_false_iff]
  intro h
  rw [List.all_eq_true] at h
  have := h (s[pos]) (by exact Array.mem_toList_iff.2 (Array.getElem_mem _))
  rw [hb] at this; cases this

def At (s : ByteArray) (i : Nat) (c : Int) : Prop := ∃ h : i < s.size, ((s[i]'h).toNat : Int) = c

def nameB (s : ByteArray) : Bool := nameL s.data.toList

theorem getElem_head (s : ByteArray) (h : 0 < s.size) : s.data.toList.head? = some s[0] := by
  have : s.data.toList[0]? = some s[0] := by rw [List.getElem?_eq_getElem (by simpa using h)]; rfl
  rw [← this, List.head?_eq_getElem?]
theorem getElem_last (s : ByteArray) (h : 0 < s.size) : s.data.toList.getLast? = some (s[s.size - 1]'(by omega)) := by
  have hl : s.data.toList.length = s.size := by rw [Array.length_toList]; rfl
  rw [List.getLast?_eq_getElem?, hl, List.getElem?_eq_getElem (by omega)]; rfl
theorem data_len (s : ByteArray) : s.data.toList.length = s.size := by rw [Array.length_toList]; rfl

theorem u8_ne {b : UInt8} {n : Nat} (h : (b.toNat : Int) ≠ n) : b ≠ UInt8.ofNat n ∨ 256 ≤ n := by
  by_cases hn : n < 256
  · left; rintro rfl; apply h; simp; omega
  · right; omega

end Go.Proofs.Ytdchffghgajbfaa
