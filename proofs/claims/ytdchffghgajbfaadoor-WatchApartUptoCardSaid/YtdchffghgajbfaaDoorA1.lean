/- label.plain, label.Name. -/
import Derived.Test.YtdchffghgajbfaaDoorProg
import Derived.Test.YtdchffghgajbfaaDoorA0
import Derived.WalkKit
import Derived.WalkSpells
import Derived.WalkLawsBesides
import Derived.Deep.LoopGhost
import Derived.Lib.OthersKept
import Derived.BigQuiet
import Derived.Lib.Hide
import Derived.Deep.QuietTactic
namespace Go.Proofs.YtdchffghgajbfaaDoor
open Go.RowKit

theorem plain_any (c : Int) (w : World) : Calls Tryd.prog 107 #[.int .i32 c] w fun e w' => e = .returned (.bool (plainC c)) ∧ w = w' := by
  by_cases h1 : 97 ≤ c <;> by_cases h2 : c ≤ 122 <;> by_cases h3 : 48 ≤ c <;> by_cases h4 : c ≤ 57
  all_goals
    go_enter Tryd.func107, Tryd.ntmps107
    go_wp2
    go_ret
    exact ⟨by simp [plainC, *], rfl⟩

theorem iterPos_of {w : World} {k : Nat} {s : ByteArray} {p : Nat} (h : w.heap[k]? = some (.stringIter s p)) : w.iterPos k = p := by simp [World.iterPos, h]
theorem below_drewN {B : Nat} {a w : World} (h : Below B a w) (n : Nat) : Below B a (w.drewN n) := h.trans ⟨rfl, rfl, rfl, Nat.le_refl _, fun _ _ => rfl⟩

def PrefOk (s : ByteArray) (pos : Nat) : Prop := ∀ i (h : i < s.size), i < pos → okB s[i] = true

theorem PrefOk.next {s : ByteArray} {pos : Nat} (h : PrefOk s pos) (hp : pos < s.size) (hb : okB s[pos] = true) : PrefOk s (pos + 1) := fun i hi hlt => by
  by_cases e : i = pos
  · subst e; exact hb
  · exact h i hi (by omega)

theorem all_of_pref {s : ByteArray} {pos : Nat} (h : PrefOk s pos) (hp : s.size ≤ pos) : s.data.toList.all okB = true := by
  rw [List.all_eq_true]
  intro x hx
  obtain ⟨i, hi, rfl⟩ := List.getElem_of_mem hx
  exact h i (by simpa using hi) (by have : i < s.size := (by simpa using hi); omega)
theorem all_false {s : ByteArray} {pos : Nat} (hp : pos < s.size) (hb : okB s[pos] = false) : s.data.toList.all okB = false := by
  rw [Bool.eq_false_iff]
  intro h
  rw [List.all_eq_true] at h
  have := h (s[pos]) (by exact Array.mem_toList_iff.2 (Array.getElem_mem _))
  rw [hb] at this; cases this

def At (s : ByteArray) (i : Nat) (c : Int) : Prop := ∃ h : i < s.size, ((s[i]'h).toNat : Int) = c

set_option maxRecDepth 100000 in
theorem name_loop (s : ByteArray) (w : World) (h1 : 1 ≤ s.size) (h2 : s.size ≤ 32) (h3 : ((s[0]'(by omega)).toNat : Int) ≠ 45) (h4 : ((s[s.size - 1]'(by omega)).toNat : Int) ≠ 45) :
    Calls Tryd.prog 85 #[.string s] w fun e w' => e = .returned (.bool (s.data.toList.all okB)) ∧ Below w.heap.size w w' := by
  have e1 : decide ((s.size : Int) < 1) = false := by simp; omega
  have e2 : decide ((s.size : Int) > 32) = false := by simp; omega
  have e3 : (((s[0]'(by omega)).toNat : Int) == 45) = false := by simpa using h3
  have e4 : (((s[s.size - 1]'(by omega)).toNat : Int) == 45) = false := by simpa using h4
  clear h3 h4
  go_enter Tryd.func85, Tryd.ntmps85
  go_wp2
  clear e1 e2 e3 e4
  go_loopw [4] (fun v wr => ∃ (pos : Nat), wr.heap[w.heap.size]? = some (.stringIter s pos) ∧ Below w.heap.size w wr ∧ PrefOk s pos) (fun _ wr => s.size - wr.iterPos w.heap.size)
  case atStart => exact ⟨0, World.iter_heap w s 0, (Below.refl _ _).alloc (Nat.le_refl _) _, fun i _ h => absurd h (by omega)⟩
  case round =>
    obtain ⟨pos, hit, hbw, hpf⟩ := hrel
    have hpos0 := iterPos_of hit
    by_cases hp : pos < s.size
    · by_cases hok : okB s[pos] = true
      · have ha : (s[pos]'hp).toNat < 128 := by
          by_cases hh : (s[pos]'hp).toNat < 128
          · exact hh
          · have := plainC_high ((s[pos]'hp).toNat : Int) (by omega)
            unfold okB at hok; rw [this] at hok; cases hok
        have hnx : ∀ ty, (Instr.next (.pointer (some ⟨w.heap.size, 0, none⟩)) true ty).run Tryd.prog wr = _ := fun ty => Lib.run_next_ascii_at wr w.heap.size s pos ty hit hp ha
        have hit2 := Lib.iterAt_heap wr w.heap.size s pos (pos + 1) hit
        have hbw2 := Lib.below_iterAt hbw (k := w.heap.size) (Nat.le_refl _) s (pos + 1)
        have hpf2 := hpf.next hp hok
        unfold okB okC at hok
        obtain ⟨W1, hW1⟩ : ∃ W1, W1 = wr.iterAt w.heap.size s (pos + 1) := ⟨_, rfl⟩
        rw [← hW1] at hnx hit2 hbw2
        clear hW1 hit hbw hpf ha
        rcases Bool.or_eq_true _ _ ▸ hok with hq | hq
        · clear hok
          go_wp2_with (go_at_call 107; refine (plain_any _ _).mono ?_; rintro e w' ⟨rfl, rfl⟩)
          go_roundw
          case rel => exact ⟨pos + 1, hit2, hbw2, hpf2⟩
          case measure => rw [iterPos_of hit2, hpos0]; omega
        · have hq' : (((s[pos]'hp).toNat : Int) != 45) = false := by simp [bne, hq]
          clear hok
          cases hc : plainC ((s[pos]'hp).toNat : Int)
          all_goals
            go_wp2_with (go_at_call 107; refine (plain_any _ _).mono ?_; rintro e w' ⟨rfl, rfl⟩)
            go_roundw
            case rel => exact ⟨pos + 1, hit2, hbw2, hpf2⟩
            case measure => rw [iterPos_of hit2, hpos0]; omega
      · have hall := Lib.hid (all_false hp (by simpa using hok))
        have hnx : ∀ ty, (Instr.next (.pointer (some ⟨w.heap.size, 0, none⟩)) true ty).run Tryd.prog wr = _ := fun ty => Lib.run_next_any_at wr w.heap.size s pos ty hit hp
        have hc : okC ((Utf8.decode s pos).1 : Int) = false := by
          by_cases ha : (s[pos]'hp).toNat < 128
          · rw [decode_ascii s pos hp ha]; simpa [okB] using hok
          · exact plainC_high _ (by have := (decode_high s pos hp (by omega)).1; omega)
        have hbw2 := Lib.below_iterAt hbw (k := w.heap.size) (Nat.le_refl _) s (pos + (Utf8.decode s pos).2)
        obtain ⟨W1, hW1⟩ : ∃ W1, W1 = wr.iterAt w.heap.size s (pos + (Utf8.decode s pos).2) := ⟨_, rfl⟩
        rw [← hW1] at hnx hbw2
        clear hW1 hit hbw hpf hok
        generalize (Utf8.decode s pos).1 = c at hnx hc
        unfold okC at hc
        have hc1 : plainC (c : Int) = false := (Bool.or_eq_false_iff.1 hc).1
        have hc2 : ((c : Int) != 45) = true := by have := (Bool.or_eq_false_iff.1 hc).2; simp [bne, this]
        clear hc
        go_wp2_with (go_at_call 107; refine (plain_any _ _).mono ?_; rintro e w' ⟨rfl, rfl⟩)
        go_ret
        exact ⟨by rw [hall.out]; rfl, hbw2⟩
    · have hnx : ∀ ty, (Instr.next (.pointer (some ⟨w.heap.size, 0, none⟩)) true ty).run Tryd.prog wr = _ := fun ty => Lib.run_next_end_at wr w.heap.size s pos ty hit hp
      have hall := Lib.hid (all_of_pref hpf (by omega))
      clear hpf
      go_wp2
      go_ret
      exact ⟨by rw [hall.out]; rfl, hbw⟩

def nameB (s : ByteArray) : Bool := nameL s.data.toList

theorem getElem_head (s : ByteArray) (h : 0 < s.size) : s.data.toList.head? = some s[0] := by
  have : s.data.toList[0]? = some s[0] := by rw [List.getElem?_eq_getElem (by simpa using h)]; rfl
  rw [← this, List.head?_eq_getElem?]
theorem getElem_last (s : ByteArray) (h : 0 < s.size) : s.data.toList.getLast? = some (s[s.size - 1]'(by omega)) := by
  have hl : s.data.toList.length = s.size := by rw [Array.length_toList]; rfl
  rw [List.getLast?_eq_getElem?, hl, List.getElem?_eq_getElem (by omega)]; rfl
theorem data_len (s : ByteArray) : s.data.toList.length = s.size := by rw [Array.length_toList]; rfl

theorem u8_ne {b : UInt8} {n : Nat} (h : (b.toNat : Int) ≠ n) : b ≠ UInt8.ofNat n ∨ 256 ≤ n := by
  by_cases hn : n < 256
  · left; rintro rfl; apply h; simp; omega
  · right; omega

set_option maxRecDepth 100000 in
theorem name_any (s : ByteArray) (w : World) : Calls Tryd.prog 85 #[.string s] w fun e w' => e = .returned (.bool (nameB s)) ∧ Below w.heap.size w w' := by
  by_cases h1 : 1 ≤ s.size
  · by_cases h2 : s.size ≤ 32
    · have g1 := getElem_head s (by omega)
      have g2 := getElem_last s (by omega)
      by_cases h3 : ((s[0]'(by omega)).toNat : Int) = 45
      · have hb := Lib.hid (show nameB s = false by
          have : (s[0]'(by omega)) = 45 := UInt8.toNat_inj.1 (by simp; omega)
          unfold nameB nameL; rw [g1, this]; simp)
        have e1 : decide ((s.size : Int) < 1) = false := by simp; omega
        have e2 : decide ((s.size : Int) > 32) = false := by simp; omega
        have e3 : (((s[0]'(by omega)).toNat : Int) == 45) = true := by simpa using h3
        clear h3 g1 g2
        go_enter Tryd.func85, Tryd.ntmps85
        go_wp2
        go_ret
        exact ⟨by rw [hb.out]; rfl, Below.refl _ _⟩
      · by_cases h4 : ((s[s.size - 1]'(by omega)).toNat : Int) = 45
        · have hb := Lib.hid (show nameB s = false by
            have : (s[s.size - 1]'(by omega)) = 45 := UInt8.toNat_inj.1 (by simp; omega)
            unfold nameB nameL; rw [g2, this]; simp)
          have e1 : decide ((s.size : Int) < 1) = false := by simp; omega
          have e2 : decide ((s.size : Int) > 32) = false := by simp; omega
          have e3 : (((s[0]'(by omega)).toNat : Int) == 45) = false := by simpa using h3
          have e4 : (((s[s.size - 1]'(by omega)).toNat : Int) == 45) = true := by simpa using h4
          clear h3 h4 g1 g2
          go_enter Tryd.func85, Tryd.ntmps85
          go_wp2
          go_ret
          exact ⟨by rw [hb.out]; rfl, Below.refl _ _⟩
        · have hb : nameB s = s.data.toList.all okB := by
            have n3 : (s[0]'(by omega)) ≠ 45 := fun e => h3 (by rw [e]; rfl)
            have n4 : (s[s.size - 1]'(by omega)) ≠ 45 := fun e => h4 (by rw [e]; rfl)
            unfold nameB nameL; rw [g1, g2, data_len]; simp [n3, n4, h1, h2]
          rw [hb]
          exact name_loop s w h1 h2 h3 h4
    · have hb := Lib.hid (show nameB s = false by unfold nameB nameL; rw [data_len]; simp [h2])
      have e1 : decide ((s.size : Int) < 1) = false := by simp; omega
      have e2 : decide ((s.size : Int) > 32) = true := by simp; omega
      go_enter Tryd.func85, Tryd.ntmps85
      go_wp2
      go_ret
      exact ⟨by rw [hb.out]; rfl, Below.refl _ _⟩
  · have hb := Lib.hid (show nameB s = false by unfold nameB nameL; rw [data_len]; simp [h1])
    have e1 : decide ((s.size : Int) < 1) = true := by simp; omega
    go_enter Tryd.func85, Tryd.ntmps85
    go_wp2
    go_ret
    exact ⟨by rw [hb.out]; rfl, Below.refl _ _⟩
end Go.Proofs.YtdchffghgajbfaaDoor
