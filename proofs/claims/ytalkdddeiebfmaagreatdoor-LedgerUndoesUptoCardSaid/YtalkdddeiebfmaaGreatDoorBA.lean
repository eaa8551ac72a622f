/- Laid together: A0 A1 P0 K K2 K3 Q K4. -/
import Derived.Laws.RangeAny
import Derived.Test.YtalkdddeiebfmaaGreatDoorProg
import Derived.WalkKit
import Derived.WalkSpells
import Derived.WalkLawsBesides
import Derived.Deep.LoopGhost
import Derived.Lib.OthersKept
import Derived.BigQuiet
import Derived.Lib.Hide
import Derived.Deep.QuietTactic
import Derived.Lib.Split
import Derived.Below
import Derived.Laws.OwnMore
import Derived.Deep.AppendLies
import Derived.Deep.Draws
import Derived.Maps.AppendAt
import Derived.RegionTactic
import Derived.OwnWalk
import Derived.Laws.Rows
import Derived.Lib.SliceRun
import Derived.Laws.Slices
import Derived.ArgAppend
/- Plain facts about names and their bytes. -/
namespace Go.Proofs.YtalkdddeiebfmaaGreatDoor

def plainC (c : Int) : Bool := (decide (97 ≤ c) && decide (c ≤ 122)) || (decide (48 ≤ c) && decide (c ≤ 57))
def okC (c : Int) : Bool := plainC c || c == 45
def okB (b : UInt8) : Bool := okC (b.toNat : Int)
/-- 'label.Name' in plain words. -/
def nameL (l : List UInt8) : Bool := decide (1 ≤ l.length) && decide (l.length ≤ 32) && !(l.head? == some 45) && !(l.getLast? == some 45) && l.all okB
theorem plainC_high (c : Int) (h : 128 ≤ c) : okC c = false := by
  unfold okC plainC
  simp only [Bool.or_eq_false_iff, Bool.and_eq_false_iff, decide_eq_false_iff_not, beq_eq_false_iff_ne]
  omega
end Go.Proofs.YtalkdddeiebfmaaGreatDoor
/- label.plain, label.Name. -/
namespace Go.Proofs.YtalkdddeiebfmaaGreatDoor
open Go.RowKit

theorem plain_any (c : Int) (w : World) : Calls Tryz.prog 140 #[.int .i32 c] w fun e w' => e = .returned (.bool (plainC c)) ∧ w = w' := by
  by_cases h1 : 97 ≤ c <;> by_cases h2 : c ≤ 122 <;> by_cases h3 : 48 ≤ c <;> by_cases h4 : c ≤ 57
  all_goals
    go_enter Tryz.func140, Tryz.ntmps140
    go_wp2
    go_ret
    exact ⟨by simp [plainC, *], rfl⟩

theorem iterPos_of {w : World} {k : Nat} {s : ByteArray} {p : Nat} (h : w.heap[k]? = some (.stringIter s p)) : w.iterPos k = p := by simp [World.iterPos, h]
theorem below_drewN {B : Nat} {a w : World} (h : Below B a w) (n : Nat) : Below B a (w.drewN n) := h.trans ⟨rfl, rfl, rfl, Nat.le_refl _, fun _ _ => rfl⟩

def PrefOk (s : ByteArray) (pos : Nat) : Prop := ∀ i (h : i < s.size), i < pos → okB s[i] = true

theorem PrefOk.next {s : ByteArray} {pos : Nat} (h : PrefOk s pos) (hp : pos < s.size) (hb : okB s[pos] = true) : PrefOk s (pos + 1) := fun i hi hlt => by
  by_cases e : i = pos
  · subst e; exact hb
  · exact h i hi (by omega)

theorem all_of_pref {s : ByteArray} {pos : Nat} (h : PrefOk s pos) (hp : s.size ≤ pos) : s.data.toList.all okB = true := by
  rw [List.all_eq_true]
  intro x hx
  obtain ⟨i, hi, rfl⟩ := List.getElem_of_mem hx
  exact h i (by simpa using hi) (by have : i < s.size := (by simpa using hi); omega)
theorem all_false {s : ByteArray} {pos : Nat} (hp : pos < s.size) (hb : okB s[pos] = false) : s.data.toList.all okB = false := by
  rw [Bool.eq_false_iff]
  intro h
  rw [List.all_eq_true] at h
  have := h (s[pos]) (by exact Array.mem_toList_iff.2 (Array.getElem_mem _))
  rw [hb] at this; cases this

def At (s : ByteArray) (i : Nat) (c : Int) : Prop := ∃ h : i < s.size, ((s[i]'h).toNat : Int) = c

set_option maxRecDepth 100000 in
theorem name_loop (s : ByteArray) (w : World) (h1 : 1 ≤ s.size) (h2 : s.size ≤ 32) (h3 : ((s[0]'(by omega)).toNat : Int) ≠ 45) (h4 : ((s[s.size - 1]'(by omega)).toNat : Int) ≠ 45) :
    Calls Tryz.prog 110 #[.string s] w fun e w' => e = .returned (.bool (s.data.toList.all okB)) ∧ Below w.heap.size w w' := by
  have e1 : decide ((s.size : Int) < 1) = false := by simp; omega
  have e2 : decide ((s.size : Int) > 32) = false := by simp; omega
  have e3 : (((s[0]'(by omega)).toNat : Int) == 45) = false := by simpa using h3
  have e4 : (((s[s.size - 1]'(by omega)).toNat : Int) == 45) = false := by simpa using h4
  clear h3 h4
  go_enter Tryz.func110, Tryz.ntmps110
  go_wp2
  clear e1 e2 e3 e4
  go_loopw [4] (fun v wr => ∃ (pos : Nat), wr.heap[w.heap.size]? = some (.stringIter s pos) ∧ Below w.heap.size w wr ∧ PrefOk s pos) (fun _ wr => s.size - wr.iterPos w.heap.size)
  case atStart => exact ⟨0, World.iter_heap w s 0, (Below.refl _ _).alloc (Nat.le_refl _) _, fun i _ h => absurd h (by omega)⟩
  case round =>
    obtain ⟨pos, hit, hbw, hpf⟩ := hrel
    have hpos0 := iterPos_of hit
    by_cases hp : pos < s.size
    · by_cases hok : okB s[pos] = true
      · have ha : (s[pos]'hp).toNat < 128 := by
          by_cases hh : (s[pos]'hp).toNat < 128
          · exact hh
          · have := plainC_high ((s[pos]'hp).toNat : Int) (by omega)
            unfold okB at hok; rw [this] at hok; cases hok
        have hnx : ∀ ty, (Instr.next (.pointer (some ⟨w.heap.size, 0, none⟩)) true ty).run Tryz.prog wr = _ := fun ty => Lib.run_next_ascii_at wr w.heap.size s pos ty hit hp ha
        have hit2 := Lib.iterAt_heap wr w.heap.size s pos (pos + 1) hit
        have hbw2 := Lib.below_iterAt hbw (k := w.heap.size) (Nat.le_refl _) s (pos + 1)
        have hpf2 := hpf.next hp hok
        unfold okB okC at hok
        obtain ⟨W1, hW1⟩ : ∃ W1, W1 = wr.iterAt w.heap.size s (pos + 1) := ⟨_, rfl⟩
        rw [← hW1] at hnx hit2 hbw2
        clear hW1 hit hbw hpf ha
        rcases Bool.or_eq_true _ _ ▸ hok with hq | hq
        · clear hok
          go_wp2_with (go_at_call 140; refine (plain_any _ _).mono ?_; rintro e w' ⟨rfl, rfl⟩)
          go_roundw
          case rel => exact ⟨pos + 1, hit2, hbw2, hpf2⟩
          case measure => rw [iterPos_of hit2, hpos0]; omega
        · have hq' : (((s[pos]'hp).toNat : Int) != 45) = false := by simp [bne, hq]
          clear hok
          cases hc : plainC ((s[pos]'hp).toNat : Int)
          all_goals
            go_wp2_with (go_at_call 140; refine (plain_any _ _).mono ?_; rintro e w' ⟨rfl, rfl⟩)
            go_roundw
            case rel => exact ⟨pos + 1, hit2, hbw2, hpf2⟩
            case measure => rw [iterPos_of hit2, hpos0]; omega
      · have hall := Lib.hid (all_false hp (by simpa using hok))
        have hnx : ∀ ty, (Instr.next (.pointer (some ⟨w.heap.size, 0, none⟩)) true ty).run Tryz.prog wr = _ := fun ty => Lib.run_next_any_at wr w.heap.size s pos ty hit hp
        have hc : okC ((Utf8.decode s pos).1 : Int) = false := by
          by_cases ha : (s[pos]'hp).toNat < 128
          · rw [decode_ascii s pos hp ha]; simpa [okB] using hok
          · exact plainC_high _ (by have := (decode_high s pos hp (by omega)).1; omega)
        have hbw2 := Lib.below_iterAt hbw (k := w.heap.size) (Nat.le_refl _) s (pos + (Utf8.decode s pos).2)
        obtain ⟨W1, hW1⟩ : ∃ W1, W1 = wr.iterAt w.heap.size s (pos + (Utf8.decode s pos).2) := ⟨_, rfl⟩
        rw [← hW1] at hnx hbw2
        clear hW1 hit hbw hpf hok
        generalize (Utf8.decode s pos).1 = c at hnx hc
        unfold okC at hc
        have hc1 : plainC (c : Int) = false := (Bool.or_eq_false_iff.1 hc).1
        have hc2 : ((c : Int) != 45) = true := by have := (Bool.or_eq_false_iff.1 hc).2; simp [bne, this]
        clear hc
        go_wp2_with (go_at_call 140; refine (plain_any _ _).mono ?_; rintro e w' ⟨rfl, rfl⟩)
        go_ret
        exact ⟨by rw [hall.out]; rfl, hbw2⟩
    · have hnx : ∀ ty, (Instr.next (.pointer (some ⟨w.heap.size, 0, none⟩)) true ty).run Tryz.prog wr = _ := fun ty => Lib.run_next_end_at wr w.heap.size s pos ty hit hp
      have hall := Lib.hid (all_of_pref hpf (by omega))
      clear hpf
      go_wp2
      go_ret
      exact ⟨by rw [hall.out]; rfl, hbw⟩

def nameB (s : ByteArray) : Bool := nameL s.data.toList

theorem getElem_head (s : ByteArray) (h : 0 < s.size) : s.data.toList.head? = some s[0] := by
  have : s.data.toList[0]? = some s[0] := by rw [List.getElem?_eq_getElem (by simpa using h)]; rfl
  rw [← this, List.head?_eq_getElem?]
theorem getElem_last (s : ByteArray) (h : 0 < s.size) : s.data.toList.getLast? = some (s[s.size - 1]'(by omega)) := by
  have hl : s.data.toList.length = s.size := by rw [Array.length_toList]; rfl
  rw [List.getLast?_eq_getElem?, hl, List.getElem?_eq_getElem (by omega)]; rfl
theorem data_len (s : ByteArray) : s.data.toList.length = s.size := by rw [Array.length_toList]; rfl

theorem u8_ne {b : UInt8} {n : Nat} (h : (b.toNat : Int) ≠ n) : b ≠ UInt8.ofNat n ∨ 256 ≤ n := by
  by_cases hn : n < 256
  · left; rintro rfl; apply h; simp; omega
  · right; omega

set_option maxRecDepth 100000 in
theorem name_any (s : ByteArray) (w : World) : Calls Tryz.prog 110 #[.string s] w fun e w' => e = .returned (.bool (nameB s)) ∧ Below w.heap.size w w' := by
  by_cases h1 : 1 ≤ s.size
  · by_cases h2 : s.size ≤ 32
    · have g1 := getElem_head s (by omega)
      have g2 := getElem_last s (by omega)
      by_cases h3 : ((s[0]'(by omega)).toNat : Int) = 45
      · have hb := Lib.hid (show nameB s = false by
          have : (s[0]'(by omega)) = 45 := UInt8.toNat_inj.1 (by simp; omega)
          unfold nameB nameL; rw [g1, this]; simp)
        have e1 : decide ((s.size : Int) < 1) = false := by simp; omega
        have e2 : decide ((s.size : Int) > 32) = false := by simp; omega
        have e3 : (((s[0]'(by omega)).toNat : Int) == 45) = true := by simpa using h3
        clear h3 g1 g2
        go_enter Tryz.func110, Tryz.ntmps110
        go_wp2
        go_ret
        exact ⟨by rw [hb.out]; rfl, Below.refl _ _⟩
      · by_cases h4 : ((s[s.size - 1]'(by omega)).toNat : Int) = 45
        · have hb := Lib.hid (show nameB s = false by
            have : (s[s.size - 1]'(by omega)) = 45 := UInt8.toNat_inj.1 (by simp; omega)
            unfold nameB nameL; rw [g2, this]; simp)
          have e1 : decide ((s.size : Int) < 1) = false := by simp; omega
          have e2 : decide ((s.size : Int) > 32) = false := by simp; omega
          have e3 : (((s[0]'(by omega)).toNat : Int) == 45) = false := by simpa using h3
          have e4 : (((s[s.size - 1]'(by omega)).toNat : Int) == 45) = true := by simpa using h4
          clear h3 h4 g1 g2
          go_enter Tryz.func110, Tryz.ntmps110
          go_wp2
          go_ret
          exact ⟨by rw [hb.out]; rfl, Below.refl _ _⟩
        · have hb : nameB s = s.data.toList.all okB := by
            have n3 : (s[0]'(by omega)) ≠ 45 := fun e => h3 (by rw [e]; rfl)
            have n4 : (s[s.size - 1]'(by omega)) ≠ 45 := fun e => h4 (by rw [e]; rfl)
            unfold nameB nameL; rw [g1, g2, data_len]; simp [n3, n4, h1, h2]
          rw [hb]
          exact name_loop s w h1 h2 h3 h4
    · have hb := Lib.hid (show nameB s = false by unfold nameB nameL; rw [data_len]; simp [h2])
      have e1 : decide ((s.size : Int) < 1) = false := by simp; omega
      have e2 : decide ((s.size : Int) > 32) = true := by simp; omega
      go_enter Tryz.func110, Tryz.ntmps110
      go_wp2
      go_ret
      exact ⟨by rw [hb.out]; rfl, Below.refl _ _⟩
  · have hb := Lib.hid (show nameB s = false by unfold nameB nameL; rw [data_len]; simp [h1])
    have e1 : decide ((s.size : Int) < 1) = true := by simp; omega
    go_enter Tryz.func110, Tryz.ntmps110
    go_wp2
    go_ret
    exact ⟨by rw [hb.out]; rfl, Below.refl _ _⟩
end Go.Proofs.YtalkdddeiebfmaaGreatDoor
/- Plain facts about paths: how a text parts at each '/'. -/
namespace Go.Proofs.YtalkdddeiebfmaaGreatDoor

def splitC (c : UInt8) : List UInt8 → List (List UInt8)
  | [] => [[]]
  | b :: l => if b = c then [] :: splitC c l else match splitC c l with
    | [] => [[b]]
    | p :: ps => (b :: p) :: ps
theorem splitC_ne (c : UInt8) : ∀ l, splitC c l ≠ []
  | [] => by simp [splitC]
  | b :: l => by
    unfold splitC
    split
    · simp
    · split <;> simp
theorem splitC_length (c : UInt8) : ∀ l, (splitC c l).length = l.count c + 1
  | [] => rfl
  | b :: l => by
    have ih := splitC_length c l
    unfold splitC
    by_cases h : b = c
    · subst h; rw [if_pos rfl, List.length_cons, ih, List.count_cons_self]
    · rw [if_neg h, List.count_cons_of_ne h]
      have hne := splitC_ne c l
      match hs : splitC c l with
      | [] => exact absurd hs hne
      | p :: ps => rw [hs] at ih; simpa using ih

theorem index_one (c : UInt8) : ∀ l, (Lib.index l [c] = -1 ∧ c ∉ l) ∨ ∃ i : Nat, Lib.index l [c] = i ∧ i < l.length ∧ c ∉ l.take i ∧ l[i]? = some c
  | [] => .inl ⟨rfl, by simp⟩
  | b :: l => by
    unfold Lib.index
    by_cases h : c = b
    · subst h
      rw [if_pos (by simp [List.isPrefixOf])]
      exact .inr ⟨0, rfl, by simp, by simp, by simp⟩
    · rw [if_neg (by simp [List.isPrefixOf, h])]
      rcases index_one c l with ⟨h1, h2⟩ | ⟨i, h1, h2, h3, h4⟩
      · rw [h1, if_pos (by decide)]; exact .inl ⟨rfl, by simp [h, h2]⟩
      · rw [if_neg (by rw [h1]; simp), h1]
        exact .inr ⟨i + 1, by omega, by simp; omega, by simp [h, h3], by simpa using h4⟩
theorem splitC_none (c : UInt8) : ∀ l, c ∉ l → splitC c l = [l]
  | [], _ => rfl
  | b :: l, h => by
    have hb : b ≠ c := fun e => h (by simp [e])
    unfold splitC
    rw [if_neg hb, splitC_none c l (fun hh => h (List.mem_cons_of_mem _ hh))]
theorem splitC_at (c : UInt8) : ∀ (l : List UInt8) (i : Nat), l[i]? = some c → c ∉ l.take i → splitC c l = l.take i :: splitC c (l.drop (i + 1))
  | [], i, h, _ => by simp at h
  | b :: l, 0, h, _ => by
    have : b = c := by simpa using h
    subst this; simp [splitC]
  | b :: l, i + 1, h, hn => by
    have hb : b ≠ c := fun e => hn (by simp [e])
    have ih := splitC_at c l i (by simpa using h) (fun hh => hn (by simp [hh]))
    rw [splitC, if_neg hb, ih]; simp
theorem splitK_one (c : UInt8) : ∀ (k : Nat) (l : List UInt8), l.count c ≤ k → Lib.splitK [c] 0 k l = splitC c l
  | 0, l, h => by
    have : c ∉ l := by rw [← List.count_eq_zero]; omega
    rw [splitC_none c l this]; rfl
  | k + 1, l, h => by
    unfold Lib.splitK
    rcases index_one c l with ⟨h1, h2⟩ | ⟨i, h1, h2, h3, h4⟩
    · rw [h1, if_pos (by decide), splitC_none c l h2]
    · rw [if_neg (by rw [h1]; simp), h1, splitC_at c l i h4 h3]
      have e : ((i : Int)).toNat = i := by omega
      rw [e]
      simp only [Nat.add_zero, List.length_singleton]
      rw [splitK_one c k]
      have e2 : l = l.take i ++ c :: l.drop (i + 1) := by
        obtain ⟨hi, hc⟩ := List.getElem?_eq_some_iff.1 h4
        conv => lhs; rw [← List.take_append_drop i l, List.drop_eq_getElem_cons hi, hc]
      rw [e2, List.count_append, List.count_cons_self] at h
      omega
theorem count_one (c : UInt8) (l : List UInt8) : Lib.count l [c] = l.count c := by
  have key : ∀ n (l : List UInt8), l.length ≤ n → Lib.count l [c] = l.count c := by
    intro n
    induction n with
    | zero =>
      intro l hl
      have : l = [] := List.eq_nil_of_length_eq_zero (by omega)
      subst this; rfl
    | succ n ih =>
      intro l hl
      rcases index_one c l with ⟨h1, h2⟩ | ⟨i, h1, h2, h3, h4⟩
      · rw [Lib.count_miss h1, List.count_eq_zero.2 h2]
      · rw [Lib.count_hit (by simp) h1, ih _ (by simp; omega)]
        have e2 : l = l.take i ++ c :: l.drop (i + 1) := by
          obtain ⟨hi, hc⟩ := List.getElem?_eq_some_iff.1 h4
          conv => lhs; rw [← List.take_append_drop i l, List.drop_eq_getElem_cons hi, hc]
        conv => rhs; rw [e2, List.count_append, List.count_cons_self, List.count_eq_zero.2 h3]
        simp; omega
  exact key l.length l (Nat.le_refl _)

/-- the names of a path; none: it is no path -/
def pathL (l : List UInt8) : Option (List (List UInt8)) :=
  if l = [47] then some []
  else if l.head? = some 47 ∧ l.length ≤ 64 ∧ (splitC 47 l.tail).length ≤ 8 ∧ (splitC 47 l.tail).all nameL = true then some (splitC 47 l.tail) else none
def isPath (s : ByteArray) : Bool := (pathL s.data.toList).isSome
def errPath (s : ByteArray) : Int := if isPath s then 0 else 41
def mkB (l : List UInt8) : ByteArray := ⟨l.toArray⟩
theorem mkB_data (l : List UInt8) : (mkB l).data.toList = l := by simp [mkB]
theorem data_mkB (s : ByteArray) : mkB s.data.toList = s := Lib.mk_data s
theorem bytes_inj {s t : ByteArray} (h : s.data.toList = t.data.toList) : s = t := by rw [← data_mkB s, ← data_mkB t, h]
/-- 'label.Under' in plain words -/
def underB (p t : ByteArray) : Bool := isPath p && isPath t && (decide (t.data.toList = [47]) || decide (p = t) || (t.data.toList ++ [47]).isPrefixOf p.data.toList)
end Go.Proofs.YtalkdddeiebfmaaGreatDoor
/- Kinds: how a Go value in memory reads as a value of Lean. No program in sight. -/
namespace Go.Proofs.YtalkdddeiebfmaaGreatDoor
open Go.RowKit

theorem add_block (a : Addr) (n : Nat) : (a.add n).block = a.block := by unfold Addr.add; split <;> rfl
theorem add_add' (a : Addr) (i j : Nat) : (a.add i).add j = a.add (i + j) := by
  unfold Addr.add
  by_cases hi : i = 0 <;> by_cases hj : j = 0 <;> simp [hi, hj, Nat.add_assoc]
theorem add_off (a : Addr) (m j : Nat) (hj : 0 < j) : a.add (m + j) = ⟨(a.add m).block, (a.add m).off + j, none⟩ := by
  rw [← add_add']; unfold Addr.add; simp; omega
theorem add_new (g j : Nat) : (⟨g, 0, none⟩ : Addr).add j = ⟨g, j, none⟩ := by unfold Addr.add; split <;> simp_all

/-- A kind: how cells read as a value; P: a property of every block that the reading looks into. -/
structure Kn (α : Type) where
  sz : Nat
  pos : 0 < sz
  R : (Nat → Prop) → World → α → List Value → Prop
  len : ∀ {P : Nat → Prop} {w : World} {x : α} {cs : List Value}, R P w x cs → cs.length = sz
  one : ∀ {P : Nat → Prop} {w : World} {x : α} {cs : List Value}, R P w x cs → ∀ u ∈ cs, u.oneCell' = true
  mono : ∀ {P Q : Nat → Prop} {w : World} {x : α} {cs : List Value}, (∀ k, P k → Q k) → R P w x cs → R Q w x cs
  keep : ∀ {P : Nat → Prop} {w w' : World} {x : α} {cs : List Value}, (∀ k, P k → k < w.heap.size → w'.heap[k]? = w.heap[k]?) → R P w x cs → R P w' x cs
  lt : ∀ {P : Nat → Prop} {w : World} {x : α} {cs : List Value}, R P w x cs → R (fun k => P k ∧ k < w.heap.size) w x cs

/-- The cells of a row: element i's cells stand from place i * size on. -/
def Flat {α : Type} (d : Kn α) (P : Nat → Prop) (w : World) (xs : List α) (cells : List Value) : Prop :=
  cells.length = xs.length * d.sz ∧ ∀ i (h : i < xs.length), d.R P w xs[i] ((cells.drop (i * d.sz)).take d.sz)
/-- A row in memory. -/
def Row {α : Type} (d : Kn α) (P : Nat → Prop) (w : World) (A : Option Addr) (xs : List α) : Prop :=
  xs ≠ [] → ∃ a, A = some a ∧ P a.block ∧ ∃ cells, Flat d P w xs cells ∧ ∀ j u, cells[j]? = some u → w.cell? (a.add j) = some u

section
variable {α : Type} {d : Kn α} {P Q : Nat → Prop} {w w' : World} {A : Option Addr} {xs : List α} {cells : List Value}
theorem Flat.nil (d : Kn α) (P : Nat → Prop) (w : World) : Flat d P w [] [] := ⟨by simp, fun i h => absurd h (by simp)⟩
theorem Flat.mono (h : Flat d P w xs cells) (hp : ∀ k, P k → Q k) : Flat d Q w xs cells := ⟨h.1, fun i hi => d.mono hp (h.2 i hi)⟩
theorem Flat.keep (h : Flat d P w xs cells) (hk : ∀ k, P k → k < w.heap.size → w'.heap[k]? = w.heap[k]?) : Flat d P w' xs cells := ⟨h.1, fun i hi => d.keep hk (h.2 i hi)⟩
theorem Flat.lt (h : Flat d P w xs cells) : Flat d (fun k => P k ∧ k < w.heap.size) w xs cells := ⟨h.1, fun i hi => d.lt (h.2 i hi)⟩
theorem take_take_drop {β : Type} (l r : List β) (i s n : Nat) (hl : l.length = n * s) (hi : i < n) : ((l ++ r).drop (i * s)).take s = (l.drop (i * s)).take s := by
  have h1 : i * s + s ≤ n * s := by rw [← Nat.succ_mul]; exact Nat.mul_le_mul_right s hi
  rw [List.drop_append_of_le_length (by omega), List.take_append_of_le_length (by rw [List.length_drop]; omega)]
theorem Flat.append {ys : List α} {cs : List Value} (h : Flat d P w xs cells) (k : Flat d P w ys cs) : Flat d P w (xs ++ ys) (cells ++ cs) := by
  refine ⟨by rw [List.length_append, List.length_append, h.1, k.1, Nat.add_mul], fun i hi => ?_⟩
  by_cases hx : i < xs.length
  · rw [List.getElem_append_left hx, take_take_drop cells cs i d.sz xs.length h.1 hx]
    exact h.2 i hx
  · obtain ⟨j, rfl⟩ : ∃ j, i = xs.length + j := ⟨i - xs.length, by omega⟩
    have hj : j < ys.length := by simp at hi; omega
    rw [List.getElem_append_right (by omega)]
    have e : (cells ++ cs).drop ((xs.length + j) * d.sz) = cs.drop (j * d.sz) := by
      rw [List.drop_append, List.drop_eq_nil_of_le (by rw [h.1, Nat.add_mul]; omega), List.nil_append, h.1, Nat.add_mul]
      congr 1; omega
    rw [e]
    have := k.2 j hj
    simpa using this
theorem Flat.single {x : α} {cs : List Value} (h : d.R P w x cs) : Flat d P w [x] cs := by
  refine ⟨by rw [d.len h]; simp, fun i hi => ?_⟩
  have : i = 0 := by simp at hi; omega
  subst this
  simp only [Nat.zero_mul, List.drop_zero, List.getElem_cons_zero]
  rw [List.take_of_length_le (by rw [d.len h]; omega)]; exact h
theorem mul_div_of (j s : Nat) (hs : 0 < s) : j = j / s * s + j % s := by rw [Nat.mul_comm]; exact (Nat.div_add_mod j s).symm
theorem Flat.one (h : Flat d P w xs cells) : ∀ u ∈ cells, u.oneCell' = true := by
  intro u hu
  obtain ⟨j, hj, rfl⟩ := List.getElem_of_mem hu
  have hj' := hj; rw [h.1] at hj'
  have hi : j / d.sz < xs.length := by rw [Nat.div_lt_iff_lt_mul d.pos]; exact hj'
  refine d.one (h.2 (j / d.sz) hi) _ ?_
  have hm : j % d.sz < d.sz := Nat.mod_lt _ d.pos
  have e : ((cells.drop (j / d.sz * d.sz)).take d.sz)[j % d.sz]? = some cells[j] := by
    rw [List.getElem?_take_of_lt hm, List.getElem?_drop, ← mul_div_of j d.sz d.pos, List.getElem?_eq_getElem hj]
  exact List.mem_of_getElem? e
theorem Flat.take (h : Flat d P w xs cells) (n : Nat) (hn : n ≤ xs.length) : Flat d P w (xs.take n) (cells.take (n * d.sz)) := by
  have hle : n * d.sz ≤ xs.length * d.sz := Nat.mul_le_mul_right _ hn
  refine ⟨by rw [List.length_take, List.length_take, h.1, Nat.min_eq_left hle, Nat.min_eq_left hn], fun i hi => ?_⟩
  have hi' : i < n := by rw [List.length_take, Nat.min_eq_left hn] at hi; exact hi
  have hs : i * d.sz + d.sz ≤ n * d.sz := by rw [← Nat.succ_mul]; exact Nat.mul_le_mul_right _ hi'
  rw [List.getElem_take, List.drop_take, List.take_take, Nat.min_eq_left (by omega)]
  exact h.2 i (by omega)
theorem Flat.drop (h : Flat d P w xs cells) (n : Nat) : Flat d P w (xs.drop n) (cells.drop (n * d.sz)) := by
  refine ⟨by rw [List.length_drop, List.length_drop, h.1, Nat.sub_mul], fun i hi => ?_⟩
  have hi' : n + i < xs.length := by rw [List.length_drop] at hi; omega
  rw [List.getElem_drop, List.drop_drop, ← Nat.add_mul]
  exact h.2 (n + i) hi'
theorem Row.nil (d : Kn α) (P : Nat → Prop) (w : World) (A : Option Addr) : Row d P w A [] := fun h => absurd rfl h
theorem Row.mono (h : Row d P w A xs) (hp : ∀ k, P k → Q k) : Row d Q w A xs := fun hx => by
  obtain ⟨a, e, hb, cells, hf, hc⟩ := h hx
  exact ⟨a, e, hp _ hb, cells, hf.mono hp, hc⟩
theorem Row.block_lt (hx : xs ≠ []) {a : Addr} (hf : Flat d P w xs cells) (hc : ∀ j u, cells[j]? = some u → w.cell? (a.add j) = some u) : a.block < w.heap.size := by
  have hl : 0 < cells.length := by
    rw [hf.1]; exact Nat.mul_pos (List.length_pos_iff.2 hx) d.pos
  have := hc 0 cells[0] (List.getElem?_eq_getElem hl)
  have h2 := World.block_lt_of_cell? w _ this
  rwa [add_block] at h2
theorem Row.keep (h : Row d P w A xs) (hk : ∀ k, P k → k < w.heap.size → w'.heap[k]? = w.heap[k]?) : Row d P w' A xs := fun hx => by
  obtain ⟨a, e, hb, cells, hf, hc⟩ := h hx
  refine ⟨a, e, hb, cells, hf.keep hk, fun j u hu => ?_⟩
  rw [World.cell?_of_block (w := w) (by rw [add_block]; exact hk _ hb (Row.block_lt hx hf hc))]
  exact hc j u hu
theorem Row.lt (h : Row d P w A xs) : Row d (fun k => P k ∧ k < w.heap.size) w A xs := fun hx => by
  obtain ⟨a, e, hb, cells, hf, hc⟩ := h hx
  exact ⟨a, e, ⟨hb, Row.block_lt hx hf hc⟩, cells, hf.lt, hc⟩
theorem Row.below (h : Row d P w A xs) (hb : Below w.heap.size w w') : Row d P w' A xs := h.keep fun k _ hk => hb.block k hk
/-- element i: its address and its cells -/
theorem Row.at_ (h : Row d P w A xs) (i : Nat) (hi : i < xs.length) : ∃ a cs, A = some a ∧ P a.block ∧ d.R P w xs[i] cs ∧ ∀ j u, cs[j]? = some u → w.cell? (a.add (i * d.sz + j)) = some u := by
  obtain ⟨a, e, hb, cells, hf, hc⟩ := h (fun e => by subst e; simp at hi)
  refine ⟨a, _, e, hb, hf.2 i hi, fun j u hu => hc _ _ ?_⟩
  have hj : j < d.sz := by
    have h1 := (List.getElem?_eq_some_iff.1 hu).1
    rw [List.length_take] at h1; omega
  rw [List.getElem?_take_of_lt hj, List.getElem?_drop] at hu
  exact hu
theorem Row.take (h : Row d P w A xs) (n : Nat) : Row d P w A (xs.take n) := fun hx => by
  have hne : xs ≠ [] := fun e => hx (by subst e; simp)
  obtain ⟨a, e, hb, cells, hf, hc⟩ := h hne
  by_cases hn : n ≤ xs.length
  · refine ⟨a, e, hb, _, hf.take n hn, fun j u hu => hc j u ?_⟩
    have hj := (List.getElem?_eq_some_iff.1 hu).1
    rw [List.length_take] at hj
    rwa [List.getElem?_take_of_lt (by omega)] at hu
  · rw [List.take_of_length_le (by omega)]; exact ⟨a, e, hb, cells, hf, hc⟩
theorem Row.drop (h : Row d P w A xs) (n c : Nat) (hc : xs.length ≤ c) : Row d P w (if c = n then A else A.map (·.add (n * d.sz))) (xs.drop n) := fun hx => by
  have hne : xs ≠ [] := fun e => hx (by subst e; simp)
  have hn : n < xs.length := by
    by_cases hh : n < xs.length
    · exact hh
    · exact absurd (List.drop_eq_nil_of_le (by omega)) hx
  obtain ⟨a, rfl, hb, cells, hf, hcell⟩ := h hne
  rw [if_neg (by omega)]
  refine ⟨a.add (n * d.sz), rfl, by rw [add_block]; exact hb, _, hf.drop n, fun j u hu => ?_⟩
  rw [add_add']
  exact hcell _ u (by rw [← hu, List.getElem?_drop])
end

/-- A slice value that reads as a list. -/
def Sl {α : Type} (d : Kn α) (P : Nat → Prop) (w : World) (v : Value) (xs : List α) : Prop :=
  ∃ A c, v = .slice A xs.length c ∧ xs.length ≤ c ∧ c ≤ maxLen ∧ Row d P w A xs

namespace Kn
def scalar {α : Type} (enc : α → Value) (h1 : ∀ x, (enc x).oneCell' = true) : Kn α where
  sz := 1
  pos := by omega
  R := fun _ _ x cs => cs = [enc x]
  len := by rintro _ _ _ _ rfl; rfl
  one := by rintro _ _ x _ rfl u hu; rw [List.mem_singleton.1 hu]; exact h1 x
  mono := fun _ h => h
  keep := fun _ h => h
  lt := fun h => h
def int (k : IntKind) : Kn Int := scalar (Value.int k) (fun _ => rfl)
def bool : Kn Bool := scalar Value.bool (fun _ => rfl)
def str : Kn ByteArray := scalar Value.string (fun _ => rfl)
def pair {α β : Type} (a : Kn α) (b : Kn β) : Kn (α × β) where
  sz := a.sz + b.sz
  pos := by have := a.pos; omega
  R := fun P w x cs => ∃ c1 c2, cs = c1 ++ c2 ∧ a.R P w x.1 c1 ∧ b.R P w x.2 c2
  len := by rintro _ _ _ _ ⟨c1, c2, rfl, h1, h2⟩; rw [List.length_append, a.len h1, b.len h2]
  one := by
    rintro _ _ _ _ ⟨c1, c2, rfl, h1, h2⟩ u hu
    rcases List.mem_append.1 hu with h | h
    · exact a.one h1 u h
    · exact b.one h2 u h
  mono := by rintro _ _ _ _ _ hp ⟨c1, c2, rfl, h1, h2⟩; exact ⟨c1, c2, rfl, a.mono hp h1, b.mono hp h2⟩
  keep := by rintro _ _ _ _ _ hp ⟨c1, c2, rfl, h1, h2⟩; exact ⟨c1, c2, rfl, a.keep hp h1, b.keep hp h2⟩
  lt := by rintro _ _ _ _ ⟨c1, c2, rfl, h1, h2⟩; exact ⟨c1, c2, rfl, a.lt h1, b.lt h2⟩
def iso {α β : Type} (d : Kn α) (f : β → α) : Kn β where
  sz := d.sz
  pos := d.pos
  R := fun P w x cs => d.R P w (f x) cs
  len := d.len
  one := d.one
  mono := d.mono
  keep := d.keep
  lt := d.lt
def slice {α : Type} (d : Kn α) : Kn (List α) where
  sz := 1
  pos := by omega
  R := fun P w xs cs => ∃ v, cs = [v] ∧ Sl d P w v xs
  len := by rintro _ _ _ _ ⟨v, rfl, _⟩; rfl
  one := by rintro _ _ _ _ ⟨v, rfl, A, c, rfl, _⟩ u hu; rw [List.mem_singleton.1 hu]; rfl
  mono := by rintro _ _ _ _ _ hp ⟨v, rfl, A, c, rfl, h1, h2, h3⟩; exact ⟨_, rfl, A, c, rfl, h1, h2, h3.mono hp⟩
  keep := by rintro _ _ _ _ _ hp ⟨v, rfl, A, c, rfl, h1, h2, h3⟩; exact ⟨_, rfl, A, c, rfl, h1, h2, h3.keep hp⟩
  lt := by rintro _ _ _ _ ⟨v, rfl, A, c, rfl, h1, h2, h3⟩; exact ⟨_, rfl, A, c, rfl, h1, h2, h3.lt⟩
end Kn

section
variable {α : Type} {d : Kn α} {P Q : Nat → Prop} {w w' : World} {v : Value} {xs : List α}
theorem Sl.mono (h : Sl d P w v xs) (hp : ∀ k, P k → Q k) : Sl d Q w v xs := let ⟨A, c, e, h1, h2, h3⟩ := h; ⟨A, c, e, h1, h2, h3.mono hp⟩
theorem Sl.keep (h : Sl d P w v xs) (hk : ∀ k, P k → k < w.heap.size → w'.heap[k]? = w.heap[k]?) : Sl d P w' v xs := let ⟨A, c, e, h1, h2, h3⟩ := h; ⟨A, c, e, h1, h2, h3.keep hk⟩
theorem Sl.below (h : Sl d P w v xs) (hb : Below w.heap.size w w') : Sl d P w' v xs := h.keep fun k _ hk => hb.block k hk
theorem Sl.lt (h : Sl d P w v xs) : Sl d (fun k => P k ∧ k < w.heap.size) w v xs := let ⟨A, c, e, h1, h2, h3⟩ := h; ⟨A, c, e, h1, h2, h3.lt⟩
theorem Sl.nil (d : Kn α) (P : Nat → Prop) (w : World) : Sl d P w (.slice none 0 0) [] := ⟨none, 0, rfl, Nat.le_refl _, by unfold maxLen; omega, Row.nil _ _ _ _⟩
end

/-- A row of the call's own, from block base on. -/
def Own {α : Type} (d : Kn α) (e base : Nat) (P : Nat → Prop) (w : World) (v : Value) (xs : List α) : Prop :=
  ∃ cells, w.ownsRow base e d.sz v xs.length cells ∧ Flat d P w xs cells

section
variable {α : Type} {d : Kn α} {e base : Nat} {P Q : Nat → Prop} {w w' : World} {v : Value} {xs : List α}
theorem Own.nil (d : Kn α) (e base : Nat) (P : Nat → Prop) (w : World) : Own d e base P w (.slice none 0 0) [] := ⟨[], World.ownsRow_nil _ _ _ _, Flat.nil _ _ _⟩
theorem Own.mono (h : Own d e base P w v xs) (hp : ∀ k, P k → Q k) : Own d e base Q w v xs := let ⟨cs, h1, h2⟩ := h; ⟨cs, h1, h2.mono hp⟩
theorem Own.block_lt (h : Own d e base P w v xs) : ∀ k, v.ownBlock = some k → base ≤ k ∧ k < w.heap.size := let ⟨_, h1, _⟩ := h; h1.lt
theorem ownsRow_move {size n : Nat} {cells : List Value} (h : w.ownsRow base e size v n cells) (hm : ∀ k, v.ownBlock = some k → w'.heap[k]? = w.heap[k]?) : w'.ownsRow base e size v n cells := by
  obtain ⟨h1, h2⟩ := h
  refine ⟨h1, ?_⟩
  rcases h2 with h2 | ⟨g, cap, cur, rfl, hg, hh, r⟩
  · exact .inl h2
  · exact .inr ⟨g, cap, cur, rfl, hg, (hm g (by simp [Value.ownBlock])).trans hh, r⟩
theorem Own.move (h : Own d e base P w v xs) (hm : ∀ k, (v.ownBlock = some k ∨ P k) → k < w.heap.size → w'.heap[k]? = w.heap[k]?) : Own d e base P w' v xs := by
  have hl := h.block_lt
  obtain ⟨cs, h1, h2⟩ := h
  exact ⟨cs, ownsRow_move h1 (fun k hk => hm k (.inl hk) (hl k hk).2), h2.keep fun k hk hl => hm k (.inr hk) hl⟩
theorem Own.below (h : Own d e base P w v xs) (hb : Below w.heap.size w w') : Own d e base P w' v xs := h.move fun k _ hk => hb.block k hk
theorem Own.alloc (h : Own d e base P w v xs) (o : Obj) : Own d e base P (w.alloc o) v xs := h.below ((Below.refl _ _).alloc (Nat.le_refl _) o)
theorem Own.lower {base' : Nat} (h : Own d e base P w v xs) (hb : base' ≤ base) : Own d e base' P w v xs := by
  obtain ⟨cs, ⟨h1, h2⟩, h3⟩ := h
  refine ⟨cs, ⟨h1, ?_⟩, h3⟩
  rcases h2 with h2 | ⟨g, cap, cur, rfl, hg, r⟩
  · exact .inl h2
  · exact .inr ⟨g, cap, cur, rfl, Nat.le_trans hb hg, r⟩
theorem Own.row (h : Own d e base P w v xs) : ∃ A c, v = .slice A xs.length c ∧ xs.length ≤ c ∧ c ≤ maxLen ∧ Row d (fun k => P k ∨ v.ownBlock = some k) w A xs := by
  obtain ⟨cells, hown, hf⟩ := h
  rcases hown.2 with ⟨rfl, h0⟩ | ⟨g, cap, cur, rfl, hb, hg, h1, h2, h3, h4⟩
  · have : xs = [] := List.eq_nil_of_length_eq_zero h0
    subst this
    exact ⟨none, 0, rfl, Nat.le_refl _, by unfold maxLen; omega, Row.nil _ _ _ _⟩
  · exact ⟨_, cap, rfl, h1, h2, fun _ => ⟨_, rfl, .inr rfl, cells, hf.mono fun k hk => .inl hk, hown.cells rfl⟩⟩
theorem Own.sl (h : Own d e base P w v xs) : Sl d (fun k => P k ∨ v.ownBlock = some k) w v xs := h.row
/-- the row's blocks all lie from base on, where the elements' do -/
theorem Own.slFrom (h : Own d e base (fun k => base ≤ k) w v xs) : Sl d (fun k => base ≤ k) w v xs :=
  h.sl.mono fun k hk => hk.elim id fun e => (h.block_lt k e).1
theorem Own.slAny (h : Own d e base P w v xs) : Sl d (fun _ => True) w v xs := h.sl.mono fun _ _ => trivial
end
end Go.Proofs.YtalkdddeiebfmaaGreatDoor
/- Kinds: append onto a row of the call's own. No program in sight. -/
namespace Go.Proofs.YtalkdddeiebfmaaGreatDoor
open Go.RowKit

/-- A kind whose reading looks into no block. -/
def Kn.Plain {α : Type} (d : Kn α) : Prop := ∀ (P Q : Nat → Prop) (w w' : World) (x : α) (cs : List Value), d.R P w x cs → d.R Q w' x cs
/-- A kind whose cells are reckoned from the value alone: numbers, texts, structs of these. -/
def Kn.enc {α : Type} (f : α → List Value) (n : Nat) (hn : 0 < n) (hl : ∀ x, (f x).length = n) (h1 : ∀ x, ∀ u ∈ f x, u.oneCell' = true) : Kn α where
  sz := n
  pos := hn
  R := fun _ _ x cs => cs = f x
  len := by rintro _ _ x _ rfl; exact hl x
  one := by rintro _ _ x _ rfl; exact h1 x
  mono := fun _ h => h
  keep := fun _ h => h
  lt := fun h => h
theorem Kn.plain_enc {α : Type} {f : α → List Value} {n : Nat} {hn : 0 < n} {hl : ∀ x, (f x).length = n} {h1 : ∀ x, ∀ u ∈ f x, u.oneCell' = true} : (Kn.enc f n hn hl h1).Plain := fun _ _ _ _ _ _ h => h
theorem Kn.plain_scalar {α : Type} (enc : α → Value) (h1 : ∀ x, (enc x).oneCell' = true) : (Kn.scalar enc h1).Plain := fun _ _ _ _ _ _ h => h
theorem Kn.plain_int (k : IntKind) : (Kn.int k).Plain := fun _ _ _ _ _ _ h => h
theorem Kn.plain_str : Kn.str.Plain := fun _ _ _ _ _ _ h => h
theorem Kn.plain_bool : Kn.bool.Plain := fun _ _ _ _ _ _ h => h
theorem Kn.plain_pair {α β : Type} {a : Kn α} {b : Kn β} (ha : a.Plain) (hb : b.Plain) : (Kn.pair a b).Plain := by
  rintro P Q w w' x cs ⟨c1, c2, rfl, h1, h2⟩
  exact ⟨c1, c2, rfl, ha _ _ _ _ _ _ h1, hb _ _ _ _ _ _ h2⟩
theorem Kn.plain_iso {α β : Type} {d : Kn α} (f : β → α) (h : d.Plain) : (Kn.iso d f).Plain := fun P Q w w' x cs hx => h P Q w w' (f x) cs hx

section
variable {α : Type} {d : Kn α} {e base : Nat} {P Q : Nat → Prop} {w w' : World} {v : Value} {xs : List α}
theorem Flat.plain (hd : d.Plain) {cells : List Value} (h : Flat d P w xs cells) : Flat d Q w' xs cells := ⟨h.1, fun i hi => hd _ _ _ _ _ _ (h.2 i hi)⟩
theorem Own.plain (hd : d.Plain) (h : Own d e base P w v xs) : Own d e base Q w v xs := let ⟨cs, h1, h2⟩ := h; ⟨cs, h1, h2.plain hd⟩
end

section
variable {P : Program} (w : World)
theorem run_append_nil' (base : Nat) (t ty e : TypeId) (i : TypeInfo) (size : Nat) (ht : P.underlying t = some (.slice e)) (hi : P.info? e = some i)
    (v : Value) (n : Nat) (xs : List Value) (hown : w.ownsRow base e size v n xs) (c : Nat) : (Builtin.append_ #[t, t] ty #[v, .slice none 0 c]).run P w = .ok v w := by
  rcases hown.2 with ⟨rfl, rfl⟩ | ⟨g, cap, cur, rfl, _, _, hnc, _⟩
  · simp [Builtin.append_, run_underlying ht, sizeOf, typeInfo, hi, Builtin.lenOf, Builtin.firstCells]
  · simp [Builtin.append_, run_underlying ht, sizeOf, typeInfo, hi, Builtin.lenOf, Builtin.firstCells, hnc, storeCells]

/-- What an append leaves. -/
structure Appended {α : Type} (d : Kn α) (e base : Nat) (R : Nat → Prop) (w w' : World) (v v' : Value) (zs : List α) : Prop where
  own : Own d e base R w' v' zs
  grown : w.grownBy w' v.ownBlock
  at_ : v'.ownBlock = v.ownBlock ∨ v'.ownBlock = some w.heap.size

theorem run_append_kn {α : Type} (d : Kn α) (base : Nat) (t ty e : TypeId) (i : TypeInfo) (z : Value) (bytes : Nat) (ht : P.underlying t = some (.slice e)) (hi : P.info? e = some i) (hz : i.zero = some z)
    (hsize : i.size = d.sz) (hby : i.bytes = bytes) (hzs : z.cells.size = d.sz)
    (R S : Nat → Prop) (v : Value) (xs ys : List α) (hown : Own d e base R w v xs) (hR : ∀ k, R k → v.ownBlock ≠ some k) (hS : ∀ k, S k → v.ownBlock ≠ some k)
    (A : Option Addr) (c : Nat) (hr : Row d (fun k => S k ∨ d.Plain ∨ False) w A ys) (hpl : d.Plain ∨ Row d S w A ys)
    (h63 : xs.length + ys.length ≤ maxLen) (hbytes : (xs.length + ys.length) * bytes ≤ 140737488355328) (hbase : base ≤ w.heap.size) :
    ∃ v' w', (Builtin.append_ #[t, t] ty #[v, .slice A ys.length c]).run P w = .ok v' w' ∧ Appended d e base (fun k => R k ∨ S k) w w' v v' (xs ++ ys) := by
  obtain ⟨cells, ho, hf⟩ := hown
  have keepR : ∀ {w' : World}, w.grownBy w' v.ownBlock → ∀ k, R k → k < w.heap.size → w'.heap[k]? = w.heap[k]? := fun hg k hk hl => hg.block k hl (fun e => hR k hk e.symm)
  have keepS : ∀ {w' : World}, w.grownBy w' v.ownBlock → ∀ k, S k → k < w.heap.size → w'.heap[k]? = w.heap[k]? := fun hg k hk hl => hg.block k hl (fun e => hS k hk e.symm)
  by_cases hy : ys = []
  · subst hy
    rcases A with _ | ad
    · exact ⟨v, w, run_append_nil' w base t ty e i d.sz ht hi v _ _ ho c, by simpa using ⟨cells, ho, hf.mono fun k hk => .inl hk⟩, World.grownBy.refl w _, .inl rfl⟩
    · obtain ⟨v', w', hrun, h2, h3, _, h5⟩ := run_append_own_at (P := P) w base t ty e i z d.sz bytes ht hi hz hsize hby hzs d.pos v xs.length cells ho ad 0 c [] (by simp) (by simp) (by simp) (by simpa using h63) (by simpa using hbytes) hbase
      refine ⟨v', w', hrun, ?_, h3, h5⟩
      rw [List.append_nil]
      exact ⟨cells, by simpa using h2, (hf.keep (keepR h3)).mono fun k hk => .inl hk⟩
  · obtain ⟨ad, news, hA, hnl, hnc, h1, hfl⟩ : ∃ ad news, A = some ad ∧ news.length = ys.length * d.sz ∧ (∀ j u, news[j]? = some u → w.cell? (ad.add j) = some u) ∧ (∀ u ∈ news, u.oneCell' = true) ∧ (∀ w', w.grownBy w' v.ownBlock → Flat d S w' ys news) := by
      rcases hpl with hp | hrow
      · obtain ⟨ad, e, _, news, hf2, hc2⟩ := hr hy
        exact ⟨ad, news, e, hf2.1, hc2, hf2.one, fun w' _ => hf2.plain hp⟩
      · obtain ⟨ad, e, _, news, hf2, hc2⟩ := hrow hy
        exact ⟨ad, news, e, hf2.1, hc2, hf2.one, fun w' hg => hf2.keep (keepS hg)⟩
    subst hA
    obtain ⟨v', w', hrun, h2, h3, _, h5⟩ := run_append_own_at (P := P) w base t ty e i z d.sz bytes ht hi hz hsize hby hzs d.pos v xs.length cells ho ad ys.length c news hnl hnc h1 h63 hbytes hbase
    refine ⟨v', w', hrun, ⟨cells ++ news, by simpa using h2, Flat.append ((hf.keep (keepR h3)).mono fun k hk => .inl hk) ((hfl w' h3).mono fun k hk => .inr hk)⟩, h3, h5⟩
end

/-- What the program's tables say of a slice type's elements. -/
structure Elem {α : Type} (P : Program) (t e : TypeId) (d : Kn α) (bytes : Nat) : Prop where
  pos : 0 < bytes
  und : P.underlying t = some (.slice e)
  info : ∃ i z, P.info? e = some i ∧ i.zero = some z ∧ i.size = d.sz ∧ i.bytes = bytes ∧ z.cells.size = d.sz
theorem Elem.mk_ {α : Type} {P : Program} {t e : TypeId} {d : Kn α} {bytes : Nat} {z : Value} (hu : P.underlying t = some (.slice e)) (h : (P.info? e).map (fun i => (i.zero, i.size, i.bytes)) = some (some z, d.sz, bytes)) (hz : z.cells.size = d.sz) (hp : 0 < bytes) : Elem P t e d bytes := by
  obtain ⟨i, h1, h2, h3, h4⟩ := info_parts h
  exact ⟨hp, hu, i, z, h1, h2, h3, h4, hz⟩

/-- 's[l:]' -/
theorem run_cut_from {α : Type} {P : Program} {t e : TypeId} {d : Kn α} {bytes : Nat} (I : Elem P t e d bytes) (A : Option Addr) (len cap l : Nat) (h : l ≤ len) (w : World) :
    (Instr.slice t (.slice A len cap) (some (.int .i64 l)) none none).run P w = .ok (.slice (if cap = l then A else A.map (·.add (l * d.sz))) (len - l) (cap - l)) w := by
  obtain ⟨i, z, h1, h2, h3, h4, h5⟩ := I.info
  simp [Instr.slice, run_underlying I.und, Instr.sliceBounds, run_sliceBound (P := P) w .i64 (l : Int) len .sliceB (by omega) (by omega), sizeOf, typeInfo, h1, h3]
/-- 's[:m]' -/
theorem run_cut_to {α : Type} {P : Program} {t e : TypeId} {d : Kn α} {bytes : Nat} (I : Elem P t e d bytes) (A : Option Addr) (len cap m : Nat) (h : m ≤ cap) (w : World) :
    (Instr.slice t (.slice A len cap) none (some (.int .i64 m)) none).run P w = .ok (.slice A m cap) w := by
  obtain ⟨i, z, h1, h2, h3, h4, h5⟩ := I.info
  have ha : (if cap = 0 then A else A.map (·.add (0 * i.size))) = A := by
    split
    · rfl
    · cases A <;> simp [Addr.add]
  simp [Instr.slice, run_underlying I.und, Instr.sliceBounds, run_sliceBound (P := P) w .i64 (m : Int) cap .sliceAcap (by omega) (by omega), sizeOf, typeInfo, h1, ← h3]
  cases A <;> simp [Addr.add]
section
variable {P : Program} {w : World} {α : Type} {d : Kn α} {t e : TypeId} {bytes : Nat}
theorem len_ok {n : Nat} (hp : 0 < bytes) (h : n * bytes ≤ 140737488355328) : n ≤ maxLen := by
  have : n * 1 ≤ n * bytes := Nat.mul_le_mul_left n hp
  unfold maxLen; omega
/-- a row of elements that look nowhere -/
theorem run_app_plain (I : Elem P t e d bytes) (hd : d.Plain) (base : Nat) (ty : TypeId) {R S : Nat → Prop} {v : Value} {xs ys : List α} (hown : Own d e base R w v xs)
    {A : Option Addr} {c : Nat} (hr : Row d S w A ys) (hb : (xs.length + ys.length) * bytes ≤ 140737488355328) (hbase : base ≤ w.heap.size) :
    ∃ v' w', (Builtin.append_ #[t, t] ty #[v, .slice A ys.length c]).run P w = .ok v' w' ∧ Appended d e base R w w' v v' (xs ++ ys) := by
  obtain ⟨i, z, h1, h2, h3, h4, h5⟩ := I.info
  obtain ⟨v', w', hrun, ha⟩ := run_append_kn (P := P) w d base t ty e i z bytes I.und h1 h2 h3 h4 h5 (fun _ => False) (fun _ => False) v xs ys (hown.plain hd) (fun _ h => h.elim) (fun _ h => h.elim) A c (hr.mono fun _ _ => .inr (.inl hd)) (.inl hd) (len_ok I.pos hb) hb hbase
  exact ⟨v', w', hrun, ha.own.plain hd, ha.grown, ha.at_⟩
/-- a row of elements that look into other blocks -/
theorem run_app (I : Elem P t e d bytes) (base : Nat) (ty : TypeId) {R S : Nat → Prop} {v : Value} {xs ys : List α} (hown : Own d e base R w v xs) (hR : ∀ k, R k → v.ownBlock ≠ some k) (hS : ∀ k, S k → v.ownBlock ≠ some k)
    {A : Option Addr} {c : Nat} (hr : Row d S w A ys) (hb : (xs.length + ys.length) * bytes ≤ 140737488355328) (hbase : base ≤ w.heap.size) :
    ∃ v' w', (Builtin.append_ #[t, t] ty #[v, .slice A ys.length c]).run P w = .ok v' w' ∧ Appended d e base (fun k => R k ∨ S k) w w' v v' (xs ++ ys) := by
  obtain ⟨i, z, h1, h2, h3, h4, h5⟩ := I.info
  exact run_append_kn (P := P) w d base t ty e i z bytes I.und h1 h2 h3 h4 h5 R S v xs ys hown hR hS A c (hr.mono fun _ h => .inl h) (.inr hr) (len_ok I.pos hb) hb hbase

variable {ops : Array Oper} {rest : List Oper} {o : Oper} {a : Act} {K : Act → World → Prop} {Q : Exit → Act → World → Prop}
theorem wp_of_run (s x : Operand) (ho : o.op = .call { callee := .builtin .append, args := #[s, x], argTypes := #[t, t] }) {v v' u : Value} {w' : World} (hs : a.eval s = v) (hx : a.eval x = u)
    (hrun : (Builtin.append_ #[t, t] o.type #[v, u]).run P w = .ok v' w') (h : K (a.put o.dst v') w') : o.wp P a w K Q := by
  unfold Oper.wp execOp
  simp only [ho, resolve, invoke, builtin, Sem.run_bind, Sem.run_pure, Result.andThen_ok, List.map_toArray, List.map_cons, List.map_nil, hs, hx, hrun]
  exact h
theorem wpList_app_plain (I : Elem P t e d bytes) (hd : d.Plain) (base : Nat) (hgd : o.guard = none) (s x : Operand) (ho : o.op = .call { callee := .builtin .append, args := #[s, x], argTypes := #[t, t] })
    {R S : Nat → Prop} {v : Value} {xs ys : List α} (hs : a.eval s = v) (hown : Own d e base R w v xs) {A : Option Addr} {m c : Nat} (hx : a.eval x = .slice A m c) (hm : m = ys.length) (hr : Row d S w A ys)
    (hb : (xs.length + ys.length) * bytes ≤ 140737488355328) (hbase : base ≤ w.heap.size)
    (h : ∀ A' c' w', Appended d e base R w w' v (.slice A' (xs.length + ys.length) c') (xs ++ ys) → wpList P ops Q rest (a.put o.dst (.slice A' (xs.length + ys.length) c')) w') : wpList P ops Q (o :: rest) a w := by
  subst hm
  obtain ⟨v', w', hrun, ha⟩ := run_app_plain I hd base o.type hown hr hb hbase
  obtain ⟨A', c', hv', _⟩ := ha.own.row
  rw [List.length_append] at hv'
  subst hv'
  exact wpList_plain hgd fun _ hK => wp_of_run s x ho hs hx hrun (hK _ _ (h A' c' w' ha))
theorem wpList_app (I : Elem P t e d bytes) (base : Nat) (hgd : o.guard = none) (s x : Operand) (ho : o.op = .call { callee := .builtin .append, args := #[s, x], argTypes := #[t, t] })
    {R S : Nat → Prop} {v : Value} {xs ys : List α} (hs : a.eval s = v) (hown : Own d e base R w v xs) (hR : ∀ k, R k → v.ownBlock ≠ some k) (hS : ∀ k, S k → v.ownBlock ≠ some k) {A : Option Addr} {m c : Nat} (hx : a.eval x = .slice A m c) (hm : m = ys.length) (hr : Row d S w A ys)
    (hb : (xs.length + ys.length) * bytes ≤ 140737488355328) (hbase : base ≤ w.heap.size)
    (h : ∀ A' c' w', Appended d e base (fun k => R k ∨ S k) w w' v (.slice A' (xs.length + ys.length) c') (xs ++ ys) → wpList P ops Q rest (a.put o.dst (.slice A' (xs.length + ys.length) c')) w') : wpList P ops Q (o :: rest) a w := by
  subst hm
  obtain ⟨v', w', hrun, ha⟩ := run_app I base o.type hown hR hS hr hb hbase
  obtain ⟨A', c', hv', _⟩ := ha.own.row
  rw [List.length_append] at hv'
  subst hv'
  exact wpList_plain hgd fun _ hK => wp_of_run s x ho hs hx hrun (hK _ _ (h A' c' w' ha))
theorem step_app_plain {E : Prop} (I : Elem P t e d bytes) (hd : d.Plain) (base : Nat) (hgd : o.guard = none) (s x : Operand) (ho : o.op = .call { callee := .builtin .append, args := #[s, x], argTypes := #[t, t] })
    {R S : Nat → Prop} {v : Value} {xs ys : List α} (hs : a.eval s = v) (hown : Own d e base R w v xs) {A : Option Addr} {m c : Nat} (hx : a.eval x = .slice A m c) (hm : m = ys.length) (hr : Row d S w A ys)
    (hb : (xs.length + ys.length) * bytes ≤ 140737488355328) (hbase : base ≤ w.heap.size)
    (h : ∀ A' c' w', Appended d e base R w w' v (.slice A' (xs.length + ys.length) c') (xs ++ ys) → K (a.put o.dst (.slice A' (xs.length + ys.length) c')) w') : if Region.wanted o (yielded ops a.tmps) = true then Oper.wp P o a w K Q else E := by
  subst hm
  obtain ⟨v', w', hrun, ha⟩ := run_app_plain I hd base o.type hown hr hb hbase
  have hw : Region.wanted o (yielded ops a.tmps) = true := by simp [Region.wanted, hgd]
  rw [if_pos hw]
  obtain ⟨A', c', hv', _⟩ := ha.own.row
  rw [List.length_append] at hv'
  subst hv'
  exact wp_of_run s x ho hs hx hrun (h A' c' w' ha)

/-- the one-element block that an append lays first -/
theorem Row.newOne {x : α} {cs : List Value} {S : Nat → Prop} (hx : d.R S (w.alloc (.cells cs.toArray e)) x cs) : Row d (fun k => S k ∨ k = w.heap.size) (w.alloc (.cells cs.toArray e)) (some ⟨w.heap.size, 0, none⟩) [x] := fun _ =>
  ⟨_, rfl, .inr rfl, cs, Flat.single (d.mono (fun _ h => .inl h) hx), fun j u hu => by
    rw [add_new, cell_of_row _ _ _ _ _ _ (heap_alloc_new w _)]; simpa using hu⟩
theorem Row.newOnePlain (hd : d.Plain) {x : α} {cs : List Value} (hx : d.R (fun _ => True) w x cs) : Row d (fun _ => True) (w.alloc (.cells cs.toArray e)) (some ⟨w.heap.size, 0, none⟩) [x] :=
  (Row.newOne (S := fun _ => True) (hd _ _ _ _ _ _ hx)).mono fun _ _ => trivial
end

section
variable {α : Type} {d : Kn α} {e base : Nat} {R : Nat → Prop} {w0 w w' : World} {v v' : Value} {zs : List α}
theorem Own.row' {n c : Nat} {A : Option Addr} {P : Nat → Prop} (h : Own d e base P w (.slice A n c) zs) : n = zs.length ∧ Row d (fun _ => True) w A zs ∧ zs.length ≤ c ∧ c ≤ maxLen := by
  obtain ⟨A', c', hv, h1, h2, h3⟩ := h.row
  cases hv
  exact ⟨rfl, h3.mono fun _ _ => trivial, h1, h2⟩
/-- an empty slice made anew (s[:0:0] of a literal, 'make' of nothing) -/
theorem Own.empty (d : Kn α) (e base : Nat) (R : Nat → Prop) (w : World) (hb : base ≤ w.heap.size) : Own d e base R (w.alloc (.cells #[] e)) (.slice (some ⟨w.heap.size, 0, none⟩) 0 0) [] :=
  ⟨[], World.ownsRow_made w #[] 0 hb (by unfold maxLen; omega) (by simp), Flat.nil _ _ _⟩
theorem ownBlock_new {g o n c k : Nat} (h : (Value.slice (some ⟨g, o, none⟩) n c).ownBlock = some k) : g ≤ k := by
  have : g = k := by simpa [Value.ownBlock] using h
  omega
theorem ownBlock_none {n c k : Nat} (h : (Value.slice none n c).ownBlock = some k) : False := by simp [Value.ownBlock] at h
theorem Row.alloc {P : Nat → Prop} {A : Option Addr} {xs : List α} (h : Row d P w A xs) (o : Obj) : Row d P (w.alloc o) A xs := h.below ((Below.refl _ _).alloc (Nat.le_refl _) o)
theorem Appended.below (h : Appended d e base R w w' v v' zs) {B : Nat} (hw : Below B w0 w) (hB : B ≤ w.heap.size) (hv : ∀ k, v.ownBlock = some k → B ≤ k) : Below B w0 w' := hw.grown h.grown hB hv
end

theorem bcell {W w1 : World} (hb : Below W.heap.size W w1) : (∀ b o, b < W.heap.size → w1.cell? ⟨b, o, none⟩ = W.cell? ⟨b, o, none⟩) ∧ (∀ b o, b < W.heap.size → w1.frozen? ⟨b, o, none⟩ = W.frozen? ⟨b, o, none⟩) :=
  ⟨fun b o h => hb.cell (p := ⟨b, o, none⟩) h, fun b o h => hb.frozen (p := ⟨b, o, none⟩) h⟩
/-- Of w's blocks those outside S stand as they stood. -/
structure Turn (S : Nat → Prop) (w w' : World) : Prop where
  os : w'.os = w.os
  tape : w'.tape = w.tape
  output : w'.output = w.output
  size : w.heap.size ≤ w'.heap.size
  block : ∀ k, k < w.heap.size → ¬ S k → w'.heap[k]? = w.heap[k]?
section
variable {S S' : Nat → Prop} {w0 w w' : World}
theorem Turn.refl (S : Nat → Prop) (w : World) : Turn S w w := ⟨rfl, rfl, rfl, Nat.le_refl _, fun _ _ _ => rfl⟩
theorem Turn.trans {S : Nat → Prop} {a b c : World} (h : Turn S a b) (k : Turn (fun i => S i ∨ a.heap.size ≤ i) b c) : Turn S a c :=
  ⟨k.os.trans h.os, k.tape.trans h.tape, k.output.trans h.output, Nat.le_trans h.size k.size, fun i hi hs => (k.block i (Nat.lt_of_lt_of_le hi h.size) (fun hh => hh.elim hs (fun h2 => by omega))).trans (h.block i hi hs)⟩
theorem Turn.mono (h : Turn S w w') (hs : ∀ k, k < w.heap.size → S k → S' k) : Turn S' w w' := ⟨h.os, h.tape, h.output, h.size, fun k hk hn => h.block k hk (fun hh => hn (hs k hk hh))⟩
theorem Turn.of_below (h : Below w.heap.size w w') : Turn S w w' := ⟨h.os, h.tape, h.output, h.size, fun k hk _ => h.block k hk⟩
theorem Turn.then_below (h : Turn S w0 w) (hb : Below w.heap.size w w') : Turn S w0 w' := h.trans (Turn.of_below hb)
theorem Turn.alloc (h : Turn S w0 w) (o : Obj) : Turn S w0 (w.alloc o) := h.then_below ((Below.refl _ _).alloc (Nat.le_refl _) o)
theorem Turn.drew (h : Turn S w0 w) : Turn S w0 w.drew := ⟨h.os, h.tape, h.output, h.size, h.block⟩
theorem Turn.drewN (h : Turn S w0 w) (n : Nat) : Turn S w0 (w.drewN n) := h.then_below ((Below.refl _ _).trans ⟨rfl, rfl, rfl, Nat.le_refl _, fun _ _ => rfl⟩)
theorem Turn.setCell (h : Turn S w0 w) {p : Addr} (hp : S p.block ∨ w0.heap.size ≤ p.block) (u : Value) : Turn S w0 (w.setCell p u) :=
  h.trans ⟨rfl, rfl, rfl, by simp [World.setCell], fun k hk hn => Below.heap_setCell _ _ _ _ (fun e => hn (by subst e; exact hp))⟩
theorem Turn.grown {row : Option Nat} (h : Turn S w0 w) (hg : w.grownBy w' row) (hr : ∀ k, row = some k → S k ∨ w0.heap.size ≤ k) : Turn S w0 w' :=
  h.trans ⟨hg.os, hg.tape, hg.output, hg.size, fun k hk hn => hg.block k hk (fun e => hn (hr k e.symm))⟩
theorem Turn.below (h : Turn S w w') {B : Nat} (hB : B ≤ w.heap.size) (hs : ∀ k, S k → B ≤ k) : Below B w w' := ⟨h.os, h.tape, h.output, h.size, fun k hk => h.block k (by omega) (fun hh => by have := hs k hh; omega)⟩
theorem Turn.cell (h : Turn S w w') {p : Addr} {u : Value} (hc : w.cell? p = some u) (hs : ¬ S p.block) : w'.cell? p = some u :=
  (World.cell?_of_block (w := w) (h.block _ (World.block_lt_of_cell? w _ hc) hs)).trans hc
end

/-- a row of the call's own at a known block: its cells, none frozen -/
structure OwnAt {α : Type} (d : Kn α) (e : TypeId) (g c : Nat) (w : World) (xs : List α) : Prop where
  le : xs.length ≤ c
  mx : c ≤ maxLen
  ex : ∃ cur : Array Value, w.heap[g]? = some (.cells cur e (0, 0)) ∧ cur.size = c * d.sz ∧ Flat d (fun _ => True) w xs (cur.toList.take (xs.length * d.sz))
section
variable {α : Type} {d : Kn α} {e g c : Nat} {w w' : World} {xs : List α}
theorem OwnAt.of_own {base n : Nat} {P : Nat → Prop} (h : Own d e base P w (.slice (some ⟨g, 0, none⟩) n c) xs) : OwnAt d e g c w xs := by
  obtain ⟨cells, hown, hf⟩ := h
  rcases hown.2 with ⟨h0, _⟩ | ⟨g', cap, cur, hv, hb, hg, h1, h2, h3, h4⟩
  · cases h0
  · cases hv
    exact ⟨h1, h2, cur, hg, h3, by rw [h4]; exact hf.mono fun _ _ => trivial⟩
theorem OwnAt.own (h : OwnAt d e g c w xs) {base : Nat} (hb : base ≤ g) : Own d e base (fun _ => True) w (.slice (some ⟨g, 0, none⟩) xs.length c) xs := by
  obtain ⟨cur, hg, h3, hf⟩ := h.ex
  exact ⟨_, ⟨by rw [List.length_take]; apply Nat.min_eq_left; rw [Array.length_toList (xs := cur), h3]; exact Nat.mul_le_mul_right _ h.le, .inr ⟨g, c, cur, rfl, hb, hg, h.le, h.mx, h3, rfl⟩⟩, hf⟩
theorem OwnAt.frozen (h : OwnAt d e g c w xs) (j : Nat) : w.frozen? ⟨g, j, none⟩ = false := by
  obtain ⟨cur, hg, _⟩ := h.ex
  simp [World.frozen?, hg]
theorem OwnAt.lt (h : OwnAt d e g c w xs) : g < w.heap.size := by
  obtain ⟨cur, hg, _⟩ := h.ex
  exact (Array.getElem?_eq_some_iff.1 hg).1
theorem OwnAt.row (h : OwnAt d e g c w xs) : Row d (fun _ => True) w (some ⟨g, 0, none⟩) xs := fun _ => by
  obtain ⟨cur, hg, h3, hf⟩ := h.ex
  refine ⟨_, rfl, trivial, _, hf, fun j u hu => ?_⟩
  have hj := (List.getElem?_eq_some_iff.1 hu).1
  rw [List.length_take] at hj
  rw [List.getElem?_take_of_lt (by omega)] at hu
  rw [add_new, cell_of_row _ _ _ _ _ _ hg]; simpa using hu
theorem OwnAt.rowIn (h : OwnAt d e g c w xs) (hd : d.Plain) : Row d (fun k => k = g) w (some ⟨g, 0, none⟩) xs := fun hx => by
  obtain ⟨a, ha, _, cells, hf, hc⟩ := h.row hx
  cases ha
  exact ⟨_, rfl, rfl, cells, hf.plain hd, hc⟩
theorem OwnAt.move (hd : d.Plain) (h : OwnAt d e g c w xs) (hb : w'.heap[g]? = w.heap[g]?) : OwnAt d e g c w' xs := by
  obtain ⟨cur, hg, h3, hf⟩ := h.ex
  exact ⟨h.le, h.mx, cur, hb.trans hg, h3, hf.plain hd⟩
theorem OwnAt.take (hd : d.Plain) (h : OwnAt d e g c w xs) (n : Nat) (hn : n ≤ xs.length) : OwnAt d e g c w (xs.take n) := by
  obtain ⟨cur, hg, h3, hf⟩ := h.ex
  have hl : (xs.take n).length = n := by rw [List.length_take, Nat.min_eq_left hn]
  refine ⟨by rw [hl]; exact Nat.le_trans hn h.le, h.mx, cur, hg, h3, ?_⟩
  have := hf.take n hn
  rw [List.take_take, Nat.min_eq_left (Nat.mul_le_mul_right _ hn)] at this
  rw [hl]; exact this
end

theorem setCells_other (g : Nat) {b : Nat} (hb : b ≠ g) : ∀ (l : List Value) (w : World) (k : Nat), (w.setCells g k l).heap[b]? = w.heap[b]?
  | [], _, _ => rfl
  | u :: l, w, k => (setCells_other g hb l _ _).trans (Below.heap_setCell _ _ _ _ hb)
theorem setCells_at {g : Nat} {e : TypeId} : ∀ (l : List Value) (w : World) (k : Nat) (cur : Array Value), w.heap[g]? = some (.cells cur e (0, 0)) → k + l.length ≤ cur.size →
    ∃ cur' : Array Value, (w.setCells g k l).heap[g]? = some (.cells cur' e (0, 0)) ∧ cur'.size = cur.size ∧ ∀ j, cur'[j]? = if k ≤ j ∧ j < k + l.length then l[j - k]? else cur[j]?
  | [], w, k, cur, h, _ => ⟨cur, h, rfl, fun j => by rw [if_neg (by simp only [List.length_nil]; omega)]⟩
  | u :: l, w, k, cur, h, hk => by
    have h1 : (w.setCell ⟨g, k, none⟩ u).heap[g]? = some (.cells (cur.setIfInBounds k u) e (0, 0)) := by
      simp [World.setCell, Array.getElem?_modify, h]
    simp only [List.length_cons] at hk
    obtain ⟨cur', h2, h3, h4⟩ := setCells_at l _ (k + 1) _ h1 (by simp; omega)
    refine ⟨cur', h2, by simpa using h3, fun j => ?_⟩
    rw [h4 j]
    simp only [List.length_cons]
    by_cases hj : j = k
    · subst hj
      rw [if_neg (by omega), if_pos (by omega), Nat.sub_self, List.getElem?_cons_zero, Array.getElem?_setIfInBounds_self_of_lt (by omega)]
    · by_cases h5 : k + 1 ≤ j ∧ j < k + 1 + l.length
      · rw [if_pos h5, if_pos (by omega)]
        obtain ⟨m, rfl⟩ : ∃ m, j = k + 1 + m := ⟨j - k - 1, by omega⟩
        rw [show k + 1 + m - (k + 1) = m by omega, show k + 1 + m - k = m + 1 by omega, List.getElem?_cons_succ]
      · rw [if_neg h5, if_neg (by omega), Array.getElem?_setIfInBounds_ne (by omega)]
theorem setCells_turn {S : Nat → Prop} {w0 : World} {g : Nat} (hg : S g ∨ w0.heap.size ≤ g) : ∀ (l : List Value) (w : World) (k : Nat), Turn S w0 w → Turn S w0 (w.setCells g k l)
  | [], _, _, h => h
  | u :: l, w, k, h => setCells_turn hg l _ _ (h.setCell (p := ⟨g, k, none⟩) hg u)
theorem OwnAt.setEnc {α : Type} {f : α → List Value} {n : Nat} {hn : 0 < n} {hl : ∀ x, (f x).length = n} {h1 : ∀ x, ∀ u ∈ f x, u.oneCell' = true} {e g c : Nat} {w : World} {xs : List α}
    (h : OwnAt (Kn.enc f n hn hl h1) e g c w xs) (i : Nat) (hi : i < xs.length) (x : α) : OwnAt (Kn.enc f n hn hl h1) e g c (w.setCells g (i * n) (f x)) (xs.set i x) := by
  obtain ⟨cur, hg, h3, hf⟩ := h.ex
  have hle := h.le
  have hin : i * n + n ≤ xs.length * n := by rw [← Nat.succ_mul]; exact Nat.mul_le_mul_right _ hi
  have hcn : xs.length * n ≤ c * n := Nat.mul_le_mul_right _ hle
  have hsz : cur.size = c * n := h3
  obtain ⟨cur', hg', hs', hat⟩ := setCells_at (f x) w (i * n) cur hg (by rw [hl, hsz]; omega)
  refine ⟨by rw [List.length_set]; exact hle, h.mx, cur', hg', by rw [hs']; exact h3, ?_⟩
  rw [List.length_set]
  have hlen : (cur'.toList.take (xs.length * n)).length = xs.length * n := by
    rw [List.length_take]; apply Nat.min_eq_left; rw [Array.length_toList (xs := cur'), hs', hsz]; exact hcn
  refine ⟨by rw [List.length_set]; exact hlen, fun m hm => ?_⟩
  rw [List.length_set] at hm
  show ((cur'.toList.take (xs.length * n)).drop (m * n)).take n = f (xs.set i x)[m]
  have hmn : m * n + n ≤ xs.length * n := by rw [← Nat.succ_mul]; exact Nat.mul_le_mul_right _ hm
  apply List.ext_getElem?
  intro j
  by_cases hj : j < n
  · rw [List.getElem?_take_of_lt hj, List.getElem?_drop, List.getElem?_take_of_lt (by omega), Array.getElem?_toList, hat]
    by_cases hmi : m = i
    · subst hmi
      rw [if_pos (by rw [hl]; omega), List.getElem_set_self, show m * n + j - m * n = j by omega]
    · rw [List.getElem_set_ne (by omega)]
      have hne : ¬ (i * n ≤ m * n + j ∧ m * n + j < i * n + (f x).length) := by
        rw [hl]
        rintro ⟨h5, h6⟩
        rcases Nat.lt_or_gt_of_ne hmi with hlt | hgt
        · have : m * n + n ≤ i * n := by rw [← Nat.succ_mul]; exact Nat.mul_le_mul_right _ hlt
          omega
        · have : i * n + n ≤ m * n := by rw [← Nat.succ_mul]; exact Nat.mul_le_mul_right _ hgt
          omega
      rw [if_neg hne]
      have hold : ((cur.toList.take (xs.length * n)).drop (m * n)).take n = f xs[m] := hf.2 m hm
      rw [← hold, List.getElem?_take_of_lt hj, List.getElem?_drop, List.getElem?_take_of_lt (by omega), Array.getElem?_toList]
  · rw [List.getElem?_eq_none (by rw [List.length_take]; omega), List.getElem?_eq_none (by rw [hl]; omega)]

theorem zeroCells_one {z : Value} (h : ∀ u ∈ z.cells.toList, u.oneCell' = true) (n : Nat) : ∀ v ∈ (Builtin.zeroCells z.cells n).toList, v.oneCell' = true := by
  intro v hv
  have hv' : v ∈ (Builtin.zeroCells z.cells n) := Array.mem_toList_iff.1 hv
  simp only [Builtin.zeroCells, Array.mem_map] at hv'
  obtain ⟨i, _, rfl⟩ := hv'
  by_cases hi : i % z.cells.size < z.cells.size
  · rw [getElem!_pos z.cells _ hi]
    exact h _ (Array.mem_toList_iff.2 (Array.getElem_mem hi))
  · rw [getElem!_neg z.cells _ hi]
    rfl
/-- 'clear(s)': the cells hold the element type's zero; nothing else turns. -/
theorem run_clear_kn {P : Program} (w : World) (t e ty : TypeId) (z : Value) (ht : P.underlying t = some (.slice e)) (hv : ∀ w, (zeroValue e).run P w = .ok z w) (h1 : ∀ u ∈ z.cells.toList, u.oneCell' = true) (b o n c : Nat) (hn : 0 < n)
    (hc : ∀ j, j < (Builtin.zeroCells z.cells n).size → (w.cell? ⟨b, o + j, none⟩).isSome = true) (hf : ∀ j, j < (Builtin.zeroCells z.cells n).size → w.frozen? ⟨b, o + j, none⟩ = false) :
    (Builtin.clear_ #[t] ty #[.slice (some ⟨b, o, none⟩) n c]).run P w = .ok (.tuple #[]) (w.setCells b o (Builtin.zeroCells z.cells n).toList) := by
  have hst := run_storeCells_cells (P := P) b o (Builtin.zeroCells z.cells n).toList 0 w (by simpa using hc) (by simpa using hf) (zeroCells_one h1 n)
  simp only [Nat.add_zero] at hst
  obtain ⟨m, rfl⟩ : ∃ m, n = m + 1 := ⟨n - 1, by omega⟩
  simp [Builtin.clear_, run_underlying ht, hv, hst]
theorem run_clear_empty {P : Program} (w : World) (t ty : TypeId) (e : TypeId) (ht : P.underlying t = some (.slice e)) (a : Option Addr) (c : Nat) :
    (Builtin.clear_ #[t] ty #[.slice a 0 c]).run P w = .ok (.tuple #[]) w := by
  cases a <;> simp [Builtin.clear_, run_underlying ht]
theorem OwnAt.clear {α : Type} {d : Kn α} {P : Program} {e g c : Nat} {w : World} {xs : List α} (hd : d.Plain) (h : OwnAt d e g c w xs) (i : Nat) (hi : i < xs.length) (t ty : TypeId) (z : Value) (ht : P.underlying t = some (.slice e)) (hv : ∀ w, (zeroValue e).run P w = .ok z w) (hz : z.cells.size = d.sz) (h1 : ∀ u ∈ z.cells.toList, u.oneCell' = true) (c' : Nat) :
    ∃ w', (Builtin.clear_ #[t] ty #[.slice (some ⟨g, i * d.sz, none⟩) (xs.length - i) c']).run P w = .ok (.tuple #[]) w' ∧ OwnAt d e g c w' (xs.take i) ∧ Turn (fun k => k = g) w w' := by
  obtain ⟨cur, hg, h3, hf⟩ := h.ex
  have hzs : (Builtin.zeroCells z.cells (xs.length - i)).size = (xs.length - i) * d.sz := by simp [Builtin.zeroCells, hz]
  have hin : i * d.sz + (xs.length - i) * d.sz = xs.length * d.sz := by rw [← Nat.add_mul]; congr 1; omega
  have hcn : xs.length * d.sz ≤ c * d.sz := Nat.mul_le_mul_right _ h.le
  refine ⟨_, run_clear_kn w t e ty z ht hv h1 g (i * d.sz) (xs.length - i) c' (by omega) (fun j hj => ?_) (fun j _ => h.frozen _), ?_, ?_⟩
  · rw [cell_of_row _ _ _ _ _ _ hg, Array.getElem?_eq_getElem (by rw [h3]; omega)]; rfl
  · obtain ⟨cur', hg', hs', hat⟩ := setCells_at (Builtin.zeroCells z.cells (xs.length - i)).toList w (i * d.sz) cur hg (by rw [Array.length_toList (xs := Builtin.zeroCells z.cells (xs.length - i)), hzs, h3]; omega)
    have hl : (xs.take i).length = i := by rw [List.length_take, Nat.min_eq_left (by omega)]
    refine ⟨by rw [hl]; exact Nat.le_trans (Nat.le_of_lt hi) h.le, h.mx, cur', hg', by rw [hs']; exact h3, ?_⟩
    rw [hl]
    have he : cur'.toList.take (i * d.sz) = cur.toList.take (i * d.sz) := by
      apply List.ext_getElem?
      intro j
      by_cases hj : j < i * d.sz
      · rw [List.getElem?_take_of_lt hj, List.getElem?_take_of_lt hj, Array.getElem?_toList, Array.getElem?_toList, hat, if_neg (by omega)]
      · rw [List.getElem?_eq_none (by rw [List.length_take]; omega), List.getElem?_eq_none (by rw [List.length_take]; omega)]
    rw [he]
    have := hf.take i (Nat.le_of_lt hi)
    rw [List.take_take, Nat.min_eq_left (by omega)] at this
    exact this.plain hd
  · exact setCells_turn (S := fun k => k = g) (.inl rfl) _ _ _ (Turn.refl _ _)
end Go.Proofs.YtalkdddeiebfmaaGreatDoor
/- Kinds: a row of the call's own that is cut at its front and appended to. -/
namespace Go.Proofs.YtalkdddeiebfmaaGreatDoor
open Go.RowKit

def OwnQ {α : Type} (d : Kn α) (e : TypeId) (F P : Nat → Prop) (w : World) (v : Value) (xs : List α) : Prop :=
  (v = .slice none 0 0 ∧ xs = []) ∨ ∃ g off cap cur, v = .slice (some ⟨g, off, none⟩) xs.length cap ∧ F g ∧ w.heap[g]? = some (.cells cur e (0, 0)) ∧ xs.length ≤ cap ∧ cap ≤ maxLen ∧
    off + cap * d.sz ≤ cur.size ∧ Flat d P w xs ((cur.toList.drop off).take (xs.length * d.sz))

section
variable {α : Type} {d : Kn α} {e : TypeId} {F F' P Q : Nat → Prop} {w w' : World} {v : Value} {xs : List α}
theorem OwnQ.nil (d : Kn α) (e : TypeId) (F P : Nat → Prop) (w : World) : OwnQ d e F P w (.slice none 0 0) [] := .inl ⟨rfl, rfl⟩
theorem OwnQ.mono (h : OwnQ d e F P w v xs) (hf : ∀ k, F k → F' k) (hp : ∀ k, P k → Q k) : OwnQ d e F' Q w v xs := by
  rcases h with h | ⟨g, off, cap, cur, h1, h2, h3, h4, h5, h6, h7⟩
  · exact .inl h
  · exact .inr ⟨g, off, cap, cur, h1, hf g h2, h3, h4, h5, h6, h7.mono hp⟩
theorem OwnQ.lt (h : OwnQ d e F P w v xs) : ∀ k, v.ownBlock = some k → F k ∧ k < w.heap.size ∧ ∃ cur, w.heap[k]? = some (.cells cur e (0, 0)) := by
  rcases h with ⟨rfl, _⟩ | ⟨g, off, cap, cur, rfl, h2, h3, _⟩
  · intro k hk; simp [Value.ownBlock] at hk
  · intro k hk
    obtain rfl : g = k := by simpa [Value.ownBlock] using hk
    exact ⟨h2, (Array.getElem?_eq_some_iff.1 h3).1, cur, h3⟩
theorem OwnQ.bound (h : OwnQ d e F P w v xs) : OwnQ d e (fun k => F k ∧ k < w.heap.size) (fun k => P k ∧ k < w.heap.size) w v xs := by
  rcases h with h | ⟨g, off, cap, cur, h1, h2, h3, h4, h5, h6, h7⟩
  · exact .inl h
  · exact .inr ⟨g, off, cap, cur, h1, ⟨h2, (Array.getElem?_eq_some_iff.1 h3).1⟩, h3, h4, h5, h6, h7.lt⟩
theorem OwnQ.move (h : OwnQ d e F P w v xs) (hm : ∀ k, (v.ownBlock = some k ∨ P k) → k < w.heap.size → w'.heap[k]? = w.heap[k]?) : OwnQ d e F P w' v xs := by
  rcases h with h | ⟨g, off, cap, cur, rfl, h2, h3, h4, h5, h6, h7⟩
  · exact .inl h
  · exact .inr ⟨g, off, cap, cur, rfl, h2, (hm g (.inl rfl) (Array.getElem?_eq_some_iff.1 h3).1).trans h3, h4, h5, h6, h7.keep fun k hk hl => hm k (.inr hk) hl⟩
theorem OwnQ.row (h : OwnQ d e F P w v xs) : ∃ A c, v = .slice A xs.length c ∧ xs.length ≤ c ∧ c ≤ maxLen ∧ Row d (fun k => P k ∨ v.ownBlock = some k) w A xs := by
  rcases h with ⟨rfl, rfl⟩ | ⟨g, off, cap, cur, rfl, h2, h3, h4, h5, h6, h7⟩
  · exact ⟨none, 0, rfl, Nat.le_refl _, by unfold maxLen; omega, Row.nil _ _ _ _⟩
  · refine ⟨_, cap, rfl, h4, h5, fun _ => ⟨_, rfl, .inr rfl, _, h7.mono fun k hk => .inl hk, fun j u hu => ?_⟩⟩
    have hj := (List.getElem?_eq_some_iff.1 hu).1
    rw [List.length_take] at hj
    rw [List.getElem?_take_of_lt (by omega), List.getElem?_drop] at hu
    have ha : (⟨g, off, none⟩ : Addr).add j = ⟨g, off + j, none⟩ := by unfold Addr.add; split <;> simp_all
    rw [ha, cell_of_row _ _ _ _ _ _ h3]; simpa using hu
/-- the front's element taken away -/
theorem OwnQ.tail {x : α} (h : OwnQ d e F P w v (x :: xs)) : ∃ g off cap, v = .slice (some ⟨g, off, none⟩) (xs.length + 1) cap ∧ xs.length + 1 ≤ cap ∧ cap ≤ maxLen ∧ F g ∧
    OwnQ d e F P w (.slice (if cap = 1 then some ⟨g, off, none⟩ else some ⟨g, off + 1 * d.sz, none⟩) xs.length (cap - 1)) xs := by
  rcases h with ⟨_, h⟩ | ⟨g, off, cap, cur, rfl, h2, h3, h4, h5, h6, h7⟩
  · cases h
  · simp only [List.length_cons] at h4 h7
    refine ⟨g, off, cap, rfl, h4, h5, h2, ?_⟩
    by_cases hc : cap = 1
    · subst hc
      have : xs = [] := List.eq_nil_of_length_eq_zero (by omega)
      subst this
      rw [if_pos rfl]
      exact .inr ⟨g, off, 0, cur, rfl, h2, h3, by simp, by omega, by omega, by simpa using Flat.nil d P w⟩
    · rw [if_neg hc]
      have hz : cap * d.sz = 1 * d.sz + (cap - 1) * d.sz := by rw [← Nat.add_mul]; congr 1; omega
      refine .inr ⟨g, off + 1 * d.sz, cap - 1, cur, rfl, h2, h3, by omega, by omega, by rw [hz] at h6; omega, ?_⟩
      have := h7.drop 1
      simp only [List.drop_one, List.tail_cons] at this
      rw [List.drop_take, List.drop_drop] at this
      rwa [show (xs.length + 1) * d.sz - 1 * d.sz = xs.length * d.sz by rw [← Nat.sub_mul]; simp] at this
end

structure AppendedQ {α : Type} (d : Kn α) (e : TypeId) (F P : Nat → Prop) (w w' : World) (v v' : Value) (zs : List α) : Prop where
  own : OwnQ d e F P w' v' zs
  grown : w.grownBy w' v.ownBlock
  at_ : v'.ownBlock = v.ownBlock ∨ ∃ k, v'.ownBlock = some k ∧ w.heap.size ≤ k

theorem run_appQ {P : Program} {α : Type} {d : Kn α} {t e : TypeId} {bytes : Nat} (I : Elem P t e d bytes) (ty : TypeId) {F R S : Nat → Prop} {w : World} {v : Value} {xs ys : List α} (hown : OwnQ d e F R w v xs)
    (hR : ∀ k, R k → v.ownBlock ≠ some k) (hS : ∀ k, S k → v.ownBlock ≠ some k) {A : Option Addr} {c : Nat} (hr : Row d S w A ys) (hy : ys ≠ []) (hb : (xs.length + ys.length) * bytes ≤ 140737488355328) :
    ∃ v' w', (Builtin.append_ #[t, t] ty #[v, .slice A ys.length c]).run P w = .ok v' w' ∧ AppendedQ d e (fun k => F k ∨ w.heap.size ≤ k) (fun k => R k ∨ S k) w w' v v' (xs ++ ys) := by
  obtain ⟨i, z, h1, h2, h3, h4, h5⟩ := I.info
  obtain ⟨ad, rfl, _, news, hf2, hc2⟩ := hr hy
  have hnl := hf2.1
  have h1c := hf2.one
  have keepR : ∀ {w' : World}, w.grownBy w' v.ownBlock → ∀ k, R k → k < w.heap.size → w'.heap[k]? = w.heap[k]? := fun hg k hk hl => hg.block k hl (fun e => hR k hk e.symm)
  have keepS : ∀ {w' : World}, w.grownBy w' v.ownBlock → ∀ k, S k → k < w.heap.size → w'.heap[k]? = w.heap[k]? := fun hg k hk hl => hg.block k hl (fun e => hS k hk e.symm)
  rcases hown with ⟨rfl, rfl⟩ | ⟨g, off, cap, cur, rfl, g2, g3, g4, g5, g6, g7⟩
  · obtain ⟨v', w', hrun, ha⟩ := run_app (P := P) I w.heap.size ty (R := fun _ => False) (S := S) (Own.nil d e w.heap.size (fun _ => False) w) (fun _ h => h.elim) hS (A := some ad) (c := c) (fun hy => ⟨ad, rfl, by assumption, news, hf2, hc2⟩) hb (Nat.le_refl _)
    refine ⟨v', w', hrun, ?_, ha.grown, ha.at_.imp id fun h => ⟨_, h, Nat.le_refl _⟩⟩
    have hat := ha.at_
    obtain ⟨cells, ho, hfl⟩ := ha.own
    rcases ho.2 with ⟨rfl, hz⟩ | ⟨g, cap, cur, rfl, e2, e3, e4, e5, e6, e7⟩
    · exact .inl ⟨rfl, List.eq_nil_of_length_eq_zero hz⟩
    · refine .inr ⟨g, 0, cap, cur, rfl, .inr ?_, e3, e4, e5, by rw [e6]; omega, by rw [List.drop_zero, e7]; exact hfl.mono fun k hk => hk.elim (fun h => h.elim) .inr⟩
      rcases hat with h | h
      · simp [Value.ownBlock] at h
      · have : g = w.heap.size := by simpa [Value.ownBlock] using h
        omega
  · have hsz : i.size = d.sz := h3
    by_cases hroom : xs.length + ys.length ≤ cap
    · have hcells : off + xs.length * d.sz + news.length ≤ cur.size := by
        have := Nat.mul_le_mul_right d.sz hroom
        rw [Nat.add_mul] at this
        omega
      have hrun := run_append_room_cells (P := P) w t ty e i I.und h1 g off xs.length cap ad ys.length c news (by rw [hnl, hsz]) hc2 h1c hroom
        (fun j hj => by rw [cell_of_row _ _ _ _ _ _ g3, hsz, Array.getElem?_eq_getElem (by omega)]; rfl) (fun j _ => by simp [World.frozen?, g3])
      rw [hsz] at hrun
      obtain ⟨cur', hg', hs', hat⟩ := setCells_at news w (off + xs.length * d.sz) cur g3 hcells
      have hgr : w.grownBy (w.setCells g (off + xs.length * d.sz) news) (some g) := by
        have ht := setCells_turn (S := fun k => k = g) (g := g) (.inl rfl) news w (off + xs.length * d.sz) (Turn.refl _ w)
        exact ⟨ht.os, ht.tape, ht.output, ht.size, fun k hk hn => ht.block k hk (fun e => hn (by rw [e]))⟩
      refine ⟨_, _, hrun, .inr ⟨g, off, cap, cur', by rw [List.length_append], .inl g2, hg', by rw [List.length_append]; exact hroom, g5, by rw [hs']; exact g6, ?_⟩, hgr, .inl rfl⟩
      have e1 : (cur'.toList.drop off).take ((xs ++ ys).length * d.sz) = (cur.toList.drop off).take (xs.length * d.sz) ++ news := by
        apply List.ext_getElem?
        intro j
        have hl1 : ((cur.toList.drop off).take (xs.length * d.sz)).length = xs.length * d.sz := g7.1
        rw [List.length_append, Nat.add_mul]
        by_cases hj : j < xs.length * d.sz
        · rw [List.getElem?_take_of_lt (by omega), List.getElem?_drop, Array.getElem?_toList, hat, if_neg (by omega), List.getElem?_append_left (by rw [hl1]; exact hj), List.getElem?_take_of_lt hj, List.getElem?_drop, Array.getElem?_toList]
        · rw [List.getElem?_append_right (by rw [hl1]; omega), hl1]
          by_cases hj2 : j < xs.length * d.sz + ys.length * d.sz
          · rw [List.getElem?_take_of_lt (by omega), List.getElem?_drop, Array.getElem?_toList, hat, if_pos (by rw [hnl]; omega)]
            congr 1; omega
          · rw [List.getElem?_eq_none (by rw [List.length_take]; omega), List.getElem?_eq_none (by rw [hnl]; omega)]
      rw [e1]
      exact Flat.append ((g7.keep (keepR hgr)).mono fun k hk => .inl hk) ((hf2.keep (keepS hgr)).mono fun k hk => .inr hk)
    · have hold : ∀ j u, ((cur.toList.drop off).take (xs.length * d.sz))[j]? = some u → w.cell? ((⟨g, off, none⟩ : Addr).add j) = some u := by
        intro j u hu
        have hj := (List.getElem?_eq_some_iff.1 hu).1
        rw [List.length_take] at hj
        rw [List.getElem?_take_of_lt (by omega), List.getElem?_drop] at hu
        have ha : (⟨g, off, none⟩ : Addr).add j = ⟨g, off + j, none⟩ := by unfold Addr.add; split <;> simp_all
        rw [ha, cell_of_row _ _ _ _ _ _ g3]; simpa using hu
      obtain ⟨v', w', hrun, ho, hgr⟩ := run_append_arg_grows (P := P) w t ty e i z d.sz bytes I.und h1 h2 h3 h4 h5 d.pos ⟨g, off, none⟩ xs.length cap _ g7.1 hold ad ys.length c news hnl hc2 (by omega) (len_ok I.pos hb) hb
      have hgr' : w.grownBy w' (Value.slice (some ⟨g, off, none⟩) xs.length cap).ownBlock := ⟨hgr.os, hgr.tape, hgr.output, hgr.size, fun k hk _ => hgr.block k hk (by simp)⟩
      have hfl : Flat d (fun k => R k ∨ S k) w' (xs ++ ys) ((cur.toList.drop off).take (xs.length * d.sz) ++ news) := Flat.append ((g7.keep (keepR hgr')).mono fun k hk => .inl hk) ((hf2.keep (keepS hgr')).mono fun k hk => .inr hk)
      rcases ho.2 with ⟨_, hz⟩ | ⟨g', cap', cur', rfl, e2, e3, e4, e5, e6, e7⟩
      · exact absurd (List.length_pos_iff.2 hy) (by omega)
      · refine ⟨_, w', hrun, .inr ⟨g', 0, cap', cur', by rw [List.length_append], .inr e2, e3, by rw [List.length_append]; exact e4, e5, by rw [e6]; omega, ?_⟩, hgr', .inr ⟨g', rfl, e2⟩⟩
        rw [List.drop_zero, List.length_append, e7]; exact hfl

theorem step_appQ {P : Program} {α : Type} {d : Kn α} {t e : TypeId} {bytes : Nat} {w : World} {ops : Array Oper} {o : Oper} {a : Act} {K : Act → World → Prop} {Q : Exit → Act → World → Prop} {E : Prop} (I : Elem P t e d bytes) (hgd : o.guard = none) (s x : Operand)
    (ho : o.op = .call { callee := .builtin .append, args := #[s, x], argTypes := #[t, t] }) {F R S : Nat → Prop} {v : Value} {xs ys : List α} (hs : a.eval s = v) (hown : OwnQ d e F R w v xs)
    (hR : ∀ k, R k → v.ownBlock ≠ some k) (hS : ∀ k, S k → v.ownBlock ≠ some k) {A : Option Addr} {m c : Nat} (hx : a.eval x = .slice A m c) (hm : m = ys.length) (hr : Row d S w A ys) (hy : ys ≠ []) (hb : (xs.length + ys.length) * bytes ≤ 140737488355328)
    (h : ∀ A' c' w', AppendedQ d e (fun k => F k ∨ w.heap.size ≤ k) (fun k => R k ∨ S k) w w' v (.slice A' (xs.length + ys.length) c') (xs ++ ys) → K (a.put o.dst (.slice A' (xs.length + ys.length) c')) w') : if Region.wanted o (yielded ops a.tmps) = true then Oper.wp P o a w K Q else E := by
  subst hm
  obtain ⟨v', w', hrun, ha⟩ := run_appQ I o.type hown hR hS hr hy hb
  have hw : Region.wanted o (yielded ops a.tmps) = true := by simp [Region.wanted, hgd]
  rw [if_pos hw]
  obtain ⟨A', c', hv', _⟩ := ha.own.row
  rw [List.length_append] at hv'
  subst hv'
  exact wp_of_run s x ho hs hx hrun (h A' c' w' ha)
end Go.Proofs.YtalkdddeiebfmaaGreatDoor
/- A region that draws its order and whose calls only make memory: one walk of the text's own order. Derived/Deep/Quiet.lean's theorem at the class of the worlds that hold all that w holds. -/
namespace Go.Proofs.YtalkdddeiebfmaaGreatDoor
open Go.RowKit

/-- a world that holds all that W holds -/
structure BW (W : World) where
  w : World
  h : Below W.heap.size W w
instance (W : World) : Nonempty (BW W) := ⟨⟨W, Below.refl _ _⟩⟩
section
variable {P : Program} {W : World}
theorem BW.cell (W : World) : ∀ (x : BW W) (b o : Nat), b < W.heap.size → x.w.cell? ⟨b, o, none⟩ = W.cell? ⟨b, o, none⟩ := fun x b o hb => x.h.cell (p := ⟨b, o, none⟩) hb
theorem BW.frozen (W : World) : ∀ (x : BW W) (b o : Nat), b < W.heap.size → x.w.frozen? ⟨b, o, none⟩ = W.frozen? ⟨b, o, none⟩ := fun x b o hb => x.h.frozen (p := ⟨b, o, none⟩) hb
theorem below_drew1 (W : World) : Below W.heap.size W { W with drawn := W.drawn + 1 } := ⟨rfl, rfl, rfl, Nat.le_refl _, fun _ _ => rfl⟩
theorem wp_region_pure {id : Nat} {Q : Exit → Act → World → Prop} {a : Act} {w : World} {l : List Oper} (hm : P.follows .mixedOrders = true) (hB : Region.lexB .any l.toArray = true)
    (h : wpQuiet P l.toArray (fun w' => ∃ x : BW w, w' = x.w) (fun a' => ∀ w', (∃ x : BW w, w' = x.w) → Q .normal a' w') l a) : (Code.region id l.toArray true).wp P Q a w :=
  wp_region_quiet (C := fun w' => ∃ x : BW w, w' = x.w) hm hB ⟨⟨_, below_drew1 w⟩, rfl⟩ (by simpa using h)
/-- a call that only makes memory -/
theorem Calls.pure_of {f : FuncId} {args : Array Value} {x : BW W} {v : Value} (h : Calls P f args x.w fun e w' => e = .returned v ∧ Below x.w.heap.size x.w w') :
    Calls P f args x.w fun e w'' => e = .returned v ∧ ∃ y : BW W, w'' = y.w :=
  h.mono fun _ w' ⟨he, hb⟩ => ⟨he, ⟨w', x.h.trans (hb.mono x.h.size)⟩, rfl⟩
end
end Go.Proofs.YtalkdddeiebfmaaGreatDoor
/- A row of the call's own that is written to; an append that leaves the old row as it was. -/
namespace Go.Proofs.YtalkdddeiebfmaaGreatDoor
open Go.RowKit

theorem take_drop_set {l : List Value} {s i j k : Nat} (hj : j < s) (u : Value) : ((l.set (i * s + j) u).drop (k * s)).take s = if k = i then ((l.drop (k * s)).take s).set j u else (l.drop (k * s)).take s := by
  apply List.ext_getElem?
  intro m
  by_cases hm : m < s
  · rw [List.getElem?_take_of_lt hm, List.getElem?_drop, List.getElem?_set]
    by_cases hk : k = i
    · subst hk
      rw [if_pos rfl, List.getElem?_set]
      by_cases hjm : j = m
      · subst hjm
        rw [if_pos rfl, if_pos rfl]
        simp only [List.length_take, List.length_drop]
        by_cases hl : k * s + j < l.length
        · rw [if_pos hl, if_pos (by omega)]
        · rw [if_neg hl, if_neg (by omega)]
      · rw [if_neg (by omega), if_neg hjm, List.getElem?_take_of_lt hm, List.getElem?_drop]
    · rw [if_neg hk, List.getElem?_take_of_lt hm, List.getElem?_drop, if_neg]
      intro e
      apply hk
      have h1 : (i * s + j) / s = i := by rw [Nat.mul_comm, Nat.mul_add_div (by omega), Nat.div_eq_of_lt hj, Nat.add_zero]
      have h2 : (k * s + m) / s = k := by rw [Nat.mul_comm, Nat.mul_add_div (by omega), Nat.div_eq_of_lt hm, Nat.add_zero]
      rw [e] at h1
      exact h2.symm.trans h1
  · rw [List.getElem?_take_eq_none (by omega)]
    split
    · rw [List.getElem?_set, List.getElem?_take_eq_none (by omega)]
      rw [if_neg (by omega)]
    · rw [List.getElem?_take_eq_none (by omega)]
section
variable {α : Type} {f : α → List Value} {n : Nat} {hn : 0 < n} {hl : ∀ x, (f x).length = n} {h1 : ∀ x, ∀ u ∈ f x, u.oneCell' = true} {e base : Nat} {P : Nat → Prop} {w : World} {g m cap : Nat} {xs : List α}
theorem Flat.setEnc {cells : List Value} {w' : World} (h : Flat (Kn.enc f n hn hl h1) P w xs cells) (i : Nat) (hi : i < xs.length) (j : Nat) (hj : j < n) (u : Value) (y : α) (hy : f y = (f xs[i]).set j u) : Flat (Kn.enc f n hn hl h1) P w' (xs.set i y) (cells.set (i * n + j) u) := by
  refine ⟨by rw [List.length_set, List.length_set]; exact h.1, fun k hk => ?_⟩
  have hk' : k < xs.length := by simpa using hk
  have hr : (cells.drop (k * n)).take n = f xs[k] := h.2 k hk'
  show ((cells.set (i * n + j) u).drop (k * n)).take n = f (xs.set i y)[k]
  rw [take_drop_set hj, hr]
  by_cases hki : k = i
  · subst hki
    rw [if_pos rfl, List.getElem_set_self, hy]
  · rw [if_neg hki, List.getElem_set_ne (fun h => hki h.symm)]
/-- a cell of a row of the call's own is written -/
theorem Own.setEnc (h : Own (Kn.enc f n hn hl h1) e base P w (.slice (some ⟨g, 0, none⟩) m cap) xs) (i : Nat) (hi : i < xs.length) (j : Nat) (hj : j < n) (u : Value) (y : α) (hy : f y = (f xs[i]).set j u) :
    Own (Kn.enc f n hn hl h1) e base P (w.setCell ⟨g, i * n + j, none⟩ u) (.slice (some ⟨g, 0, none⟩) m cap) (xs.set i y) := by
  obtain ⟨cells, ho, hf⟩ := h
  have hm : m = xs.length := by
    rcases ho.2 with ⟨hv, _⟩ | ⟨g', cap', cur, hv, _⟩
    · cases hv
    · cases hv; rfl
  subst hm
  refine ⟨cells.set (i * n + j) u, ?_, hf.setEnc i hi j hj u y hy⟩
  rw [List.length_set]
  exact (ho.stored (i * n + j) u).1
end

/-- an append leaves what the old slice reads -/
theorem run_append_keep {P : Program} (w : World) (base : Nat) (t ty e : TypeId) (i : TypeInfo) (z : Value) (ht : P.underlying t = some (.slice e)) (hi : P.info? e = some i) (hz : i.zero = some z)
    (hsz : 0 < i.size) (v : Value) (n : Nat) (xs : List Value) (hown : w.ownsRow base e i.size v n xs)
    (a : Addr) (m c : Nat) (news : List Value) (hl : news.length = m * i.size) (hnews : ∀ j u, news[j]? = some u → w.cell? (a.add j) = some u) (h1 : ∀ u ∈ news, u.oneCell' = true)
    (h63 : n + m ≤ maxLen) (hbytes : (n + m) * i.bytes ≤ 140737488355328) {v' : Value} {w' : World} (hrun : (Builtin.append_ #[t, t] ty #[v, .slice (some a) m c]).run P w = .ok v' w') : w'.ownsRow base e i.size v n xs := by
  have hsmall : n + m ≤ 9223372036854775807 := by simp only [maxLen] at h63; omega
  rcases hown.2 with ⟨rfl, rfl⟩ | ⟨g, cap, cur, rfl, hbg, hg, hnc, hcm, hcs, htake⟩
  · have hx : xs = [] := List.eq_nil_of_length_eq_zero (by simpa using hown.1)
    subst hx
    exact World.ownsRow_nil _ _ _ _
  · by_cases hroom : n + m ≤ cap
    · have hfit : n * i.size + news.length ≤ cur.size := by rw [hl, hcs, ← Nat.add_mul]; exact Nat.mul_le_mul_right _ hroom
      have hr := run_append_room (P := P) w t ty e i ht hi g n cap cur hg a m c news hl hnews h1 hroom hfit
      rw [hr] at hrun
      injection hrun with hv hw
      subst hw
      refine ⟨hown.1, .inr ⟨g, cap, _, rfl, hbg, setRow_heap w g cur _ e _ hg, hnc, hcm, ?_, ?_⟩⟩
      · simp only [List.size_toArray, List.length_append, List.length_take, List.length_drop, Array.length_toList]
        omega
      · rw [htake, List.append_assoc]
        exact List.take_left' hown.1
    · have holds : ∀ j u, xs[j]? = some u → w.cell? ((⟨g, 0, none⟩ : Addr).add j) = some u := hown.cells (g := g) rfl
      have hr := run_append_grow (P := P) w t ty e i z ht hi hz ⟨g, 0, none⟩ n cap xs hown.1 holds a m c news hl hnews (by omega) (by omega) (growslice_fits (by omega) hbytes)
      rw [hr] at hrun
      injection hrun with hv hw
      subst hw
      exact ⟨hown.1, .inr ⟨g, cap, cur, rfl, hbg, (by first | exact heap_alloc_old w.drew _ _ (Array.getElem?_eq_some_iff.1 hg).1 | exact heap_alloc_old w.drew _ (Array.getElem?_eq_some_iff.1 hg).1 : _ = w.drew.heap[g]?).trans hg, hnc, hcm, hcs, htake⟩⟩
section
variable {P : Program} {w : World} {α : Type} {d : Kn α} {t e : TypeId} {bytes : Nat}
theorem run_app_keep (I : Elem P t e d bytes) (hd : d.Plain) (base : Nat) (ty : TypeId) {R S : Nat → Prop} {v : Value} {xs ys : List α} (hown : Own d e base R w v xs)
    {A : Option Addr} {c : Nat} (hr : Row d S w A ys) (hne : ys ≠ []) (hb : (xs.length + ys.length) * bytes ≤ 140737488355328) (hbase : base ≤ w.heap.size) :
    ∃ v' w', (Builtin.append_ #[t, t] ty #[v, .slice A ys.length c]).run P w = .ok v' w' ∧ Appended d e base R w w' v v' (xs ++ ys) ∧ Own d e base R w' v xs := by
  obtain ⟨v', w', hrun, ha⟩ := run_app_plain I hd base ty hown hr hb hbase
  obtain ⟨i, z, h1, h2, h3, h4, h5⟩ := I.info
  obtain ⟨cells, ho, hf⟩ := hown
  obtain ⟨ad, rfl, _, news, hf2, hc2⟩ := hr hne
  have ho' : w.ownsRow base e i.size v xs.length cells := by rw [h3]; exact ho
  have := run_append_keep (P := P) w base t ty e i z I.und h1 h2 (by rw [h3]; exact d.pos) v xs.length cells ho' ad ys.length c news (by rw [h3]; exact hf2.1) hc2 hf2.one (len_ok I.pos hb) (by rw [h4]; exact hb) hrun
  rw [h3] at this
  exact ⟨v', w', hrun, ha, cells, this, hf.plain hd⟩
variable {ops : Array Oper} {rest : List Oper} {o : Oper} {a : Act} {Q : Exit → Act → World → Prop}
theorem wpList_app_keep (I : Elem P t e d bytes) (hd : d.Plain) (base : Nat) (hgd : o.guard = none) (s x : Operand) (ho : o.op = .call { callee := .builtin .append, args := #[s, x], argTypes := #[t, t] })
    {R S : Nat → Prop} {v : Value} {xs ys : List α} (hs : a.eval s = v) (hown : Own d e base R w v xs) {A : Option Addr} {m c : Nat} (hx : a.eval x = .slice A m c) (hm : m = ys.length) (hr : Row d S w A ys) (hne : ys ≠ [])
    (hb : (xs.length + ys.length) * bytes ≤ 140737488355328) (hbase : base ≤ w.heap.size)
    (h : ∀ A' c' w', Appended d e base R w w' v (.slice A' (xs.length + ys.length) c') (xs ++ ys) → Own d e base R w' v xs → wpList P ops Q rest (a.put o.dst (.slice A' (xs.length + ys.length) c')) w') : wpList P ops Q (o :: rest) a w := by
  subst hm
  obtain ⟨v', w', hrun, ha, hk⟩ := run_app_keep I hd base o.type hown hr hne hb hbase
  obtain ⟨A', c', hv', _⟩ := ha.own.row
  rw [List.length_append] at hv'
  subst hv'
  exact wpList_plain hgd fun _ hK => wp_of_run s x ho hs hx hrun (hK _ _ (h A' c' w' ha hk))
end
section
variable {P : Program} {w : World} {α : Type} {d : Kn α} {t e : TypeId} {bytes : Nat} {ops : Array Oper} {o : Oper} {a : Act} {K : Act → World → Prop} {Q : Exit → Act → World → Prop}
theorem step_app_keep {E : Prop} (I : Elem P t e d bytes) (hd : d.Plain) (base : Nat) (hgd : o.guard = none) (s x : Operand) (ho : o.op = .call { callee := .builtin .append, args := #[s, x], argTypes := #[t, t] })
    {R S : Nat → Prop} {v : Value} {xs ys : List α} (hs : a.eval s = v) (hown : Own d e base R w v xs) {A : Option Addr} {m c : Nat} (hx : a.eval x = .slice A m c) (hm : m = ys.length) (hr : Row d S w A ys) (hne : ys ≠ [])
    (hb : (xs.length + ys.length) * bytes ≤ 140737488355328) (hbase : base ≤ w.heap.size)
    (h : ∀ A' c' w', Appended d e base R w w' v (.slice A' (xs.length + ys.length) c') (xs ++ ys) → Own d e base R w' v xs → K (a.put o.dst (.slice A' (xs.length + ys.length) c')) w') : if Region.wanted o (yielded ops a.tmps) = true then Oper.wp P o a w K Q else E := by
  subst hm
  obtain ⟨v', w', hrun, ha, hk⟩ := run_app_keep I hd base o.type hown hr hne hb hbase
  have hw : Region.wanted o (yielded ops a.tmps) = true := by simp [Region.wanted, hgd]
  rw [if_pos hw]
  obtain ⟨A', c', hv', _⟩ := ha.own.row
  rw [List.length_append] at hv'
  subst hv'
  exact wp_of_run s x ho hs hx hrun (h A' c' w' ha hk)
end
section
variable {α : Type} {f : α → List Value} {n : Nat} {hn : 0 < n} {hl : ∀ x, (f x).length = n} {h1 : ∀ x, ∀ u ∈ f x, u.oneCell' = true} {e base : Nat} {P : Nat → Prop} {w : World} {g m cap : Nat} {xs : List α}
/-- one more cell of the element that is being written -/
theorem Own.setMore {i : Nat} {x : α} (h : Own (Kn.enc f n hn hl h1) e base P w (.slice (some ⟨g, 0, none⟩) m cap) (xs.set i x)) (hi : i < xs.length) (j : Nat) (hj : j < n) (u : Value) (y : α) (hy : f y = (f x).set j u) :
    Own (Kn.enc f n hn hl h1) e base P (w.setCell ⟨g, i * n + j, none⟩ u) (.slice (some ⟨g, 0, none⟩) m cap) (xs.set i y) := by
  have := h.setEnc i (by simpa using hi) j hj u y (by rw [List.getElem_set_self]; exact hy)
  rwa [List.set_set] at this
end
end Go.Proofs.YtalkdddeiebfmaaGreatDoor
