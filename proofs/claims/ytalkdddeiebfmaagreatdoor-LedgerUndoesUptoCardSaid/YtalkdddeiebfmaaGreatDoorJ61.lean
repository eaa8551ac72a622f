/- The book's place: the first object of a path and a name. -/
import Derived.Test.YtalkdddeiebfmaaGreatDoorJL
namespace Go.Proofs.YtalkdddeiebfmaaGreatDoor
open Go.RowKit

def isAt (p q : ByteArray) (h : ObjM) : Bool := decide (h.path = p) && decide (h.name = q)
def placeO (l : List ObjM) (p q : ByteArray) : Option Nat := l.findIdx? (isAt p q)
def placeZ (l : List ObjM) (p q : ByteArray) : Int := match placeO l p q with | some i => (i : Int) | none => -1
theorem placeO_hit {l : List ObjM} {p q : ByteArray} {i : Nat} (hi : i < l.length) (h : ∀ x ∈ l.take i, isAt p q x = false) (he : isAt p q l[i] = true) : placeO l p q = some i := by
  unfold placeO
  rw [List.findIdx?_eq_some_iff_getElem]
  refine ⟨hi, he, fun j hj => ?_⟩
  rw [h _ (List.mem_iff_getElem.2 ⟨j, by rw [List.length_take]; omega, by rw [List.getElem_take]⟩)]
  simp
theorem placeO_none {l : List ObjM} {p q : ByteArray} (h : ∀ x ∈ l, isAt p q x = false) : placeO l p q = none := by
  unfold placeO
  rw [List.findIdx?_eq_none_iff]
  exact h
theorem take_all_false {l : List ObjM} {p q : ByteArray} {i : Nat} (hi : i < l.length) (h : ∀ x ∈ l.take i, isAt p q x = false) (he : isAt p q l[i] = false) : ∀ x ∈ l.take (i + 1), isAt p q x = false := fun x hx => by
  rw [List.take_succ_eq_append_getElem hi, List.mem_append] at hx
  rcases hx with hx | hx
  · exact h x hx
  · rw [List.mem_singleton.1 hx]; exact he
set_option maxRecDepth 100000 in
theorem place_any (l : List ObjM) (n : Nat) (hn : l.length = n) (A : Option Addr) (c : Nat) (P : Nat → Prop) (o : ObjM) (L : Option Addr) (no mo : Nat) (B : Option Addr) (nb cb : Nat) (w : World) (hr : Row kObj P w A l) (hl : n ≤ 9223372036854775806) :
    Calls Tryz.prog 50 #[.slice A n c, .agg #[.string o.path, .string o.name, .slice L no mo, .int .i64 o.prio, .int .i64 o.dl, .slice B nb cb, .int .i64 o.ver]] w fun e w' => e = .returned (.int .i64 (placeZ l o.path o.name)) ∧ Below w.heap.size w w' := by
  subst hn
  have hb0 : Below w.heap.size w (w.alloc (.cells #[.string o.path, .string o.name, .slice L no mo, .int .i64 o.prio, .int .i64 o.dl, .slice B nb cb, .int .i64 o.ver] 26)) := (Below.refl _ _).alloc (Nat.le_refl _) _
  have hx := OBox.of (heap_alloc_new w (.cells #[.string o.path, .string o.name, .slice L no mo, .int .i64 o.prio, .int .i64 o.dl, .slice B nb cb, .int .i64 o.ver] 26))
  obtain ⟨w0, hw0⟩ : ∃ w0, w.alloc (.cells #[.string o.path, .string o.name, .slice L no mo, .int .i64 o.prio, .int .i64 o.dl, .slice B nb cb, .int .i64 o.ver] 26) = w0 := ⟨_, rfl⟩
  rw [hw0] at hb0 hx
  have HB0 := Lib.hid hb0
  have HX := Lib.hid hx
  have HR := Lib.hid (hr.below hb0)
  clear hb0 hx hr
  go_enter Tryz.func50, Tryz.ntmps50
  go_wp2
  clear hw0
  go_loopw [5] (fun iv wr => ∃ i : Nat, iv = .int .i64 i ∧ i ≤ l.length ∧ Hid (∀ x ∈ l.take i, isAt o.path o.name x = false) ∧ Hid (Below w0.heap.size w0 wr)) (fun iv _ => l.length - (intOf iv).toNat)
  case atStart => exact ⟨0, rfl, Nat.zero_le _, by simp [Hid], Below.refl _ _⟩
  case round =>
    obtain ⟨i, rfl, hi, hno, hb⟩ := hrel
    obtain ⟨wo, rfl⟩ : ∃ wo, wo = wr := ⟨_, rfl⟩
    have y0 := (HX.out.below hb.out).c0
    have y1 := (HX.out.below hb.out).c1
    have HE := Lib.hid (HB0.out.trans (hb.out.mono HB0.out.size))
    by_cases hlt : i < l.length
    · obtain ⟨a, L1, m1, B1, c1, rfl, -, hoa⟩ := obj_at (HR.out.below hb.out) i hlt
      have x0 := hoa.c0
      have x1 := hoa.c1
      have hlti : (i : Int) < (l.length : Int) := by omega
      have hi0 : (0 : Int) ≤ (i : Int) := by omega
      have HBX := Lib.hid hb.out
      by_cases he : l[i].path = o.path
      · have e1 : (l[i].path.toList == o.path.toList) = true := by rw [bytes_beq]; simpa using he
        by_cases hf : l[i].name = o.name
        · have e2 : (l[i].name.toList == o.name.toList) = true := by rw [bytes_beq]; simpa using hf
          have HRES := Lib.hid (placeO_hit hlt hno.out (by unfold isAt; rw [he, hf]; simp))
          clear he hf hno hb hoa
          go_wp2
          go_quiet (fail)
          go_wp2
          go_ret
          exact ⟨by unfold placeZ; rw [HRES.out]; rfl, below_drewN HE.out _⟩
        · have e2 : (l[i].name.toList == o.name.toList) = false := by rw [bytes_beq]; simpa using hf
          have HN := Lib.hid (take_all_false hlt hno.out (by unfold isAt; simp [hf]))
          clear he hf hno hb hoa
          go_wp2
          go_quiet (fail)
          go_wp2
          go_roundw
          case rel => exact ⟨i + 1, by go_num, hlt, HN.out, below_drewN HBX.out _⟩
          case measure => simp [intOf]; omega
      · have e1 : (l[i].path.toList == o.path.toList) = false := by rw [bytes_beq]; simpa using he
        have HN := Lib.hid (take_all_false hlt hno.out (by unfold isAt; simp [he]))
        clear he hno hb hoa
        go_wp2
        go_quiet (fail)
        go_wp2
        go_roundw
        case rel => exact ⟨i + 1, by go_num, hlt, HN.out, below_drewN HBX.out _⟩
        case measure => simp [intOf]; omega
    · have hge : ¬ ((i : Int) < (l.length : Int)) := by omega
      have HRES := Lib.hid (placeO_none (l := l) (p := o.path) (q := o.name) (by
        have h := hno.out
        rw [List.take_of_length_le (by omega)] at h
        exact h))
      clear hno hb
      go_wp2
      go_ret
      exact ⟨by unfold placeZ; rw [HRES.out]; rfl, HE.out⟩
end Go.Proofs.YtalkdddeiebfmaaGreatDoor
