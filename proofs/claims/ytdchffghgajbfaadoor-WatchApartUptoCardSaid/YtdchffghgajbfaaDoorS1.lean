/- slices.Clone, slices.IndexFunc, slices.DeleteFunc at events; the closure of Since. -/
import Derived.Test.YtdchffghgajbfaaDoorA2
import Derived.Test.YtdchffghgajbfaaDoorE
import Derived.Deep.DeepFit
namespace Go.Proofs.YtdchffghgajbfaaDoor
open Go.RowKit

def CloneEv (w : World) (xs : List Ev) (e : Ending) (w' : World) : Prop :=
  ∃ A c, e = .returned (.slice A xs.length c) ∧ Own kEvent 41 w.heap.size (fun _ => True) w' (.slice A xs.length c) xs ∧ Below w.heap.size w w'
theorem CloneEv.mk_ {w w' : World} {xs : List Ev} {v : Value} (ho : Own kEvent 41 w.heap.size (fun _ => True) w' v xs) (hb : Below w.heap.size w w') : CloneEv w xs (.returned v) w' := by
  obtain ⟨A, c, rfl, _⟩ := ho.row
  exact ⟨A, c, rfl, ho, hb⟩
set_option maxRecDepth 100000 in
theorem evClone_any (A : Option Addr) (c : Nat) (P : Nat → Prop) (xs : List Ev) (w : World) (hr : Row kEvent P w A xs) (hb : xs.length * 56 ≤ 140737488355328) :
    Calls Tryd.prog 61 #[.slice A xs.length c] w (CloneEv w xs) := by
  rcases A with _ | a
  · have hx : xs = [] := by
      by_cases h : xs = []
      · exact h
      · obtain ⟨a, ha, _⟩ := hr h; cases ha
    subst hx
    have heq := fun w0 => Lib.run_eql_slice_nil (P := Tryd.prog) w0 29 41 none 0 c 0 0 Tryd.underlying29
    go_enter Tryd.func61, Tryd.ntmps61
    go_wp2
    go_ret
    exact CloneEv.mk_ (Own.nil _ _ _ _ _) (Below.refl _ _)
  · have heq := fun w0 => Lib.run_eql_slice_nil (P := Tryd.prog) w0 29 41 (some a) xs.length c 0 0 Tryd.underlying29
    go_enter Tryd.func61, Tryd.ntmps61
    go_wp2_with (at_builtin; refine wpList_app_plain evElem kEvent_plain w.heap.size rfl (.tmp 5) (.tmp 6) rfl (R := fun _ => True) (v := .slice (some ⟨w.heap.size, 0, none⟩) 0 0) rfl (Own.empty kEvent 41 w.heap.size _ w (Nat.le_refl _)) rfl rfl (hr.alloc _) (by simpa using hb) (by simp) ?_; intro A' c' w1 happ)
    go_ret
    exact CloneEv.mk_ (v := .slice A' ([] ++ xs).length c') (by simpa using happ.own) (happ.below ((Below.refl _ _).alloc (Nat.le_refl _) _) (by simp) (fun k hk => ownBlock_new hk))

theorem sinceFn_any (x : Ev) (gp : Nat) (path : ByteArray) (w : World) (hm : Ml w) (hp : w.cell? ⟨gp, 0, none⟩ = some (.string path)) :
    Calls Tryd.prog 62 #[.agg #[.int .i64 x.ver, .int .i64 x.kind, .bool x.gone, .string x.path, .string x.name], .pointer (some ⟨gp, 0, none⟩)] w fun e w' =>
      e = .returned (.bool (!underB x.path path)) ∧ Below w.heap.size w w' := by
  have hlt := World.block_lt_of_cell? w _ hp
  go_enter Tryd.func62, Tryd.ntmps62
  go_wp2_with (go_at_call 25; refine (under_any _ _ _ (hm.below ((Below.refl _ _).alloc (Nat.le_refl _) _))).mono ?_; rintro e w1 ⟨rfl, hb⟩)
  go_ret
  exact ⟨rfl, ((Below.refl w.heap.size w).alloc (Nat.le_refl _) _).trans (hb.mono (by simp))⟩

/-- the first place at which a predicate holds, -1 where there is none -/
def idxFn {α : Type} (p : α → Bool) (xs : List α) : Int := match xs.findIdx? p with
  | some i => i
  | none => -1
theorem idxFn_some {α : Type} {p : α → Bool} {xs : List α} {k : Nat} (hk : k < xs.length) (h : ∀ x ∈ xs.take k, p x = false) (hp : p xs[k] = true) : idxFn p xs = k := by
  unfold idxFn
  have : xs.findIdx? p = some k := by
    rw [List.findIdx?_eq_some_iff_getElem]
    refine ⟨hk, hp, fun j hj => ?_⟩
    have := h xs[j] (by rw [List.mem_take_iff_getElem]; exact ⟨j, by omega, rfl⟩)
    simp [this]
  rw [this]
theorem idxFn_none {α : Type} {p : α → Bool} {xs : List α} (h : ∀ x ∈ xs, p x = false) : idxFn p xs = -1 := by
  unfold idxFn
  rw [List.findIdx?_eq_none_iff.2 h]

def evOut (path : ByteArray) (x : Ev) : Bool := !underB x.path path

set_option maxRecDepth 100000 in
theorem evIndexFunc_any (A : Option Addr) (c gp : Nat) (P : Nat → Prop) (xs : List Ev) (path : ByteArray) (w : World) (hm : Ml w) (hp : w.cell? ⟨gp, 0, none⟩ = some (.string path)) (hr : Row kEvent P w A xs) (hn : xs.length ≤ 9223372036854775807) :
    Calls Tryd.prog 86 #[.slice A xs.length c, .func (.func 62) #[] #[.pointer (some ⟨gp, 0, none⟩)]] w fun e w' =>
      e = .returned (.int .i64 (idxFn (evOut path) xs)) ∧ Below w.heap.size w w' := by
  have hlt0 := World.block_lt_of_cell? w _ hp
  go_enter Tryd.func86, Tryd.ntmps86
  go_wp2
  go_loopw [8] (fun i wr => ∃ k : Nat, i = .int .i64 k ∧ k ≤ xs.length ∧ Below w.heap.size w wr ∧ ∀ x ∈ xs.take k, evOut path x = false) (fun i _ => xs.length - (intOf i).toNat)
  case atStart => exact ⟨0, rfl, Nat.zero_le _, Below.refl _ _, by simp⟩
  case round =>
    obtain ⟨k, rfl, hk, hbr, hall⟩ := hrel
    by_cases hlt : k < xs.length
    · obtain ⟨a, rfl, _, e0, e1, e2, e3, e4⟩ := ev_at (hr.below hbr) k hlt
      have hp1 := (hbr.cell (p := ⟨gp, 0, none⟩) hlt0).trans hp
      have hm1 := hm.below hbr
      have hsn : ∀ (b : Bool), evOut path xs[k] = b → (b = false → ∀ x ∈ xs.take (k + 1), evOut path x = false) ∧ (b = true → idxFn (evOut path) xs = k) := by
        rintro b rfl
        refine ⟨fun h x hx => ?_, fun h => idxFn_some hlt hall h⟩
        rw [List.take_succ_eq_append_getElem hlt] at hx
        rcases List.mem_append.1 hx with hx | hx
        · exact hall x hx
        · rw [List.mem_singleton.1 hx]; exact h
      have HS := Lib.hid hsn
      clear hsn hall
      cases hv : evOut path xs[k]
      · have HV := Lib.hid hv
        clear hv
        go_wp2_with (go_at_call 62; refine (sinceFn_any xs[k] gp path _ hm1 hp1).mono ?_; rintro e w2 ⟨rfl, hb2⟩; rw [show (!underB xs[k].path path) = false from HV.out])
        go_roundw
        case rel => exact ⟨k + 1, by go_num, hlt, hbr.trans (hb2.mono hbr.size), (HS.out _ HV.out).1 rfl⟩
        case measure => simp [intOf]; omega
      · have HV := Lib.hid hv
        clear hv
        go_wp2_with (go_at_call 62; refine (sinceFn_any xs[k] gp path _ hm1 hp1).mono ?_; rintro e w2 ⟨rfl, hb2⟩; rw [show (!underB xs[k].path path) = true from HV.out])
        go_ret
        exact ⟨by rw [(HS.out _ HV.out).2 rfl]; rfl, hbr.trans (hb2.mono hbr.size)⟩
    · have HI := Lib.hid (idxFn_none (p := evOut path) (xs := xs) (by rw [List.take_of_length_le (by omega)] at hall; exact hall))
      clear hall
      go_wp2
      go_ret
      exact ⟨by rw [HI.out]; rfl, hbr⟩
end Go.Proofs.YtdchffghgajbfaaDoor
