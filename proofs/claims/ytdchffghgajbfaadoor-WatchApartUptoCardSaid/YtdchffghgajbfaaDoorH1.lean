/- The hub: how it lies in memory; New, Low, High, right. -/
import Derived.Test.YtdchffghgajbfaaDoorH0
import Derived.Test.YtdchffghgajbfaaDoorK3
import Derived.Test.YtdchffghgajbfaaDoorA2
namespace Go.Proofs.YtdchffghgajbfaaDoor
open Go.RowKit

/-- A hub at block g; all its blocks are of F. -/
def IsHub (F : Nat → Prop) (w : World) (g : Nat) (h : HubS) : Prop :=
  F g ∧ HubOk h ∧ ∃ vv, w.heap[g]? = some (.cells #[.int .i64 h.low, .int .i64 h.high, vv, .int .i64 h.count] 95 (0, 0)) ∧
    OwnQ (Kn.slice kEvent) 29 F (fun k => F k ∧ k ≠ g ∧ vv.ownBlock ≠ some k) w vv h.vs

section
variable {F F' : Nat → Prop} {w w' : World} {g : Nat} {h : HubS}
theorem IsHub.move (k : IsHub F w g h) (hm : ∀ b, F b → b < w.heap.size → w'.heap[b]? = w.heap[b]?) : IsHub F w' g h := by
  obtain ⟨h1, h2, vv, h3, h4⟩ := k
  have hl := h4.lt
  exact ⟨h1, h2, vv, (hm g h1 (Array.getElem?_eq_some_iff.1 h3).1).trans h3, h4.move fun b hb hlt => hm b (hb.elim (fun e => (hl b e).1) (fun e => e.1)) hlt⟩
theorem IsHub.mono (k : IsHub F w g h) (hf : ∀ b, F b → F' b) : IsHub F' w g h := by
  obtain ⟨h1, h2, vv, h3, h4⟩ := k
  exact ⟨hf g h1, h2, vv, h3, h4.mono hf fun b hb => ⟨hf b hb.1, hb.2⟩⟩
theorem IsHub.below (k : IsHub F w g h) (hb : Below w.heap.size w w') : IsHub F w' g h := k.move fun b _ hl => hb.block b hl
theorem IsHub.turn {S : Nat → Prop} (k : IsHub F w g h) (ht : Turn S w w') (hs : ∀ b, F b → ¬ S b) : IsHub F w' g h := k.move fun b hb hl => ht.block b hl (hs b hb)
theorem IsHub.bound (k : IsHub F w g h) : IsHub (fun b => F b ∧ b < w.heap.size) w g h := by
  obtain ⟨h1, h2, vv, h3, h4⟩ := k
  have hlt := (Array.getElem?_eq_some_iff.1 h3).1
  exact ⟨⟨h1, hlt⟩, h2, vv, h3, h4.bound.mono (fun _ h => h) fun b hb => ⟨⟨hb.1.1, hb.2⟩, hb.1.2⟩⟩
end

def NewPost (h : HubS) (w : World) (e : Ending) (w' : World) : Prop :=
  ∃ g, e = .returned (.pointer (some ⟨g, 0, none⟩)) ∧ w.heap.size ≤ g ∧ IsHub (fun b => b = g) w' g h ∧ Below w.heap.size w w'
theorem new_any (v : Int) (w : World) (hv : -9223372036854775808 ≤ v ∧ v ≤ 9223372036854775807) : Calls Tryd.prog 15 #[.int .i64 v] w (NewPost (hubNew v) w) := by
  obtain ⟨hv1, hv2⟩ := hv
  go_enter Tryd.func15, Tryd.ntmps15
  go_wp2
  go_ret
  exact ⟨w.heap.size, rfl, Nat.le_refl _, ⟨rfl, hubNew_ok v, _, heap_alloc_new w _, OwnQ.nil _ _ _ _ _⟩, (Below.refl _ _).alloc (Nat.le_refl _) _⟩

/-- the fields of a hub, as the walk reads them -/
structure HubAt (w : World) (g : Nat) (h : HubS) (vv : Value) : Prop where
  c0 : w.cell? ⟨g, 0, none⟩ = some (.int .i64 h.low)
  c1 : w.cell? ⟨g, 1, none⟩ = some (.int .i64 h.high)
  c2 : w.cell? ⟨g, 2, none⟩ = some vv
  c3 : w.cell? ⟨g, 3, none⟩ = some (.int .i64 h.count)
  fz : ∀ j, w.frozen? ⟨g, j, none⟩ = false
theorem hubAt {w : World} {g : Nat} {h : HubS} {vv : Value} (hg : w.heap[g]? = some (.cells #[.int .i64 h.low, .int .i64 h.high, vv, .int .i64 h.count] 95 (0, 0))) : HubAt w g h vv :=
  ⟨(cell_of_row _ _ _ _ _ _ hg).trans rfl, (cell_of_row _ _ _ _ _ _ hg).trans rfl, (cell_of_row _ _ _ _ _ _ hg).trans rfl, (cell_of_row _ _ _ _ _ _ hg).trans rfl, fun j => by simp [World.frozen?, hg]⟩

theorem low_any {F : Nat → Prop} (g : Nat) (h : HubS) (w : World) (k : IsHub F w g h) : Calls Tryd.prog 19 #[.pointer (some ⟨g, 0, none⟩)] w fun e w' => e = .returned (.int .i64 h.low) ∧ w = w' := by
  obtain ⟨_, _, vv, hg, _⟩ := k
  obtain ⟨c0, c1, c2, c3, _⟩ := hubAt hg
  clear hg
  go_enter Tryd.func19, Tryd.ntmps19
  go_wp2
  go_ret
  exact ⟨rfl, rfl⟩
theorem high_any {F : Nat → Prop} (g : Nat) (h : HubS) (w : World) (k : IsHub F w g h) : Calls Tryd.prog 20 #[.pointer (some ⟨g, 0, none⟩)] w fun e w' => e = .returned (.int .i64 h.high) ∧ w = w' := by
  obtain ⟨_, _, vv, hg, _⟩ := k
  obtain ⟨c0, c1, c2, c3, _⟩ := hubAt hg
  clear hg
  go_enter Tryd.func20, Tryd.ntmps20
  go_wp2
  go_ret
  exact ⟨rfl, rfl⟩

theorem isEmpty_dec {α : Type} [DecidableEq α] (l : List α) : l.isEmpty = decide (l = []) := by cases l <;> simp
set_option maxRecDepth 100000 in
theorem right_any (x : Ev) (w : World) (hm : Ml w) :
    Calls Tryd.prog 81 #[.agg #[.int .i64 x.ver, .int .i64 x.kind, .bool x.gone, .string x.path, .string x.name]] w fun e w' => e = .returned (.bool (rightE x)) ∧ Below w.heap.size w w' := by
  have hb0 : Below w.heap.size w (w.alloc (.cells #[.int .i64 x.ver, .int .i64 x.kind, .bool x.gone, .string x.path, .string x.name] 41)) := (Below.refl _ _).alloc (Nat.le_refl _) _
  have hm1 := hm.below hb0
  have HB0 := Lib.hid hb0
  clear hb0
  by_cases h1 : x.kind < 0
  · have hr := Lib.hid (show rightE x = false by unfold rightE; rw [show decide (0 ≤ x.kind) = false by simp; omega]; simp)
    have e1 : decide (x.kind < 0) = true := by simpa using h1
    go_enter Tryd.func81, Tryd.ntmps81
    go_wp2
    go_ret
    exact ⟨by rw [hr.out]; rfl, HB0.out⟩
  by_cases h2 : x.kind > 4
  · have hr := Lib.hid (show rightE x = false by unfold rightE; rw [show decide (x.kind ≤ 4) = false by simp; omega]; simp)
    have e1 : decide (x.kind < 0) = false := by simpa using h1
    have e2 : decide (x.kind > 4) = true := by simpa using h2
    go_enter Tryd.func81, Tryd.ntmps81
    go_wp2
    go_ret
    exact ⟨by rw [hr.out]; rfl, HB0.out⟩
  have e1 : decide (x.kind < 0) = false := by simpa using h1
  have e2 : decide (x.kind > 4) = false := by simpa using h2
  have hk : rightE x = (isPath x.path && (if x.kind = 0 then decide (x.name.data.toList = []) else nameB x.name)) := by
    unfold rightE nameB
    rw [show decide (0 ≤ x.kind) = true by simp; omega, show decide (x.kind ≤ 4) = true by simp; omega]; simp
  rcases errPath_cases x.path with ⟨hp, ep⟩ | ⟨hp, ep⟩
  · rw [hp, Bool.true_and] at hk
    have HP := Lib.hid ep
    by_cases h0 : x.kind = 0
    · rw [if_pos h0] at hk
      have e3 : (x.kind == 0) = true := by simpa using h0
      have HK := Lib.hid hk
      clear hk ep hp h1 h2 h0
      go_enter Tryd.func81, Tryd.ntmps81
      go_wp2_with (go_at_call 24; refine (path_any _ _ hm1).mono ?_; rintro e w1 ⟨rfl, hb1⟩; rw [HP.out]; have HB1 := Lib.hid hb1; obtain ⟨bc, bf⟩ := bcell hb1)
      go_ret
      exact ⟨by rw [HK.out, ← toList_eq]; simp [isEmpty_dec], HB0.out.trans (HB1.out.mono HB0.out.size)⟩
    · rw [if_neg h0] at hk
      have e3 : (x.kind == 0) = false := by simpa using h0
      have HK := Lib.hid hk
      clear hk ep hp h1 h2 h0
      go_enter Tryd.func81, Tryd.ntmps81
      go_wp2_with (first
        | (go_at_call 24; refine (path_any _ _ hm1).mono ?_; rintro e w1 ⟨rfl, hb1⟩; rw [HP.out]; have HB1 := Lib.hid hb1; obtain ⟨bc, bf⟩ := bcell hb1)
        | (go_at_call 85; refine (name_any _ _).mono ?_; rintro e w2 ⟨rfl, hb2⟩; have HB2 := Lib.hid hb2; clear hb2))
      go_ret
      exact ⟨by rw [HK.out]; rfl, HB0.out.trans ((HB1.out.trans (HB2.out.mono HB1.out.size)).mono HB0.out.size)⟩
  · rw [hp, Bool.false_and] at hk
    have HP := Lib.hid ep
    have HK := Lib.hid hk
    clear hk ep hp h1 h2
    go_enter Tryd.func81, Tryd.ntmps81
    go_wp2_with (go_at_call 24; refine (path_any _ _ hm1).mono ?_; rintro e w1 ⟨rfl, hb1⟩; rw [HP.out]; have HB1 := Lib.hid hb1; clear hb1)
    go_ret
    exact ⟨by rw [HK.out]; rfl, HB0.out.trans (HB1.out.mono HB0.out.size)⟩
end Go.Proofs.YtdchffghgajbfaaDoor
