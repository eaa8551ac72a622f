/- (*Hub).Since. -/
import Derived.Test.YtdchffghgajbfaaDoorH1
import Derived.Test.YtdchffghgajbfaaDoorS2
namespace Go.Proofs.YtdchffghgajbfaaDoor
open Go.RowKit

def SincePost (res : List Ev × Int × Int) (w : World) (e : Ending) (w' : World) : Prop :=
  ∃ A c, e = .returned (.tuple #[.slice A res.1.length c, .int .i64 res.2.1, .int .i64 res.2.2]) ∧ Own kEvent 41 w.heap.size (fun _ => True) w' (.slice A res.1.length c) res.1 ∧ Below w.heap.size w w'
theorem SincePost.none_ {res : List Ev × Int × Int} {n m : Int} (h : res = ([], n, m)) {w w' : World} (hb : Below w.heap.size w w') : SincePost res w (.returned (.tuple #[.slice none 0 0, .int .i64 n, .int .i64 m])) w' := by
  subst h
  exact ⟨none, 0, rfl, Own.nil _ _ _ _ _, hb⟩
theorem SincePost.mk_ {res : List Ev × Int × Int} {l : List Ev} {n m : Int} (h : res = (l, n, m)) {w w' : World} {A : Option Addr} {c : Nat} (ho : Own kEvent 41 w.heap.size (fun _ => True) w' (.slice A l.length c) l) (hb : Below w.heap.size w w') : SincePost res w (.returned (.tuple #[.slice A l.length c, .int .i64 n, .int .i64 m])) w' := by
  subst h
  exact ⟨A, c, rfl, ho, hb⟩

theorem SincePost.drewN {res : List Ev × Int × Int} {w w' : World} {e : Ending} (h : SincePost res w e w') (n : Nat) : SincePost res w e (w'.drewN n) := by
  obtain ⟨A, c, h1, h2, h3⟩ := h
  exact ⟨A, c, h1, h2.below (below_drewN (Below.refl _ _) n), below_drewN h3 n⟩

set_option maxRecDepth 100000 in
theorem since_most {F : Nat → Prop} (g : Nat) (h : HubS) (v most : Int) (path : ByteArray) (w : World) (k : IsHub F w g h) (hmost : most < 1 ∨ most > 100) :
    Calls Tryd.prog 22 #[.pointer (some ⟨g, 0, none⟩), .int .i64 v, .string path, .int .i64 most] w (SincePost (hubSince h v path most) w) := by
  have hres := Lib.hid (fun w' hb => SincePost.none_ (res := hubSince h v path most) (w := w) (w' := w') (n := 0) (m := 1) (by unfold hubSince; rw [if_pos hmost]) hb)
  have hb0 := Lib.hid ((Below.refl w.heap.size w).alloc (Nat.le_refl _) (.cells #[.string path] 9))
  rcases hmost with h1 | h1
  · have e1 : decide (most < 1) = true := by simpa using h1
    go_enter Tryd.func22, Tryd.ntmps22
    go_wp2
    go_ret3
    exact hres.out _ hb0.out
  · have e1 : decide (most < 1) = false := by simp; omega
    have e2 : decide (most > 100) = true := by simpa using h1
    go_enter Tryd.func22, Tryd.ntmps22
    go_wp2
    go_ret3
    exact hres.out _ hb0.out
set_option maxRecDepth 100000 in
theorem since_errs {F : Nat → Prop} (g : Nat) (h : HubS) (v most : Int) (path : ByteArray) (w : World) (hm : Ml w) (k : IsHub F w g h) (hmost : ¬ (most < 1 ∨ most > 100)) (he : isPath path = false ∨ v < h.low ∨ v > h.high) :
    Calls Tryd.prog 22 #[.pointer (some ⟨g, 0, none⟩), .int .i64 v, .string path, .int .i64 most] w (SincePost (hubSince h v path most) w) := by
  have hb0 := (Below.refl w.heap.size w).alloc (Nat.le_refl _) (.cells #[.string path] 9)
  have hm1 := hm.below hb0
  have e1 : decide (most < 1) = false := by simp; omega
  have e2 : decide (most > 100) = false := by simp; omega
  have hcs : ∀ w1, Below (w.alloc (.cells #[.string path] 9)).heap.size (w.alloc (.cells #[.string path] 9)) w1 → ∃ vv, HubAt w1 g h vv := fun w1 hb1 => by
    obtain ⟨_, _, vv, hg, _⟩ := (k.below hb0).below hb1
    exact ⟨vv, hubAt hg⟩
  have hlen := k.2.1.len
  have HCS := Lib.hid hcs
  have HB0 := Lib.hid hb0
  clear hb0 hcs
  rcases errPath_cases path with ⟨hp, ep⟩ | ⟨hp, ep⟩
  · have HP := Lib.hid ep
    by_cases hlo : v < h.low
    · have hres := Lib.hid (fun w' hb => SincePost.none_ (res := hubSince h v path most) (w := w) (w' := w') (n := 0) (m := 220) (by unfold hubSince; rw [if_neg hmost, if_neg (by rw [hp]; simp), if_pos hlo]) hb)
      have e3 : decide (v < h.low) = true := by simpa using hlo
      clear ep hp hmost he hlen
      go_enter Tryd.func22, Tryd.ntmps22
      go_wp2_with (go_at_call 24; refine (path_any _ _ hm1).mono ?_; rintro e w1 ⟨rfl, hb1⟩; rw [HP.out]; have HB1 := Lib.hid hb1; obtain ⟨bc, bf⟩ := bcell hb1; obtain ⟨vv, c0, c1, c2, c3, _⟩ := HCS.out _ hb1)
      go_ret3
      exact hres.out _ (HB0.out.trans (HB1.out.mono HB0.out.size))
    · have hhi : v > h.high := by rcases he with h1 | h1 | h1 <;> simp_all
      have hres := Lib.hid (fun w' hb => SincePost.none_ (res := hubSince h v path most) (w := w) (w' := w') (n := 0) (m := 221) (by unfold hubSince; rw [if_neg hmost, if_neg (by rw [hp]; simp), if_neg hlo, if_pos hhi]) hb)
      have e3 : decide (v < h.low) = false := by simpa using hlo
      have e4 : decide (v > h.high) = true := by simpa using hhi
      clear ep hp hmost he hlen
      go_enter Tryd.func22, Tryd.ntmps22
      go_wp2_with (go_at_call 24; refine (path_any _ _ hm1).mono ?_; rintro e w1 ⟨rfl, hb1⟩; rw [HP.out]; have HB1 := Lib.hid hb1; obtain ⟨bc, bf⟩ := bcell hb1; obtain ⟨vv, c0, c1, c2, c3, _⟩ := HCS.out _ hb1)
      go_ret3
      exact hres.out _ (HB0.out.trans (HB1.out.mono HB0.out.size))
  · have hres := Lib.hid (fun w' hb => SincePost.none_ (res := hubSince h v path most) (w := w) (w' := w') (n := 0) (m := 41) (by unfold hubSince; rw [if_neg hmost, if_pos hp]) hb)
    have HP := Lib.hid ep
    clear ep hp hmost he hlen
    go_enter Tryd.func22, Tryd.ntmps22
    go_wp2_with (go_at_call 24; refine (path_any _ _ hm1).mono ?_; rintro e w1 ⟨rfl, hb1⟩; rw [HP.out]; have HB1 := Lib.hid hb1; obtain ⟨bc, bf⟩ := bcell hb1; obtain ⟨vv, c0, c1, c2, c3, _⟩ := HCS.out _ hb1)
    go_ret3
    exact hres.out _ (HB0.out.trans (HB1.out.mono HB0.out.size))
end Go.Proofs.YtdchffghgajbfaaDoor
