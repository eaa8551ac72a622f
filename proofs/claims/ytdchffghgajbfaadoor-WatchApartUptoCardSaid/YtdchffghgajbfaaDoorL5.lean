/- known. -/
import Derived.Test.YtdchffghgajbfaaDoorL4
namespace Go.Proofs.YtdchffghgajbfaaDoor
open Go.RowKit

def kE1 : Ev := ⟨6, 3, false, ⟨#[47, 97]⟩, ⟨#[120]⟩⟩
def kE2 : Ev := ⟨7, 3, false, ⟨#[47, 97]⟩, ⟨#[121]⟩⟩
def kE3 : Ev := ⟨7, 3, true, ⟨#[47, 98]⟩, ⟨#[122]⟩⟩
def kH1 : HubS := ⟨5, 6, [[kE1]], 1⟩
def kH2 : HubS := ⟨5, 7, [[kE1], [kE2, kE3]], 3⟩
theorem k1 : hubPush (hubNew 5) [kE1] = (kH1, 0) := by kernel_rfl
theorem k2 : hubPush kH1 [kE2, kE3] = (kH2, 0) := by kernel_rfl
theorem k3 : hubPush kH2 [kE2] = (kH2, 1) := by kernel_rfl
theorem k4 : hubSince kH2 5 ⟨#[47]⟩ 2 = ([kE1], 6, 0) := by kernel_rfl
theorem k5 : hubSince kH2 5 ⟨#[47, 98]⟩ 1 = ([kE3], 7, 0) := by kernel_rfl

theorem Row.newEvs (w : World) (xs : List Ev) (cs : Array Value) (hc : cs = (xs.flatMap Ev.cells).toArray) : Row kEvent (fun _ => True) (w.alloc (.cells cs 41)) (some ⟨w.heap.size, 0, none⟩) xs := fun _ =>
  ⟨_, rfl, trivial, xs.flatMap Ev.cells, flat_ev _ _ _, fun j u hu => by
    rw [add_new, cell_of_row _ _ _ _ _ _ (heap_alloc_new w _)]; subst hc; simpa using hu⟩

/-- a hub all of whose blocks are the call's own -/
structure KHub (w : World) (g : Nat) (W : World) (h : HubS) : Prop where
  ex : ∃ F, IsHub F W g h ∧ ∀ b, F b → w.heap.size ≤ b
  bel : Below w.heap.size w W
theorem KHub.below {w W W' : World} {g : Nat} {h : HubS} (k : KHub w g W h) (hb : Below W.heap.size W W') : KHub w g W' h :=
  let ⟨F, h1, h2⟩ := k.ex
  ⟨⟨F, h1.below hb, h2⟩, k.bel.trans (hb.mono k.bel.size)⟩
theorem KHub.push {w W : World} {g : Nat} {h h' : HubS} {n : Int} {l : List Ev} (k : KHub w g W h) (hm : Ml w) (hp : hubPush h l = (h', n)) (A : Option Addr) (c : Nat) (P : Nat → Prop) (hr : Row kEvent P W A l) (hl : l.length ≤ 128) :
    Calls Tryd.prog 53 #[.pointer (some ⟨g, 0, none⟩), .slice A l.length c] W fun e w' => e = .returned (.int .i64 n) ∧ KHub w g w' h' := by
  obtain ⟨⟨F, h1, h2⟩, h3⟩ := k
  have := push_any g h A c P l W (hm.below h3) h1.bound hr (by omega)
  rw [hp] at this
  refine this.mono ?_
  rintro e w' ⟨rfl, h4, h5⟩
  have hsz := h3.size
  refine ⟨rfl, ⟨_, h4, ?_⟩, h3.trans (h5.below hsz fun b hb => h2 b hb.1)⟩
  rintro b (hb | hb)
  · exact h2 b hb.1.1
  · omega
theorem KHub.low {w W : World} {g : Nat} {h : HubS} (k : KHub w g W h) : Calls Tryd.prog 19 #[.pointer (some ⟨g, 0, none⟩)] W fun e w' => e = .returned (.int .i64 h.low) ∧ W = w' :=
  let ⟨_, h1, _⟩ := k.ex; low_any g h W h1
theorem KHub.high {w W : World} {g : Nat} {h : HubS} (k : KHub w g W h) : Calls Tryd.prog 20 #[.pointer (some ⟨g, 0, none⟩)] W fun e w' => e = .returned (.int .i64 h.high) ∧ W = w' :=
  let ⟨_, h1, _⟩ := k.ex; high_any g h W h1
theorem KHub.since {w W : World} {g : Nat} {h : HubS} (k : KHub w g W h) (hm : Ml w) (v most : Int) (path : ByteArray) {l : List Ev} {n m : Int} (hs : hubSince h v path most = (l, n, m)) :
    Calls Tryd.prog 22 #[.pointer (some ⟨g, 0, none⟩), .int .i64 v, .string path, .int .i64 most] W fun e w' =>
      ∃ A c, e = .returned (.tuple #[.slice A l.length c, .int .i64 n, .int .i64 m]) ∧ Own kEvent 41 W.heap.size (fun _ => True) w' (.slice A l.length c) l ∧ Below W.heap.size W w' ∧ KHub w g w' h := by
  obtain ⟨F, h1, h2⟩ := k.ex
  have := since_any g h v most path W (hm.below k.bel) h1
  rw [hs] at this
  refine this.mono ?_
  rintro e w' ⟨A, c, rfl, h4, h5⟩
  exact ⟨A, c, rfl, h4, h5, k.below h5⟩

set_option maxRecDepth 100000 in
set_option maxHeartbeats 400000 in
theorem known_aux (w : World) (hm : Ml w) (H0 H1 H2 : HubS) (q0 : Hid (hubNew 5 = H0)) (q1 : Hid (H0.low = 5)) (q2 : Hid (H0.high = 5)) (p1 : Hid (hubPush H0 [kE1] = (H1, 0))) (p2 : Hid (hubPush H1 [kE2, kE3] = (H2, 0)))
    (p3 : Hid (hubPush H2 [kE2] = (H2, 1))) (p4 : Hid (hubSince H2 5 ⟨#[47]⟩ 2 = ([kE1], 6, 0))) (p5 : Hid (hubSince H2 5 ⟨#[47, 98]⟩ 1 = ([kE3], 7, 0))) :
    Calls Tryd.prog 14 #[] w fun e w' => e = .returned (.bool true) ∧ Below w.heap.size w w' := by
  go_enter Tryd.func14, Tryd.ntmps14
  go_wp2_with (first
    | (go_at_call 15; refine (new_any 5 w (by omega)).mono ?_; rintro e w1 ⟨gh, rfl, hgs, hk1, hb1⟩; rw [q0.out] at hk1; have K1 : KHub w gh w1 H0 := ⟨⟨_, hk1, fun b hb => by rw [hb]; exact hgs⟩, hb1⟩; clear hk1 hb1)
    | (go_at_call 19; refine K1.low.mono ?_; rintro e w2 ⟨rfl, rfl⟩; rw [q1.out])
    | (go_at_call 20; refine K1.high.mono ?_; rintro e w2 ⟨rfl, rfl⟩; rw [q2.out])
    | (go_at_call 52; refine (one_any _ _ _ _ _).mono ?_; rintro e w2 ⟨rfl, hb2⟩; have K1 := K1.below hb2; (try have ho1 := ho1.below hb2); (try have ho2 := ho2.below hb2); clear hb2)
    | (go_at_call 53; have K0 : KHub w gh _ H0 := K1; clear K0
       refine Calls.mono (KHub.push (w := w) (h := H0) (l := [kE1]) (K1.below ((Below.refl _ _).alloc (Nat.le_refl _) _)) hm p1.out _ _ (fun _ => True) (Row.newEvs _ [kE1] _ rfl) (Nat.le_of_ble_eq_true rfl)) ?_; clear K1; rintro e w3 ⟨rfl, K1⟩)
    | (go_at_call 53; have K0 : KHub w gh _ H1 := K1; clear K0
       refine Calls.mono (KHub.push (w := w) (h := H1) (l := [kE2, kE3]) (K1.below ((Below.refl _ _).alloc (Nat.le_refl _) _)) hm p2.out _ _ (fun _ => True) (Row.newEvs _ [kE2, kE3] _ rfl) (Nat.le_of_ble_eq_true rfl)) ?_; clear K1; rintro e w3 ⟨rfl, K1⟩)
    | (go_at_call 53; have K0 : KHub w gh _ H2 := K1; clear K0
       refine Calls.mono (KHub.push (w := w) (h := H2) (l := [kE2]) (K1.below ((Below.refl _ _).alloc (Nat.le_refl _) _)) hm p3.out _ _ (fun _ => True) (Row.newEvs _ [kE2] _ rfl) (Nat.le_of_ble_eq_true rfl)) ?_; clear K1; rintro e w3 ⟨rfl, K1⟩; have T1 := True.intro)
    | (go_at_call 22; have T2 := T1; clear T1; refine Calls.mono (KHub.since K1 hm 5 2 _ p4.out) ?_; rintro e w4 ⟨A1, c1, rfl, ho1, hb4, K1⟩; clear hb4)
    | (go_at_call 22; have T3 := T2; clear T2; refine Calls.mono (KHub.since K1 hm 5 1 _ p5.out) ?_; rintro e w5 ⟨A2, c2, rfl, ho2, hb5, K1⟩; have ho1 := ho1.below hb5; clear hb5)
    | (go_at_call 23; have T4 := T3; clear T3; refine Calls.mono (same_any A1 _ c1 _ _ _ [kE1] [kE1] _ (ho1.alloc _).row'.2.1 (Row.newEvs _ [kE1] _ rfl) (by decide)) ?_; rintro e w6 ⟨rfl, hb6⟩; rw [decide_eq_true rfl]; have K1 := (K1.below ((Below.refl _ _).alloc (Nat.le_refl _) _)).below hb6; have ho2 := (ho2.alloc _).below hb6; clear hb6)
    | (go_at_call 23; have T5 := T4; clear T4; refine Calls.mono (same_any A2 _ c2 _ _ _ [kE3] [kE3] _ (ho2.alloc _).row'.2.1 (Row.newEvs _ [kE3] _ rfl) (by decide)) ?_; rintro e w7 ⟨rfl, hb7⟩; rw [decide_eq_true rfl]; have K1 := (K1.below ((Below.refl _ _).alloc (Nat.le_refl _) _)).below hb7; clear hb7))
  go_ret
  exact ⟨rfl, K1.bel⟩
theorem known_any (w : World) (hm : Ml w) : Calls Tryd.prog 14 #[] w fun e w' => e = .returned (.bool true) ∧ Below w.heap.size w w' :=
  known_aux w hm _ _ _ rfl rfl rfl k1 k2 k3 k4 k5
end Go.Proofs.YtdchffghgajbfaaDoor
