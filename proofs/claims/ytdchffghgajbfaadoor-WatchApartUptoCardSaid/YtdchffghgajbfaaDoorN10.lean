/- Layer 22's law: played, one step on both hubs. -/
import Derived.Test.YtdchffghgajbfaaDoorN9
import Derived.Test.YtdchffghgajbfaaDoorL4
namespace Go.Proofs.YtdchffghgajbfaaDoor
open Go.RowKit

/-- two hubs of one history: the layer's at gh, the document's at gr -/
structure PairOf (F G : Nat → Prop) (w : World) (gh gr : Nat) (first : Int) (ps : List (List Ev)) (d : Nat) : Prop where
  hub : IsHub F w gh (hubOf first ps d)
  ref : RHist G w gr first ps d
  sep : ∀ b, F b → ¬ G b
section
variable {F G : Nat → Prop} {w w' : World} {gh gr d : Nat} {first : Int} {ps : List (List Ev)}
theorem PairOf.move (k : PairOf F G w gh gr first ps d) (hm : ∀ b, (F b ∨ G b) → b < w.heap.size → w'.heap[b]? = w.heap[b]?) : PairOf F G w' gh gr first ps d :=
  ⟨k.hub.move fun b hb hl => hm b (.inl hb) hl, k.ref.move fun b hb hl => hm b (.inr hb) hl, k.sep⟩
theorem PairOf.below (k : PairOf F G w gh gr first ps d) (hb : Below w.heap.size w w') : PairOf F G w' gh gr first ps d := k.move fun b _ hl => hb.block b hl
theorem PairOf.turn {S : Nat → Prop} (k : PairOf F G w gh gr first ps d) (ht : Turn S w w') (hs : ∀ b, (F b ∨ G b) → ¬ S b) : PairOf F G w' gh gr first ps d := k.move fun b hb hl => ht.block b hl (hs b hb)
theorem PairOf.bound (k : PairOf F G w gh gr first ps d) : PairOf (fun b => F b ∧ b < w.heap.size) (fun b => G b ∧ b < w.heap.size) w gh gr first ps d := ⟨k.hub.bound, k.ref.bound, fun b hb hg => k.sep b hb.1 hg.1⟩
end
/-- what a step leaves: both hubs of one history, nothing else written -/
def PlayedPost (F G : Nat → Prop) (gh gr : Nat) (first : Int) (w : World) (e : Ending) (w' : World) : Prop :=
  e = .returned (.bool true) ∧ ∃ F' G' ps' d', PairOf F' G' w' gh gr first ps' d' ∧ (∀ b, (F' b ∨ G' b) → ((F b ∨ G b) ∧ b < w.heap.size) ∨ w.heap.size ≤ b) ∧ Turn (fun b => F b ∨ G b) w w'
theorem PlayedPost.below {F G : Nat → Prop} {gh gr d : Nat} {first : Int} {ps : List (List Ev)} {w w' : World} (k : PairOf F G w gh gr first ps d) (hb : Below w.heap.size w w') : PlayedPost F G gh gr first w (.returned (.bool true)) w' :=
  ⟨rfl, _, _, ps, d, k.bound.below hb, fun b hb => .inl (hb.elim (fun h => ⟨.inl h.1, h.2⟩) (fun h => ⟨.inr h.1, h.2⟩)), Turn.of_below hb⟩

/-- the last test's four calls -/
structure PairAsk (w : World) (gh gr : Nat) (lo hi : Int) : Prop where
  low : Calls Tryd.prog 19 #[.pointer (some ⟨gh, 0, none⟩)] w fun e w' => e = .returned (.int .i64 lo) ∧ w = w'
  rlow : Calls Tryd.prog 58 #[.pointer (some ⟨gr, 0, none⟩)] w fun e w' => e = .returned (.int .i64 lo) ∧ w = w'
  high : Calls Tryd.prog 20 #[.pointer (some ⟨gh, 0, none⟩)] w fun e w' => e = .returned (.int .i64 hi) ∧ w = w'
  rhigh : Calls Tryd.prog 55 #[.pointer (some ⟨gr, 0, none⟩)] w fun e w' => e = .returned (.int .i64 hi) ∧ w = w'
theorem PairOf.ask {F G : Nat → Prop} {gh gr d : Nat} {first : Int} {ps : List (List Ev)} {w : World} (k : PairOf F G w gh gr first ps d) : PairAsk w gh gr (first + d) (first + ps.length) :=
  ⟨low_any gh _ w k.hub, k.ref.low, high_any gh _ w k.hub, k.ref.high⟩

set_option maxRecDepth 100000 in
theorem played_none {F G : Nat → Prop} {gh gr d : Nat} {first : Int} {ps : List (List Ev)} (kind n most : Int) (A : Option Addr) (m c : Nat) (path : ByteArray) (w : World) (k : PairOf F G w gh gr first ps d) (h1 : kind ≠ 1) (h2 : kind ≠ 2) :
    Calls Tryd.prog 17 #[.pointer (some ⟨gh, 0, none⟩), .pointer (some ⟨gr, 0, none⟩), .agg #[.int .i64 kind, .slice A m c, .int .i64 n, .string path, .int .i64 most]] w (PlayedPost F G gh gr first w) := by
  have hb0 : Below w.heap.size w (w.alloc (.cells #[.int .i64 kind, .slice A m c, .int .i64 n, .string path, .int .i64 most] 31)) := (Below.refl _ _).alloc (Nat.le_refl _) _
  obtain ⟨q1, q2, q3, q4⟩ := (k.below hb0).ask
  obtain ⟨lo, hlo⟩ : ∃ lo, first + (d : Int) = lo := ⟨_, rfl⟩
  obtain ⟨hi, hhi⟩ : ∃ hi, first + (ps.length : Int) = hi := ⟨_, rfl⟩
  rw [hlo] at q1 q2
  rw [hhi] at q3 q4
  have Q1 := Lib.hid q1
  have Q2 := Lib.hid q2
  have Q3 := Lib.hid q3
  have Q4 := Lib.hid q4
  have HF := Lib.hid (PlayedPost.below k hb0)
  have e1 : (kind == 1) = false := by simpa using h1
  have e2 : (kind == 2) = false := by simpa using h2
  clear hb0 q1 q2 q3 q4 hlo hhi k h1 h2
  go_enter Tryd.func17, Tryd.ntmps17
  go_wp2_with (first
    | (go_at_call 19; refine Q1.out.mono ?_; rintro e w2 ⟨rfl, rfl⟩)
    | (go_at_call 58; refine Q2.out.mono ?_; rintro e w2 ⟨rfl, rfl⟩)
    | (go_at_call 20; refine Q3.out.mono ?_; rintro e w2 ⟨rfl, rfl⟩)
    | (go_at_call 55; refine Q4.out.mono ?_; rintro e w2 ⟨rfl, rfl⟩))
  go_ret
  exact HF.out

/-- behind a Since: its answer -/
def SinceMidV (res : List Ev × Int × Int) (wo : World) (v1 v2 v3 : Value) (wx : World) : Prop :=
  ∃ A c, v1 = .slice A res.1.length c ∧ v2 = .int .i64 res.2.1 ∧ v3 = .int .i64 res.2.2 ∧ Row kEvent (fun _ => True) wx A res.1 ∧ res.1.length ≤ 9223372036854775807 ∧ Below wo.heap.size wo wx
theorem SinceMidV.mk_ {res : List Ev × Int × Int} {wo wx : World} {A : Option Addr} {c : Nat} (ho : Own kEvent 41 wo.heap.size (fun _ => True) wx (.slice A res.1.length c) res.1) (hb : Below wo.heap.size wo wx) : SinceMidV res wo (.slice A res.1.length c) (.int .i64 res.2.1) (.int .i64 res.2.2) wx :=
  ⟨A, c, rfl, rfl, rfl, ho.row'.2.1, by have := ho.row'.2.2; unfold maxLen at this; omega, hb⟩
theorem below_ofDrew {w w' : World} (h : Below w.drew.heap.size w.drew w') : Below w.heap.size w w' := (Below.refl _ _).drew.trans (h.mono (Nat.le_refl _))
set_option maxRecDepth 100000 in
set_option maxHeartbeats 1000000 in
theorem played_since {F G : Nat → Prop} {gh gr d : Nat} {first : Int} {ps : List (List Ev)} (n most : Int) (A : Option Addr) (m c : Nat) (path : ByteArray) (w : World) (hm : Ml w) (k : PairOf F G w gh gr first ps d) (hpz : path.size ≤ 1073741824) :
    Calls Tryd.prog 17 #[.pointer (some ⟨gh, 0, none⟩), .pointer (some ⟨gr, 0, none⟩), .agg #[.int .i64 2, .slice A m c, .int .i64 n, .string path, .int .i64 most]] w (PlayedPost F G gh gr first w) := by
  have hb0 : Below w.heap.size w (w.alloc (.cells #[.int .i64 2, .slice A m c, .int .i64 n, .string path, .int .i64 most] 31)) := (Below.refl _ _).alloc (Nat.le_refl _) _
  have KB := Lib.hid (fun W (hb : Below w.heap.size w W) => k.below hb)
  have hfin := fun W hb => PlayedPost.below (w := w) (w' := W) k hb
  obtain ⟨hi, hhi⟩ : ∃ hi, first + (ps.length : Int) = hi := ⟨_, rfl⟩
  obtain ⟨v, hv⟩ : ∃ v, IntKind.i64.wrap (hi - n) = v := ⟨_, rfl⟩
  obtain ⟨res, hres⟩ : ∃ res, hubSince (hubOf first ps d) v path most = res := ⟨_, rfl⟩
  obtain ⟨lo, hlo⟩ : ∃ lo, first + (d : Int) = lo := ⟨_, rfl⟩
  have hask : ∀ W, Below w.heap.size w W → PairAsk W gh gr lo hi := fun W hb => by rw [← hlo, ← hhi]; exact (k.below hb).ask
  have hsince : ∀ W, Below w.heap.size w W → Calls Tryd.prog 22 #[.pointer (some ⟨gh, 0, none⟩), .int .i64 v, .string path, .int .i64 most] W (SincePost res W) := fun W hb => by rw [← hres]; exact since_any gh _ _ most path W (hm.below hb) (k.below hb).hub
  have hrsince : ∀ W, Below w.heap.size w W → Calls Tryd.prog 57 #[.pointer (some ⟨gr, 0, none⟩), .int .i64 v, .string path, .int .i64 most] W (SincePost res W) := fun W hb => by rw [← hres]; exact rsince_any _ most path W (k.below hb).ref hpz
  have HASK := Lib.hid hask
  have HSI := Lib.hid hsince
  have HRS := Lib.hid hrsince
  have HB0 := Lib.hid hb0
  have HF := Lib.hid hfin
  have hbox := heap_alloc_new w (.cells #[.int .i64 2, .slice A m c, .int .i64 n, .string path, .int .i64 most] 31)
  obtain ⟨L, x2, x3⟩ := res
  clear hask hsince hrsince hb0 hfin hlo hhi hres k KB
  go_enter Tryd.func17, Tryd.ntmps17
  go_upto_region 14 with fail
  obtain ⟨w0, hw0⟩ : ∃ w0, w.alloc (.cells #[.int .i64 2, .slice A m c, .int .i64 n, .string path, .int .i64 most] 31) = w0 := ⟨_, rfl⟩
  rw [hw0] at hbox HB0 ⊢
  clear hw0
  have b2 : w0.cell? ⟨w.heap.size, 2, none⟩ = some (.int .i64 n) := (cell_of_row _ _ _ _ _ _ hbox).trans rfl
  have b3 : w0.cell? ⟨w.heap.size, 3, none⟩ = some (.string path) := (cell_of_row _ _ _ _ _ _ hbox).trans rfl
  have b4 : w0.cell? ⟨w.heap.size, 4, none⟩ = some (.int .i64 most) := (cell_of_row _ _ _ _ _ _ hbox).trans rfl
  have hblt := (Array.getElem?_eq_some_iff.1 hbox).1
  clear hbox
  go_cut [12, 13, 14] (fun s1 s2 s3 wx => ∃ w1, w1 = wx ∧ SinceMidV (L, x2, x3) w0 s1 s2 s3 w1)
  case first =>
    have HQ1 := Lib.hid (HASK.out _ HB0.out.drew).rhigh
    have HQ2 := Lib.hid (HSI.out _ HB0.out.drew)
    go_region_held3 (fun w' => w'.cell? ⟨w.heap.size, 2, none⟩ = some (.int .i64 n) ∧ w'.cell? ⟨w.heap.size, 3, none⟩ = some (.string path) ∧ w'.cell? ⟨w.heap.size, 4, none⟩ = some (.int .i64 most)) (first | exact ⟨b2, b3, b4⟩ | exact ⟨g2, g3, g4⟩) (first
      | (go_at_call 55; have q := HQ1.out; refine q.mono ?_; clear q; rintro e w2 ⟨rfl, rfl⟩)
      | (go_at_call 22; have q := HQ2.out; refine q.mono ?_; clear q; rintro e w3 ⟨A3, c3, rfl, ho3, hb3⟩; have HO3 := Lib.hid ho3; have HB3 := Lib.hid hb3
         have g2 := (hb3.cell (p := ⟨w.heap.size, 2, none⟩) hblt).trans b2
         have g3 := (hb3.cell (p := ⟨w.heap.size, 3, none⟩) hblt).trans b3
         have g4 := (hb3.cell (p := ⟨w.heap.size, 4, none⟩) hblt).trans b4
         clear ho3 hb3))
    go_wp2_with fail
    go_meet
    exact ⟨_, rfl, SinceMidV.mk_ (res := (L, x2, x3)) HO3.out (below_ofDrew HB3.out)⟩
  case rest =>
    obtain ⟨w1, rfl, A1, c1, rfl, rfl, rfl, hr1, hlen, hb1⟩ := hcut
    have HR1 := Lib.hid hr1
    have HB1 := Lib.hid (HB0.out.trans (hb1.mono HB0.out.size))
    have hblt1 := Nat.lt_of_lt_of_le hblt hb1.size
    have b2 := (hb1.cell (p := ⟨w.heap.size, 2, none⟩) hblt).trans b2
    have b3 := (hb1.cell (p := ⟨w.heap.size, 3, none⟩) hblt).trans b3
    have b4 := (hb1.cell (p := ⟨w.heap.size, 4, none⟩) hblt).trans b4
    clear hr1 hb1
    go_upto_region 15 with fail
    go_cut [15, 16, 17] (fun s1 s2 s3 wx => ∃ w2, w2 = wx ∧ SinceMidV (L, x2, x3) w1 s1 s2 s3 w2)
    case first =>
      have HQ1 := Lib.hid (HASK.out _ HB1.out.drew).rhigh
      have HQ2 := Lib.hid (HRS.out _ HB1.out.drew)
      go_region_held3 (fun w' => w'.cell? ⟨w.heap.size, 2, none⟩ = some (.int .i64 n) ∧ w'.cell? ⟨w.heap.size, 3, none⟩ = some (.string path) ∧ w'.cell? ⟨w.heap.size, 4, none⟩ = some (.int .i64 most)) (first | exact ⟨b2, b3, b4⟩ | exact ⟨g2, g3, g4⟩) (first
        | (go_at_call 55; have q := HQ1.out; refine q.mono ?_; clear q; rintro e w2 ⟨rfl, rfl⟩)
        | (go_at_call 57; have q := HQ2.out; refine q.mono ?_; clear q; rintro e w3 ⟨A3, c3, rfl, ho3, hb3⟩; have HO3 := Lib.hid ho3; have HB3 := Lib.hid hb3
           have g2 := (hb3.cell (p := ⟨w.heap.size, 2, none⟩) hblt1).trans b2
           have g3 := (hb3.cell (p := ⟨w.heap.size, 3, none⟩) hblt1).trans b3
           have g4 := (hb3.cell (p := ⟨w.heap.size, 4, none⟩) hblt1).trans b4
           clear ho3 hb3))
      go_wp2_with fail
      go_meet
      exact ⟨_, rfl, SinceMidV.mk_ (res := (L, x2, x3)) HO3.out (below_ofDrew HB3.out)⟩
    case rest =>
      obtain ⟨w2, rfl, A2, c2, rfl, rfl, rfl, hr2, _, hb2⟩ := hcut
      have HR2 := Lib.hid hr2
      have HR1' := Lib.hid (HR1.out.below hb2)
      have HB2 := Lib.hid (HB1.out.trans (hb2.mono HB1.out.size))
      clear hr2 hb2 b2 b3 b4 hblt hblt1
      go_wp2_with (first
        | (go_at_call 23; refine (same_any A1 A2 c1 c2 _ _ L L _ HR1'.out HR2.out hlen).mono ?_; rintro e w3 ⟨rfl, hb3⟩; rw [decide_eq_true rfl]; have HB3 := Lib.hid (HB2.out.trans (hb3.mono HB2.out.size)); obtain ⟨q1, q2, q3, q4⟩ := HASK.out _ HB3.out; have Q1 := Lib.hid q1; have Q2 := Lib.hid q2; have Q3 := Lib.hid q3; have Q4 := Lib.hid q4; clear q1 q2 q3 q4 hb3)
        | (go_at_call 19; refine Q1.out.mono ?_; rintro e w4 ⟨rfl, rfl⟩)
        | (go_at_call 58; refine Q2.out.mono ?_; rintro e w4 ⟨rfl, rfl⟩)
        | (go_at_call 20; refine Q3.out.mono ?_; rintro e w4 ⟨rfl, rfl⟩)
        | (go_at_call 55; refine Q4.out.mono ?_; rintro e w4 ⟨rfl, rfl⟩))
      go_ret
      exact HF.out _ HB3.out
end Go.Proofs.YtdchffghgajbfaaDoor
