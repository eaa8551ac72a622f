/- Layer 22's law: played, the Push step. -/
import Derived.Test.YtdchffghgajbfaaDoorN10
namespace Go.Proofs.YtdchffghgajbfaaDoor
open Go.RowKit

theorem Env.turn {S : Nat → Prop} {w w' : World} (h : Env w) (ht : Turn S w w') (h1 : ¬ S 2) (h2 : ¬ S 0) : Env w' :=
  ⟨h.ml.turn ht h1, ⟨ht.cell h.mark.c0 h2, ht.cell h.mark.c1 h2, ht.cell h.mark.c2 h2, ht.cell h.mark.c3 h2, ht.cell h.mark.c4 h2⟩⟩
def BehindPost (w : World) (xs : List Ev) (e : Ending) (w' : World) : Prop :=
  ∃ A c, e = .returned (.slice A (xs.length + 1) c) ∧ Own kEvent 41 w.heap.size (fun _ => True) w' (.slice A (xs.length + 1) c) (xs ++ [markE]) ∧ Below w.heap.size w w'
theorem behind_at (A : Option Addr) (c : Nat) (P : Nat → Prop) (xs : List Ev) (w : World) (he : Env w) (hr : Row kEvent P w A xs) (hb : (xs.length + 1) * 56 ≤ 140737488355328) :
    Calls Tryd.prog 46 #[.slice A xs.length c] w (BehindPost w xs) :=
  (behind_any A c P xs w he hr hb).mono fun e w' ⟨A2, c2, h1, h2, h3⟩ => by
    have hl : (xs ++ [markE]).length = xs.length + 1 := by rw [List.length_append]; rfl
    rw [hl] at h1 h2
    exact ⟨A2, c2, h1, h2, h3⟩
/-- a row of the call's own that is not empty: its block -/
theorem own_at {base n c : Nat} {w : World} {A : Option Addr} {xs : List Ev} (h : Own kEvent 41 base (fun _ => True) w (.slice A n c) xs) (hn : 0 < n) : ∃ X, A = some ⟨X, 0, none⟩ ∧ base ≤ X ∧ n = xs.length ∧ OwnAt kEvent 41 X c w xs := by
  have hl := h.block_lt
  obtain ⟨hn2, _⟩ := h.row'
  obtain ⟨cells, hown, hf⟩ := h
  rcases hown.2 with ⟨h0, h1⟩ | ⟨X, cap, cur, hv, hb, hg, h1, h2, h3, h4⟩
  · omega
  · cases hv
    exact ⟨X, rfl, hb, hn2, OwnAt.of_own (base := base) (n := xs.length) (P := fun _ => True) ⟨cells, ⟨hown.1, .inr ⟨X, c, cur, rfl, hb, hg, h1, h2, h3, h4⟩⟩, hf⟩⟩

/-- both hubs behind the push -/
structure Pushed2 (F G : Nat → Prop) (gh gr : Nat) (first : Int) (w w' : World) : Prop where
  ex : ∃ F' G' ps' d', PairOf F' G' w' gh gr first ps' d' ∧ (∀ b, (F' b ∨ G' b) → ((F b ∨ G b) ∧ b < w.heap.size) ∨ w.heap.size ≤ b)
  turn : Turn (fun b => F b ∨ G b) w w'
theorem Pushed2.below {F G : Nat → Prop} {gh gr : Nat} {first : Int} {w w1 w2 : World} (k : Pushed2 F G gh gr first w w1) (hb : Below w1.heap.size w1 w2) : Pushed2 F G gh gr first w w2 :=
  let ⟨F', G', ps', d', h1, h2⟩ := k.ex; ⟨⟨F', G', ps', d', h1.below hb, h2⟩, k.turn.then_below hb⟩
/-- behind all of it: writes to one block that no hub has, and new memory -/
theorem Pushed2.done {F G : Nat → Prop} {gh gr X : Nat} {first : Int} {w w1 w2 w3 : World} (hb : Below w.heap.size w w1) (k : Pushed2 (fun b => F b ∧ b < w.heap.size) (fun b => G b ∧ b < w.heap.size) gh gr first w1 w2) (ht : Turn (fun b => b = X) w2 w3) (hX : w.heap.size ≤ X) (hX2 : X < w1.heap.size) : PlayedPost F G gh gr first w (.returned (.bool true)) w3 := by
  obtain ⟨⟨F', G', ps', d', h1, h2⟩, h3⟩ := k
  have hsz := hb.size
  refine ⟨rfl, F', G', ps', d', h1.turn ht ?_, ?_, ?_⟩
  · rintro b hb2 rfl
    rcases h2 _ hb2 with h | h
    · have := h.1.elim (fun h => h.2) (fun h => h.2); omega
    · omega
  · intro b hb2
    rcases h2 b hb2 with h | h
    · exact .inl ⟨h.1.imp (fun h => h.1) (fun h => h.1), h.1.elim (fun h => h.2) (fun h => h.2)⟩
    · exact .inr (by omega)
  · have t1 : Turn (fun b => F b ∨ G b) w w2 := (Turn.of_below hb).trans (h3.mono fun b _ hb => .inl (hb.imp (fun h => h.1) (fun h => h.1)))
    exact t1.trans (ht.mono fun b _ hb => .inr (by rw [hb]; exact hX))
theorem Pushed2.askT {F G : Nat → Prop} {gh gr X : Nat} {first : Int} {w w1 w2 w3 : World} (hb : Below w.heap.size w w1) (k : Pushed2 (fun b => F b ∧ b < w.heap.size) (fun b => G b ∧ b < w.heap.size) gh gr first w1 w2) (ht : Turn (fun b => b = X) w2 w3) (hX : w.heap.size ≤ X) (hX2 : X < w1.heap.size) : ∃ lo hi, PairAsk w3 gh gr lo hi := by
  obtain ⟨_, _, _, _, _, h1, _⟩ := k.done hb ht hX hX2
  exact ⟨_, _, h1.ask⟩
theorem Pushed2.ask {F G : Nat → Prop} {gh gr : Nat} {first : Int} {w w' : World} (k : Pushed2 F G gh gr first w w') : ∃ lo hi, PairAsk w' gh gr lo hi :=
  let ⟨_, _, _, _, h1, _⟩ := k.ex; ⟨_, _, h1.ask⟩
theorem pushed2 {F G : Nat → Prop} {gh gr d : Nat} {first : Int} {ps : List (List Ev)} {xs : List Ev} {w w3 w4 : World} {H : HubS} {n n2 : Int} {ps2 : List (List Ev)} {d2 : Nat} (k : PairOf F G w gh gr first ps d) (hH : hubPush (hubOf first ps d) xs = (H, n))
    (h3 : IsHub (fun b => (F b ∧ b < w.heap.size) ∨ w.heap.size ≤ b) w3 gh H) (t3 : Turn (fun b => F b) w w3)
    (hr2 : hubPush (hubOf first ps d) xs = (hubOf first ps2 d2, n2)) (h4 : RHist (fun b => (G b ∧ b < w3.heap.size) ∨ w3.heap.size ≤ b) w4 gr first ps2 d2) (t4 : Turn (fun b => b = gr) w3 w4) (hgr : G gr) (hGl : ∀ b, G b → b < w.heap.size) : n2 = n ∧ Pushed2 F G gh gr first w w4 := by
  rw [hH] at hr2
  obtain ⟨rfl, rfl⟩ := Prod.mk.inj hr2
  have hs3 := t3.size
  refine ⟨rfl, ⟨⟨fun b => ((F b ∧ b < w.heap.size) ∨ w.heap.size ≤ b) ∧ b < w3.heap.size, _, ps2, d2, ⟨?_, h4, ?_⟩, ?_⟩, ?_⟩⟩
  · refine h3.bound.move fun b hb hl => t4.block b hl ?_
    rintro rfl
    rcases hb.1 with h | h
    · exact k.sep _ h.1 hgr
    · have := hGl _ hgr; omega
  · rintro b ⟨hb | hb, hl⟩ hg
    · rcases hg with hg | hg
      · exact k.sep b hb.1 hg.1
      · omega
    · rcases hg with hg | hg
      · have := hGl _ hg.1; omega
      · omega
  · rintro b (⟨hb | hb, hl⟩ | hb | hb)
    · exact .inl ⟨.inl hb.1, hb.2⟩
    · exact .inr hb
    · exact .inl ⟨.inr hb.1, hGl _ hb.1⟩
    · exact .inr (by omega)
  · exact (t3.mono (S' := fun b => F b ∨ G b) fun b _ hb => .inl hb).trans (t4.mono fun b _ hb => .inl (.inr (by rw [hb]; exact hgr)))

theorem same_at (A B : Option Addr) (n c d : Nat) (P Q : Nat → Prop) (zs : List Ev) (w : World) (hx : Row kEvent P w A zs) (hy : Row kEvent Q w B zs) (hn : zs.length = n) (hlx : n ≤ 9223372036854775807) :
    Calls Tryd.prog 23 #[.slice A n c, .slice B n d] w fun e w' => e = .returned (.bool true) ∧ Below w.heap.size w w' := by
  subst hn
  have := same_any A B c d P Q zs zs w hx hy hlx
  rwa [decide_eq_true rfl] at this
/-- the rows of this call, and what stands in the variables, behind both pushes -/
structure Mid4 (F G : Nat → Prop) (gh gr X cX : Nat) (first : Int) (w w2 w4 : World) (A1 : Option Addr) (c1 : Nat) (xs : List Ev) : Prop where
  env : Env w4
  own : Row kEvent (fun b => w.heap.size ≤ b) w4 A1 xs
  at_ : OwnAt kEvent 41 X cX w4 (xs ++ [markE])
  two : Pushed2 (fun b => F b ∧ b < w.heap.size) (fun b => G b ∧ b < w.heap.size) gh gr first w2 w4
theorem mid4 {F G : Nat → Prop} {gh gr X cX d : Nat} {first : Int} {ps : List (List Ev)} {xs : List Ev} {w w2 w3 w4 : World} {A1 : Option Addr} {c1 base : Nat} {H : HubS} {n n2 : Int} {ps2 : List (List Ev)} {d2 : Nat}
    (he : Env w) (hout : ∀ b, (F b ∨ G b) → b ≠ 2 ∧ b ≠ 0) (k : PairOf (fun b => F b ∧ b < w.heap.size) (fun b => G b ∧ b < w.heap.size) w gh gr first ps d) (hb : Below w.heap.size w w2)
    (ho : Own kEvent 41 base (fun _ => True) w2 (.slice A1 xs.length c1) xs) (hbase : w.heap.size ≤ base) (hx : OwnAt kEvent 41 X cX w2 (xs ++ [markE])) (hX : w.heap.size ≤ X)
    (hH : hubPush (hubOf first ps d) xs = (H, n)) (h3 : IsHub (fun b => ((F b ∧ b < w.heap.size) ∧ b < w2.heap.size) ∨ w2.heap.size ≤ b) w3 gh H) (t3 : Turn (fun b => F b ∧ b < w.heap.size) w2 w3)
    (hr2 : hubPush (hubOf first ps d) xs = (hubOf first ps2 d2, n2)) (h4 : RHist (fun b => ((G b ∧ b < w.heap.size) ∧ b < w3.heap.size) ∨ w3.heap.size ≤ b) w4 gr first ps2 d2) (t4 : Turn (fun b => b = gr) w3 w4) (hgr : G gr ∧ gr < w.heap.size) :
    n2 = n ∧ Mid4 F G gh gr X cX first w w2 w4 A1 c1 xs := by
  have hsz := hb.size
  obtain ⟨hn, hp⟩ := pushed2 (k.below hb) hH h3 t3 hr2 h4 t4 hgr (fun b hb2 => by have := hb2.2; omega)
  have hmv : ∀ b, w.heap.size ≤ b → b < w2.heap.size → w4.heap[b]? = w2.heap[b]? := fun b h1 h2 => (t4.block b (Nat.lt_of_lt_of_le h2 t3.size) (by have := hgr.2; intro e; omega)).trans (t3.block b h2 (fun h => by have := h.2; omega))
  have hne : 2 ≠ gr ∧ 0 ≠ gr := let h := hout gr (.inr hgr.1); ⟨fun e => h.1 e.symm, fun e => h.2 e.symm⟩
  refine ⟨hn, ((he.below hb).turn t3 (fun h => (hout _ (.inl h.1)).1 rfl) (fun h => (hout _ (.inl h.1)).2 rfl)).turn t4 hne.1 hne.2, ?_, hx.move kEvent_plain (hmv X hX hx.lt), hp⟩
  exact ((own_rowFrom ho).2.1.mono fun b hb => Nat.le_trans hbase hb).keep hmv

set_option maxRecDepth 100000 in
set_option maxHeartbeats 1000000 in
theorem played_push {F G : Nat → Prop} {gh gr d : Nat} {first : Int} {ps : List (List Ev)} (n most : Int) (A : Option Addr) (c : Nat) (P : Nat → Prop) (l : List Ev) (path : ByteArray) (w : World) (he : Env w) (k : PairOf F G w gh gr first ps d) (hr : Row kEvent P w A l)
    (hl : l.length ≤ 1099511627776) (hs : ∀ e ∈ l, e.path.size ≤ 1073741824) (hout : ∀ b, (F b ∨ G b) → b ≠ 2 ∧ b ≠ 0) :
    Calls Tryd.prog 17 #[.pointer (some ⟨gh, 0, none⟩), .pointer (some ⟨gr, 0, none⟩), .agg #[.int .i64 1, .slice A l.length c, .int .i64 n, .string path, .int .i64 most]] w (PlayedPost F G gh gr first w) := by
  have hb0 : Below w.heap.size w (w.alloc (.cells #[.int .i64 1, .slice A l.length c, .int .i64 n, .string path, .int .i64 most] 31)) := (Below.refl _ _).alloc (Nat.le_refl _) _
  have kb := k.bound
  have hgr : G gr ∧ gr < w.heap.size := let ⟨_, _, h⟩ := kb.ref.ex; h.own
  have hhi0 := k.ref.hist.hi
  have hf0 := k.ref.hist.f0
  obtain ⟨hi, hhi⟩ : ∃ hi, first + (ps.length : Int) = hi := ⟨_, rfl⟩
  have hw1 : IntKind.i64.wrap (hi + 1) = hi + 1 := by rw [IntKind.wrap_i64]; omega
  have hdated : ∀ W, Below w.heap.size w W → Calls Tryd.prog 54 #[.slice A l.length c, .int .i64 (hi + 1)] W (CloneEv W (l.map (Ev.date (hi + 1)))) := fun W hb => dated_any A c P l (hi + 1) W (hr.below hb) (by omega)
  have hxl : (l.map (Ev.date (hi + 1))).length = l.length := by simp
  have hxs : ∀ e ∈ l.map (Ev.date (hi + 1)), e.path.size ≤ 1073741824 := fun e he2 => by
    obtain ⟨x, hx, rfl⟩ := List.mem_map.1 he2
    exact hs x hx
  obtain ⟨xs, hxse⟩ : ∃ xs, l.map (Ev.date (hi + 1)) = xs := ⟨_, rfl⟩
  rw [hxse] at hdated hxl hxs
  obtain ⟨⟨H, n0⟩, hH⟩ : ∃ r, hubPush (hubOf first ps d) xs = r := ⟨_, rfl⟩
  have hpush : ∀ W B c2 P2, Ml W → IsHub (fun b => F b ∧ b < w.heap.size) W gh (hubOf first ps d) → Row kEvent P2 W B xs → Calls Tryd.prog 53 #[.pointer (some ⟨gh, 0, none⟩), .slice B xs.length c2] W (PushPost (fun b => F b ∧ b < w.heap.size) gh (H, n0) W) := fun W B c2 P2 h1 h2 h3 => by
    rw [← hH]; exact push_any gh _ B c2 P2 xs W h1 h2 h3 (by omega)
  have hrpush : ∀ W B c2 P2, RHist (fun b => G b ∧ b < w.heap.size) W gr first ps d → Row kEvent P2 W B xs → Calls Tryd.prog 56 #[.pointer (some ⟨gr, 0, none⟩), .slice B xs.length c2] W (RPushPost (fun b => G b ∧ b < w.heap.size) gr first ps d xs W) := fun W B c2 P2 h1 h2 => rpush_any B c2 P2 xs W h1 h2 (by omega) hxs
  have hrhigh : ∀ W, Below w.heap.size w W → Calls Tryd.prog 55 #[.pointer (some ⟨gr, 0, none⟩)] W fun e w' => e = .returned (.int .i64 hi) ∧ W = w' := fun W hb => by rw [← hhi]; exact (k.below hb).ask.rhigh
  have hx56 : (xs.length + 1) * 56 ≤ 140737488355328 := by omega
  have HB0 := Lib.hid hb0
  have HD := Lib.hid hdated
  have HPU := Lib.hid hpush
  have HRP := Lib.hid hrpush
  have HRH := Lib.hid hrhigh
  have KB := Lib.hid kb
  have HH := Lib.hid hH
  have HOUT := Lib.hid hout
  have hbox := heap_alloc_new w (.cells #[.int .i64 1, .slice A l.length c, .int .i64 n, .string path, .int .i64 most] 31)
  clear hb0 hdated hpush hrpush hrhigh hxs hxse hxl hs k kb hH hhi hhi0 hf0 hr hout
  go_enter Tryd.func17, Tryd.ntmps17
  go_upto_region 3 with fail
  obtain ⟨w0, hw0⟩ : ∃ w0, w.alloc (.cells #[.int .i64 1, .slice A l.length c, .int .i64 n, .string path, .int .i64 most] 31) = w0 := ⟨_, rfl⟩
  rw [hw0] at hbox HB0 ⊢
  clear hw0
  have b1 : w0.cell? ⟨w.heap.size, 1, none⟩ = some (.slice A l.length c) := (cell_of_row _ _ _ _ _ _ hbox).trans rfl
  have hblt := (Array.getElem?_eq_some_iff.1 hbox).1
  clear hbox
  go_cut [7] (fun s wx => ∃ w1 A1 c1, w1 = wx ∧ s = .slice A1 xs.length c1 ∧ Own kEvent 41 w0.heap.size (fun _ => True) w1 (.slice A1 xs.length c1) xs ∧ Below w0.heap.size w0 w1)
  case first =>
    have HQ1 := Lib.hid (HRH.out _ HB0.out.drew)
    have HQ2 := Lib.hid (HD.out _ HB0.out.drew)
    go_region_held3 (fun w' => w'.cell? ⟨w.heap.size, 1, none⟩ = some (.slice A l.length c)) (first | exact b1 | exact g1) (first
      | (go_at_call 55; have q := HQ1.out; refine q.mono ?_; clear q; rintro e w2 ⟨rfl, rfl⟩)
      | (go_at_call 54; have q := HQ2.out; refine q.mono ?_; clear q; rintro e w3 ⟨A3, c3, rfl, ho3, hb3⟩; have HO3 := Lib.hid ho3; have HB3 := Lib.hid hb3
         have g1 := (hb3.cell (p := ⟨w.heap.size, 1, none⟩) hblt).trans b1
         clear ho3 hb3))
    go_wp2_with fail
    go_meet
    exact ⟨_, _, _, rfl, rfl, HO3.out, below_ofDrew HB3.out⟩
  case rest =>
    obtain ⟨w1, A1, c1, rfl, rfl, ho1, hb1⟩ := hcut
    have HB1 := Lib.hid (HB0.out.trans (hb1.mono HB0.out.size))
    have HO1 := Lib.hid ho1
    have HE1 := Lib.hid (he.below HB1.out)
    have HM1 := Lib.hid (HB0.out.size)
    have hz1 := HB1.out.size
    have T1 := True.intro
    clear ho1 hb1 b1 hblt
    go_upto_region 5 with (first
      | (go_at_call 46; have T2 := T1; clear T1; refine (behind_at A1 c1 _ xs _ HE1.out HO1.out.row'.2.1 hx56).mono ?_; rintro e w2 ⟨B2, c2, rfl, ho2, hb2⟩
         obtain ⟨X, hBX, hX, -, hoX⟩ := own_at ho2 (Nat.succ_pos _)
         have HBX := Lib.hid hBX
         have hcut := run_cut_to evElem B2 (xs.length + 1) c2 xs.length (by have := ho2.row'.2.2.1; simp at this; omega)
         clear hBX
         have HOX := Lib.hid hoX
         have HX := Lib.hid hX
         have HRX := Lib.hid (show Row kEvent (fun _ => True) w2 B2 xs by have := ho2.row'.2.1.take xs.length; rwa [List.take_left] at this)
         have HO12 := Lib.hid (HO1.out.below hb2)
         have HB2 := Lib.hid (HB1.out.trans (hb2.mono hz1))
         clear ho2 hb2 hX hoX; try dsimp only))
    go_wp2_with (first
      | (go_at_call 53; refine (HPU.out _ B2 c2 _ (he.below HB2.out).ml (KB.out.below HB2.out).hub HRX.out).mono ?_; rintro e w3 ⟨he3, h3, t3⟩; obtain rfl : e = .returned (.int .i64 n0) := he3
         have H3 := Lib.hid h3
         have HT3 := Lib.hid t3
         clear h3 t3; try dsimp only)
      | (go_at_call 56
         have hr3 := (KB.out.below HB2.out).ref.turn HT3.out (fun b hb hf => KB.out.sep b hf hb)
         have hrow3 := (own_rowFrom HO12.out).2.1.keep (w' := w3) (fun b hb hlt => HT3.out.block b hlt (fun hf => by have := hf.2; have := HM1.out; omega))
         refine (HRP.out _ A1 c1 _ hr3 hrow3).mono ?_; clear hr3 hrow3; rintro e w4 ⟨ps2, d2, n2, heq, he4, h4, t4⟩; obtain rfl : e = .returned (.int .i64 n2) := he4
         obtain ⟨hn2, hm4⟩ := mid4 he HOUT.out KB.out HB2.out HO12.out HM1.out HOX.out (by have := HX.out; omega) HH.out H3.out HT3.out heq h4 t4 hgr
         obtain rfl := hn2
         have HM4 := Lib.hid hm4
         clear heq h4 t4 hm4; try dsimp only)
      | (go_at_call 46; have T3 := T2; clear T2; refine (behind_at A1 c1 _ xs _ HM4.out.env HM4.out.own hx56).mono ?_; rintro e w5 ⟨B5, c5, rfl, ho5, hb5⟩
         have HO5 := Lib.hid ho5
         have HB5 := Lib.hid hb5
         have hx5 := HM4.out.at_.move (w' := w5) kEvent_plain (hb5.block X HM4.out.at_.lt)
         have HX5 := Lib.hid hx5
         clear ho5 hb5 hx5; try dsimp only)
      | (go_at_call 23; refine (same_at B2 B5 (xs.length + 1) c2 c5 _ _ (xs ++ [markE]) _ (by rw [HBX.out]; exact HX5.out.row) HO5.out.row'.2.1 (by simp) (by omega)).mono ?_; rintro e w6 ⟨rfl, hb6⟩; have HB6 := Lib.hid (HB5.out.trans (hb6.mono HB5.out.size)); clear hb6; try dsimp only))

    obtain rfl := HBX.out
    have HENV6 := Lib.hid (HM4.out.env.below HB6.out)
    have HP6 := Lib.hid (HM4.out.two.below HB6.out)
    have hX1 := Nat.le_trans hz1 HX.out
    have hX2 : X < w2.heap.size := HOX.out.lt
    have hgX : 0 ≠ X := by have := he.low.2; omega
    go_loopw [11] (fun iv wr => ∃ (i : Nat) (ys : List Ev), iv = .int .i64 i ∧ i ≤ xs.length + 1 ∧ Hid (OwnAt kEvent 41 X c2 wr ys) ∧ Hid (ys.length = xs.length + 1) ∧ Hid (Turn (fun b => b = X) w6 wr)) (fun iv _ => xs.length + 1 - (intOf iv).toNat)
    case atStart => exact ⟨0, xs ++ [markE], rfl, Nat.zero_le _, HM4.out.at_.move kEvent_plain (HB6.out.block X HM4.out.at_.lt), by simp [Hid], Turn.refl _ _⟩
    case round =>
      obtain ⟨i, ys, rfl, hi, hoy, hyl, ht⟩ := hrel
      obtain ⟨wo, rfl⟩ : ∃ wo, wo = wr := ⟨_, rfl⟩
      by_cases hlt : i < xs.length + 1
      · have hiy : i < ys.length := by rw [hyl.out]; exact hlt
        obtain ⟨a, ha, _, f0, f1, f2, f3, f4⟩ := ev_at hoy.out.row i hiy
        obtain rfl : (⟨X, 0, none⟩ : Addr) = a := by injection ha
        clear ha
        rw [add_new] at f0 f1 f2 f3 f4
        have hglt := hoy.out.lt
        have hfz := hoy.out.frozen
        obtain ⟨m0, m1, m2, m3, m4⟩ := (HENV6.out.turn ht.out (by have := he.low.1; omega) hgX).mark
        have hi2 : (i : Int) < (xs.length : Int) + 1 := by omega
        go_wp2
        go_roundw
        case rel => exact ⟨i + 1, ys.set i markE, by go_num, hlt, hoy.out.setEnc i hiy markE, by unfold Hid; rw [List.length_set]; exact hyl.out, setCells_turn (S := fun k => k = X) (.inl rfl) markE.cells wo (i * 5) ht.out⟩
        case measure => simp [intOf]; omega
      · have hi2 : ¬ (i : Int) < (xs.length : Int) + 1 := by omega
        obtain ⟨lo2, hi3, q1, q2, q3, q4⟩ := Pushed2.askT HB2.out HP6.out ht.out hX1 hX2
        have Q1 := Lib.hid q1
        have Q2 := Lib.hid q2
        have Q3 := Lib.hid q3
        have Q4 := Lib.hid q4
        clear q1 q2 q3 q4
        go_wp2_with (first
          | (go_at_call 19; refine Q1.out.mono ?_; rintro e w7 ⟨rfl, rfl⟩)
          | (go_at_call 58; refine Q2.out.mono ?_; rintro e w7 ⟨rfl, rfl⟩)
          | (go_at_call 20; refine Q3.out.mono ?_; rintro e w7 ⟨rfl, rfl⟩)
          | (go_at_call 55; refine Q4.out.mono ?_; rintro e w7 ⟨rfl, rfl⟩))
        go_ret
        exact HP6.out.done HB2.out ht.out hX1 hX2
end Go.Proofs.YtdchffghgajbfaaDoor
