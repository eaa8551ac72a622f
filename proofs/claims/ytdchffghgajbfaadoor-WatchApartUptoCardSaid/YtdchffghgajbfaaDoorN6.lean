/- The document's hub: as it lies; New, Low, High, Right, of. -/
import Derived.Test.YtdchffghgajbfaaDoorN5
import Derived.Test.YtdchffghgajbfaaDoorH6
import Derived.Test.YtdchffghgajbfaaDoorH1
import Derived.Test.YtdchffghgajbfaaDoorQ
import Derived.Test.YtdchffghgajbfaaDoorL1
import Derived.Test.YtdchffghgajbfaaDoorH4
namespace Go.Proofs.YtdchffghgajbfaaDoor
open Go.RowKit

/-- the document's hub at block g; all its blocks are of F -/
structure IsRH (F : Nat → Prop) (w : World) (g : Nat) (fr hi : Int) (L : List Ev) (A : Option Addr) (c : Nat) : Prop where
  own : F g
  blk : w.heap[g]? = some (.cells #[.int .i64 fr, .int .i64 hi, .slice A L.length c] 97 (0, 0))
  row : Row kEvent F w A L
  le : L.length ≤ c
  mx : c ≤ maxLen
section
variable {F F' : Nat → Prop} {w w' : World} {g c : Nat} {fr hi : Int} {L : List Ev} {A : Option Addr}
theorem IsRH.lt (k : IsRH F w g fr hi L A c) : g < w.heap.size := (Array.getElem?_eq_some_iff.1 k.blk).1
theorem IsRH.move (k : IsRH F w g fr hi L A c) (hm : ∀ b, F b → b < w.heap.size → w'.heap[b]? = w.heap[b]?) : IsRH F w' g fr hi L A c :=
  ⟨k.own, (hm g k.own k.lt).trans k.blk, k.row.keep hm, k.le, k.mx⟩
theorem IsRH.mono (k : IsRH F w g fr hi L A c) (hf : ∀ b, F b → F' b) : IsRH F' w g fr hi L A c := ⟨hf g k.own, k.blk, k.row.mono hf, k.le, k.mx⟩
theorem IsRH.below (k : IsRH F w g fr hi L A c) (hb : Below w.heap.size w w') : IsRH F w' g fr hi L A c := k.move fun b _ hl => hb.block b hl
theorem IsRH.turn {S : Nat → Prop} (k : IsRH F w g fr hi L A c) (ht : Turn S w w') (hs : ∀ b, F b → ¬ S b) : IsRH F w' g fr hi L A c := k.move fun b hb hl => ht.block b hl (hs b hb)
theorem IsRH.bound (k : IsRH F w g fr hi L A c) : IsRH (fun b => F b ∧ b < w.heap.size) w g fr hi L A c := ⟨⟨k.own, k.lt⟩, k.blk, k.row.lt, k.le, k.mx⟩
end
/-- its fields, as the walk reads them -/
structure RhAt (w : World) (g : Nat) (fr hi : Int) (v : Value) : Prop where
  c0 : w.cell? ⟨g, 0, none⟩ = some (.int .i64 fr)
  c1 : w.cell? ⟨g, 1, none⟩ = some (.int .i64 hi)
  c2 : w.cell? ⟨g, 2, none⟩ = some v
  fz : ∀ j, w.frozen? ⟨g, j, none⟩ = false
theorem rhAt {w : World} {g : Nat} {fr hi : Int} {v : Value} (hg : w.heap[g]? = some (.cells #[.int .i64 fr, .int .i64 hi, v] 97 (0, 0))) : RhAt w g fr hi v :=
  ⟨(cell_of_row _ _ _ _ _ _ hg).trans rfl, (cell_of_row _ _ _ _ _ _ hg).trans rfl, (cell_of_row _ _ _ _ _ _ hg).trans rfl, fun j => by simp [World.frozen?, hg]⟩

theorem rlow_any {F : Nat → Prop} {g c : Nat} {fr hi : Int} {L : List Ev} {A : Option Addr} (w : World) (k : IsRH F w g fr hi L A c) : Calls Tryd.prog 58 #[.pointer (some ⟨g, 0, none⟩)] w fun e w' => e = .returned (.int .i64 fr) ∧ w = w' := by
  obtain ⟨c0, c1, c2, _⟩ := rhAt k.blk
  clear k
  go_enter Tryd.func58, Tryd.ntmps58
  go_wp2
  go_ret
  exact ⟨rfl, rfl⟩
theorem rhigh_any {F : Nat → Prop} {g c : Nat} {fr hi : Int} {L : List Ev} {A : Option Addr} (w : World) (k : IsRH F w g fr hi L A c) : Calls Tryd.prog 55 #[.pointer (some ⟨g, 0, none⟩)] w fun e w' => e = .returned (.int .i64 hi) ∧ w = w' := by
  obtain ⟨c0, c1, c2, _⟩ := rhAt k.blk
  clear k
  go_enter Tryd.func55, Tryd.ntmps55
  go_wp2
  go_ret
  exact ⟨rfl, rfl⟩

def clampV (v : Int) : Int := min (max v 0) 1152921504606846976
def RNewPost (v : Int) (w : World) (e : Ending) (w' : World) : Prop :=
  ∃ g, e = .returned (.pointer (some ⟨g, 0, none⟩)) ∧ w.heap.size ≤ g ∧ IsRH (fun b => b = g) w' g v v [] none 0 ∧ Below w.heap.size w w'
theorem RNewPost.mk_ (v : Int) (w : World) : RNewPost v w (.returned (.pointer (some ⟨w.heap.size, 0, none⟩))) (w.alloc (.cells #[.int .i64 v, .int .i64 v, .slice none 0 0] 97)) :=
  ⟨w.heap.size, rfl, Nat.le_refl _, ⟨rfl, heap_alloc_new w _, Row.nil _ _ _ _, Nat.le_refl _, Nat.zero_le _⟩, (Below.refl _ _).alloc (Nat.le_refl _) _⟩
theorem rnew_any (v : Int) (w : World) : Calls Tryd.prog 16 #[.int .i64 v] w (RNewPost (clampV v) w) := by
  by_cases h1 : v < 0
  · have e1 : decide (v < 0) = true := by simpa using h1
    have e : clampV v = 0 := by unfold clampV; omega
    rw [e]
    go_enter Tryd.func16, Tryd.ntmps16
    go_wp2
    go_ret
    exact RNewPost.mk_ _ _
  · have e1 : decide (v < 0) = false := by simpa using h1
    by_cases h2 : v > 1152921504606846976
    · have e2 : decide (v > 1152921504606846976) = true := by simpa using h2
      have e : clampV v = 1152921504606846976 := by unfold clampV; omega
      rw [e]
      go_enter Tryd.func16, Tryd.ntmps16
      go_wp2
      go_ret
      exact RNewPost.mk_ _ _
    · have e2 : decide (v > 1152921504606846976) = false := by simpa using h2
      have e : clampV v = v := by unfold clampV; omega
      rw [e]
      go_enter Tryd.func16, Tryd.ntmps16
      go_wp2
      go_ret
      exact RNewPost.mk_ _ _
set_option maxRecDepth 100000 in
theorem rright_any (x : Ev) (w : World) (hs : x.path.size ≤ 1073741824) :
    Calls Tryd.prog 82 #[.agg #[.int .i64 x.ver, .int .i64 x.kind, .bool x.gone, .string x.path, .string x.name]] w fun e w' => e = .returned (.bool (rightE x)) ∧ Below w.heap.size w w' := by
  have hb0 : Below w.heap.size w (w.alloc (.cells #[.int .i64 x.ver, .int .i64 x.kind, .bool x.gone, .string x.path, .string x.name] 41)) := (Below.refl _ _).alloc (Nat.le_refl _) _
  have HB0 := Lib.hid hb0
  clear hb0
  by_cases h1 : x.kind < 0
  · have hr := Lib.hid (show rightE x = false by unfold rightE; rw [show decide (0 ≤ x.kind) = false by simp; omega]; simp)
    have e1 : decide (x.kind < 0) = true := by simpa using h1
    go_enter Tryd.func82, Tryd.ntmps82
    go_wp2
    go_ret
    exact ⟨by rw [hr.out]; rfl, HB0.out⟩
  by_cases h2 : x.kind > 4
  · have hr := Lib.hid (show rightE x = false by unfold rightE; rw [show decide (x.kind ≤ 4) = false by simp; omega]; simp)
    have e1 : decide (x.kind < 0) = false := by simpa using h1
    have e2 : decide (x.kind > 4) = true := by simpa using h2
    go_enter Tryd.func82, Tryd.ntmps82
    go_wp2
    go_ret
    exact ⟨by rw [hr.out]; rfl, HB0.out⟩
  have e1 : decide (x.kind < 0) = false := by simpa using h1
  have e2 : decide (x.kind > 4) = false := by simpa using h2
  have hk : rightE x = (isPath x.path && (if x.kind = 0 then decide (x.name.data.toList = []) else nameB x.name)) := by
    unfold rightE nameB
    rw [show decide (0 ≤ x.kind) = true by simp; omega, show decide (x.kind ≤ 4) = true by simp; omega]; simp
  rcases errPath_cases x.path with ⟨hp, ep⟩ | ⟨hp, ep⟩
  · rw [hp, Bool.true_and] at hk
    have HP := Lib.hid ep
    by_cases h0 : x.kind = 0
    · rw [if_pos h0] at hk
      have e3 : (x.kind == 0) = true := by simpa using h0
      have HK := Lib.hid hk
      clear hk ep hp h1 h2 h0
      go_enter Tryd.func82, Tryd.ntmps82
      go_wp2_with (go_at_call 83; refine (rpath_any _ _ hs).mono ?_; rintro e w1 ⟨rfl, hb1⟩; rw [HP.out]; have HB1 := Lib.hid hb1; obtain ⟨bc, bf⟩ := bcell hb1)
      go_ret
      exact ⟨by rw [HK.out, ← toList_eq]; simp [isEmpty_dec], HB0.out.trans (HB1.out.mono HB0.out.size)⟩
    · rw [if_neg h0] at hk
      have e3 : (x.kind == 0) = false := by simpa using h0
      have HK := Lib.hid hk
      clear hk ep hp h1 h2 h0
      go_enter Tryd.func82, Tryd.ntmps82
      go_wp2_with (first
        | (go_at_call 83; refine (rpath_any _ _ hs).mono ?_; rintro e w1 ⟨rfl, hb1⟩; rw [HP.out]; have HB1 := Lib.hid hb1; obtain ⟨bc, bf⟩ := bcell hb1)
        | (go_at_call 105; refine (rname_any _ _).mono ?_; rintro e w2 ⟨rfl, rfl⟩))
      go_ret
      exact ⟨by rw [HK.out]; rfl, HB0.out.trans (HB1.out.mono HB0.out.size)⟩
  · rw [hp, Bool.false_and] at hk
    have HP := Lib.hid ep
    have HK := Lib.hid hk
    clear hk ep hp h1 h2
    go_enter Tryd.func82, Tryd.ntmps82
    go_wp2_with (go_at_call 83; refine (rpath_any _ _ hs).mono ?_; rintro e w1 ⟨rfl, hb1⟩; rw [HP.out]; have HB1 := Lib.hid hb1; clear hb1)
    go_ret
    exact ⟨by rw [HK.out]; rfl, HB0.out.trans (HB1.out.mono HB0.out.size)⟩

/-- an event of a version further on -/
def Ev.date (v : Int) (e : Ev) : Ev := ⟨wrap64 (e.ver + v), e.kind, e.gone, e.path, e.name⟩
set_option maxRecDepth 100000 in
theorem dated_any (A : Option Addr) (c : Nat) (P : Nat → Prop) (xs : List Ev) (v : Int) (w : World) (hr : Row kEvent P w A xs) (hb : (xs.length + 1) * 56 ≤ 140737488355328) :
    Calls Tryd.prog 54 #[.slice A xs.length c, .int .i64 v] w (CloneEv w (xs.map (Ev.date v))) := by
  go_enter Tryd.func54, Tryd.ntmps54
  go_wp2
  go_loopw [5, 6] (fun lv iv wr => ∃ (k n : Nat) (A2 : Option Addr) (T : List Ev), iv = .int .i64 k ∧ lv = .slice A2 T.length n ∧ k ≤ xs.length ∧ T.length ≤ k ∧ Hid (Own kEvent 41 w.heap.size (fun _ => True) wr (.slice A2 T.length n) T) ∧ Below w.heap.size w wr ∧ Hid (T = (xs.take k).map (Ev.date v))) (fun _ iv _ => xs.length - (intOf iv).toNat)
  case atStart => exact ⟨0, 0, none, [], rfl, rfl, Nat.zero_le _, Nat.le_refl _, Own.nil _ _ _ _ _, Below.refl _ _, by simp [Hid]⟩
  case round =>
    obtain ⟨k, n, A2, T, rfl, rfl, hk, hT, hown, hbr, HT⟩ := hrel
    obtain ⟨wo, rfl⟩ : ∃ wo, wo = wr := ⟨_, rfl⟩
    have hsz := hbr.size
    by_cases hlt : k < xs.length
    · obtain ⟨a, rfl, _, l0, l1, l2, l3, l4⟩ := ev_at (hr.below hbr) k hlt
      have HT2 := Lib.hid (show T ++ [Ev.date v xs[k]] = (xs.take (k + 1)).map (Ev.date v) by rw [List.take_succ_eq_append_getElem hlt, List.map_append, ← HT.out]; rfl)
      have h56 : (T.length + 1) * 56 ≤ 140737488355328 := by omega
      go_upto_region 6 with fail
      go_cut [] (fun wx => EvAt wx ⟨wo.heap.size, 0, none⟩ (⟨wrap64 (xs[k].ver + v), xs[k].kind, xs[k].gone, xs[k].path, xs[k].name⟩ : Ev) ∧ Below wo.heap.size wo wx)
      case first =>
        go_wp2_with fail
        go_meet
        have hg := heap_alloc_new wo (.cells #[.int .i64 (wrap64 (xs[k].ver + v)), .int .i64 xs[k].kind, .bool xs[k].gone, .string xs[k].path, .string xs[k].name] 41)
        exact ⟨⟨(cell_of_row _ _ _ _ _ _ hg).trans rfl, (cell_of_row _ _ _ _ _ _ hg).trans rfl, (cell_of_row _ _ _ _ _ _ hg).trans rfl, (cell_of_row _ _ _ _ _ _ hg).trans rfl, (cell_of_row _ _ _ _ _ _ hg).trans rfl⟩, (Below.refl _ _).alloc (Nat.le_refl _) _⟩
      case rest =>
        obtain ⟨⟨m0, m1, m2, m3, m4⟩, hb2⟩ := hcut
        have HB2 := Lib.hid hb2
        clear hb2
        go_wp2_with (first
          | (at_builtin; refine wpList_app_plain evElem kEvent_plain w.heap.size rfl (.tmp 23) (.tmp 25) rfl (v := .slice A2 T.length n) (xs := T) (ys := [(⟨wrap64 (xs[k].ver + v), xs[k].kind, xs[k].gone, xs[k].path, xs[k].name⟩ : Ev)]) rfl ((hown.out.below HB2.out).alloc _) rfl rfl (Row.newOnePlain (cs := Ev.cells (⟨wrap64 (xs[k].ver + v), xs[k].kind, xs[k].gone, xs[k].path, xs[k].name⟩ : Ev)) kEvent_plain rfl) (by exact h56) (by have := HB2.out.size; simp; omega) ?_; intro A7 c7 w7 happ; have HA7 := Lib.hid happ; clear happ))
        go_roundw
        case rel =>
          have hl1 : (T ++ [Ev.date v xs[k]]).length = T.length + 1 := by rw [List.length_append]; rfl
          refine ⟨k + 1, c7, A7, T ++ [Ev.date v xs[k]], by go_num, by rw [hl1], hlt, by rw [hl1]; omega, by have := HA7.out.own; rw [hl1]; exact this, HA7.out.below ((hbr.trans (HB2.out.mono hsz)).alloc (Nat.le_trans hsz HB2.out.size) _) (by have := HB2.out.size; simp; omega) (fun q hq => (hown.out.block_lt q hq).1), HT2⟩
        case measure => simp [intOf]; omega
    · have hge : ¬ ((k : Int) < (xs.length : Int)) := by omega
      have hT2 := HT.out
      rw [List.take_of_length_le (by omega)] at hT2
      have HT2 := Lib.hid hT2
      clear hT2
      go_wp2
      go_ret
      rw [← HT2.out]
      exact ⟨A2, n, rfl, hown.out, hbr⟩
end Go.Proofs.YtdchffghgajbfaaDoor
