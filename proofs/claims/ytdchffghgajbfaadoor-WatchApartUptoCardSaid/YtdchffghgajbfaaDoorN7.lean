/- The document's hub: of. -/
import Derived.Test.YtdchffghgajbfaaDoorN6
namespace Go.Proofs.YtdchffghgajbfaaDoor
open Go.RowKit

abbrev ofL (L : List Ev) (v : Int) (path : ByteArray) : List Ev := L.filter fun e => decide (e.ver = v) && underB e.path path
set_option maxRecDepth 100000 in
set_option maxHeartbeats 1000000 in
theorem rof_any {F : Nat → Prop} {g c : Nat} {fr hi : Int} {L : List Ev} {A : Option Addr} (v : Int) (path : ByteArray) (w : World) (kh : IsRH F w g fr hi L A c) (hl : L.length ≤ 1000000) (hs : ∀ e ∈ L, e.path.size ≤ 1073741824) :
    Calls Tryd.prog 84 #[.pointer (some ⟨g, 0, none⟩), .int .i64 v, .string path] w (CloneEv w (ofL L v path)) := by
  obtain ⟨c0, c1, c2, _⟩ := rhAt kh.blk
  have hg := kh.lt
  have hrow := kh.row
  have HS := Lib.hid hs
  clear hs kh
  go_enter Tryd.func84, Tryd.ntmps84
  go_wp2
  go_loopw [7, 8] (fun lv iv wr => ∃ (k n : Nat) (A2 : Option Addr) (T : List Ev), iv = .int .i64 k ∧ lv = .slice A2 T.length n ∧ k ≤ L.length ∧ T.length ≤ k ∧ Hid (Own kEvent 41 w.heap.size (fun _ => True) wr (.slice A2 T.length n) T) ∧ Below w.heap.size w wr ∧ Hid (T = ofL (L.take k) v path)) (fun _ iv _ => L.length - (intOf iv).toNat)
  case atStart => exact ⟨0, 0, none, [], rfl, rfl, Nat.zero_le _, Nat.le_refl _, Own.nil _ _ _ _ _, Below.refl _ _, by simp [Hid]⟩
  case round =>
    obtain ⟨k, n, A2, T, rfl, rfl, hk, hT, hown, hbr, HT⟩ := hrel
    obtain ⟨wo, rfl⟩ : ∃ wo, wo = wr := ⟨_, rfl⟩
    have hsz := hbr.size
    have hgo : g < wo.heap.size := by omega
    have d2 : wo.cell? ⟨g, 2, none⟩ = some (.slice A L.length c) := (hbr.cell (p := ⟨g, 2, none⟩) hg).trans c2
    by_cases hlt : k < L.length
    · obtain ⟨a, rfl, _, l0, l1, l2, l3, l4⟩ := ev_at (hrow.below hbr) k hlt
      have hlb : (a.add (k * 5)).block < wo.heap.size := World.block_lt_of_cell? wo _ l0
      obtain ⟨x, hx⟩ : ∃ x, L[k] = x := ⟨_, rfl⟩
      have hstep : ∀ b, (decide (x.ver = v) && underB x.path path) = b → T ++ (if b then [x] else []) = ofL (L.take (k + 1)) v path := fun b hb => by
        subst hb
        rw [List.take_succ_eq_append_getElem hlt, ofL, List.filter_append, ← ofL, ← HT.out, hx]
        congr 1
        simp only [List.filter_cons, List.filter_nil]
      have hxs : x.path.size ≤ 1073741824 := by rw [← hx]; exact HS.out _ (List.getElem_mem _)
      have HSTEP := Lib.hid hstep
      rw [hx] at l0 l1 l2 l3 l4
      clear hx hstep
      by_cases hv : x.ver = v
      · have e1 : (x.ver == v) = true := by simpa using hv
        cases hu : underB x.path path
        · have HT2 := Lib.hid (HSTEP.out false (by rw [hu]; simp))
          have HU := Lib.hid hu
          clear hu hv
          go_wp2_with (go_at_call 79; refine (runder_any _ _ _ hxs).mono ?_; rintro e w2 ⟨rfl, hb2⟩; rw [HU.out])
          go_roundw
          case rel => exact ⟨k + 1, n, A2, T, by go_num, rfl, hlt, by omega, hown.out.below hb2, hbr.trans (hb2.mono hsz), by simpa using HT2⟩
          case measure => simp [intOf]; omega
        · have HT2 := Lib.hid (HSTEP.out true (by rw [hu]; simp [hv]))
          have HU := Lib.hid hu
          have h56 : (T.length + 1) * 56 ≤ 140737488355328 := by omega
          clear hu hv
          go_wp2_with (first
            | (go_at_call 79; refine (runder_any _ _ _ hxs).mono ?_; rintro e w2 ⟨rfl, hb2⟩; rw [HU.out]; have HB2 := Lib.hid hb2
               have f2 := (hb2.cell (p := ⟨g, 2, none⟩) hgo).trans d2
               obtain ⟨m0, m1, m2, m3, m4⟩ := (EvAt.mk l0 l1 l2 l3 l4).below hb2
               clear hb2)
            | (at_builtin; refine wpList_app_plain evElem kEvent_plain w.heap.size rfl (.tmp 40) (.tmp 48) rfl (v := .slice A2 T.length n) (xs := T) (ys := [x]) rfl ((hown.out.below HB2.out).alloc _) rfl rfl (Row.newOnePlain (cs := x.cells) kEvent_plain rfl) (by exact h56) (by have := HB2.out.size; simp; omega) ?_; intro A7 c7 w7 happ; have HA7 := Lib.hid happ; clear happ))
          go_roundw
          case rel =>
            have hl1 : (T ++ [x]).length = T.length + 1 := by rw [List.length_append]; rfl
            refine ⟨k + 1, c7, A7, T ++ [x], by go_num, by rw [hl1], hlt, by rw [hl1]; omega, by have := HA7.out.own; rw [hl1]; exact this, HA7.out.below ((hbr.trans (HB2.out.mono hsz)).alloc (Nat.le_trans hsz HB2.out.size) _) (by have := HB2.out.size; simp; omega) (fun q hq => (hown.out.block_lt q hq).1), by simpa using HT2⟩
          case measure => simp [intOf]; omega
      · have e1 : (x.ver == v) = false := by simpa using hv
        have HT2 := Lib.hid (HSTEP.out false (by simp [hv]))
        clear hv
        go_wp2
        go_roundw
        case rel => exact ⟨k + 1, n, A2, T, by go_num, rfl, hlt, by omega, hown, hbr, by simpa using HT2⟩
        case measure => simp [intOf]; omega
    · have hge : ¬ ((k : Int) < (L.length : Int)) := by omega
      have hT2 := HT.out
      rw [List.take_of_length_le (by omega)] at hT2
      have HT2 := Lib.hid hT2
      clear hT2
      go_wp2
      go_ret
      rw [← HT2.out]
      exact ⟨A2, n, rfl, hown.out, hbr⟩
end Go.Proofs.YtdchffghgajbfaaDoor
