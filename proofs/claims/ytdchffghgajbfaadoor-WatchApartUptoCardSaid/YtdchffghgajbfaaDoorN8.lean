/- The document's hub: Since. -/
import Derived.Test.YtdchffghgajbfaaDoorN7
import Derived.Test.YtdchffghgajbfaaDoorH3
namespace Go.Proofs.YtdchffghgajbfaaDoor
open Go.RowKit

set_option maxRecDepth 100000 in
set_option maxHeartbeats 1000000 in
theorem rsince_main {F : Nat → Prop} {g c : Nat} {fr hi : Int} {L : List Ev} {A : Option Addr} (ls : List (List Ev)) (v most : Int) (path : ByteArray) (w : World) (kh : IsRH F w g fr hi L A c) (hp : isPath path = true) (hmost : ¬ (most < 1 ∨ most > 100))
    (h1 : fr ≤ v) (h2 : v ≤ hi) (h60 : hi ≤ 1152921504606846976) (hv0 : 0 ≤ v) (hl : L.length ≤ 1000000) (hs : ∀ e ∈ L, e.path.size ≤ 1073741824) (hlen : hi - v = ls.length) (hof : ∀ k (h : k < ls.length), ofL L (v + 1 + k) path = inB path ls[k]) (hsum : sumLen ls ≤ 128) :
    Calls Tryd.prog 57 #[.pointer (some ⟨g, 0, none⟩), .int .i64 v, .string path, .int .i64 most] w (SincePost (sinceL hi most path [] ls) w) := by
  have hpsz := isPath_size hp
  have HP := Lib.hid (show errPath path = 0 by unfold errPath; rw [hp]; rfl)
  have KH := Lib.hid kh
  have HOF := Lib.hid hof
  have HS := Lib.hid hs
  have HLEN := Lib.hid hlen
  have e1 : decide (most < 1) = false := by simp; omega
  have e2 : decide (most > 100) = false := by simp; omega
  have e3 : decide (v < fr) = false := by simp; omega
  have e4 : decide (v > hi) = false := by simp; omega
  have hw1 : IntKind.i64.wrap (v + 1) = v + 1 := by rw [IntKind.wrap_i64]; omega
  have hfin := Lib.hid (fun (res : List Ev × Int × Int) (h : sinceL hi most path [] ls = res) => h)
  clear hp kh hof hs hlen hmost h1
  go_enter Tryd.func57, Tryd.ntmps57
  go_wp2_with (go_at_call 83; refine (rpath_any _ _ (by omega)).mono ?_; rintro e w1 ⟨rfl, hb1⟩; rw [HP.out]; have HB1 := Lib.hid hb1; obtain ⟨c0, c1, c2, _⟩ := rhAt (KH.out.below hb1).blk; clear hb1)
  clear e1 e2 e3 e4
  go_loopw [11, 12] (fun tv uv wr => ∃ (k m : Nat) (u : Int) (B : Option Addr) (T : List Ev), uv = .int .i64 u ∧ tv = .slice B T.length m ∧ Hid (u = v + 1 + k) ∧ k ≤ ls.length ∧ T.length ≤ 128 ∧ Hid (Own kEvent 41 w.heap.size (fun _ => True) wr (.slice B T.length m) T) ∧ Hid (Below w.heap.size w wr) ∧
    Hid (T.length + sumLen (ls.drop k) ≤ 128) ∧ Hid (sinceL hi most path T (ls.drop k) = sinceL hi most path [] ls)) (fun _ uv _ => (hi + 1 - intOf uv).toNat)
  case atStart => exact ⟨0, 0, v + 1, none, [], rfl, rfl, by simp [Hid], Nat.zero_le _, Nat.zero_le _, Own.nil _ _ _ _ _, HB1.out, by simpa [Hid] using hsum, rfl⟩
  case round =>
    obtain ⟨k, m, u, B, T, rfl, rfl, hu, hk, hT, hown, hbr, hsm, HR⟩ := hrel
    obtain ⟨wo, rfl⟩ : ∃ wo, wo = wr := ⟨_, rfl⟩
    have hsz := hbr.out.size
    obtain ⟨d0, d1, d2, _⟩ := rhAt (KH.out.below hbr.out).blk
    have hu1 : v + 1 ≤ u := by have := hu.out; omega
    have hu2 : u ≤ hi + 1 := by have := hu.out; have := HLEN.out; omega
    have hw2 : IntKind.i64.wrap (u + 1) = u + 1 := by rw [IntKind.wrap_i64]; omega
    by_cases hlt : k < ls.length
    · have hle : u ≤ hi := by have := hu.out; have := HLEN.out; omega
      have hrof := rof_any u path wo (KH.out.below hbr.out) hl HS.out
      rw [hu.out, HOF.out k hlt, ← hu.out] at hrof
      have hdrop : ls.drop k = ls[k] :: ls.drop (k + 1) := List.drop_eq_getElem_cons hlt
      have hsum2 : T.length + (inB path ls[k]).length + sumLen (ls.drop (k + 1)) ≤ 128 := by
        have := hsm.out
        rw [hdrop, sumLen_cons] at this
        have : (inB path ls[k]).length ≤ ls[k].length := List.length_filter_le _ _
        omega
      have hstop : ∀ (h1 : 0 < T.length) (h2 : 0 < (inB path ls[k]).length) (h3 : most < ((T.length : Int) + (inB path ls[k]).length)), sinceL hi most path [] ls = (T, (T[T.length - 1]'(by omega)).ver, 0) := fun h1 h2 h3 => by
        rw [← HR.out, hdrop]; exact sinceL_stop h1 h2 h3
      have hnext : ∀ (hh : ¬ (0 < T.length ∧ 0 < (inB path ls[k]).length ∧ most < ((T.length : Int) + (inB path ls[k]).length))), sinceL hi most path (T ++ inB path ls[k]) (ls.drop (k + 1)) = sinceL hi most path [] ls := fun hh => by
        rw [← HR.out, hdrop]; exact (sinceL_next hh).symm
      generalize inB path ls[k] = inn at *
      unfold CloneEv at hrof
      have HSTOP := Lib.hid hstop
      have HNEXT := Lib.hid hnext
      have HROF := Lib.hid hrof
      have HSUM2 := Lib.hid hsum2
      have h56 : (T.length + inn.length) * 56 ≤ 140737488355328 := by have := hsum2; omega
      have hu3 : Hid (u + 1 = v + 1 + (k + 1 : Nat)) := by have := hu.out; unfold Hid; omega
      clear hstop hnext hrof hdrop hsum2
      by_cases t1 : 0 < T.length
      · by_cases t2 : 0 < inn.length
        · by_cases t3 : most < ((T.length : Int) + inn.length)
          · have hst := HSTOP.out t1 t2 t3
            have hx : T.length - 1 < T.length := by omega
            have hwl : IntKind.i64.wrap ((T.length : Int) - 1) = ((T.length - 1 : Nat) : Int) := by rw [IntKind.wrap_i64]; omega
            have hf := Lib.hid (fun W (hb : Below wo.heap.size wo W) => SincePost.mk_ hst (w := w) (hown.out.below hb) (hbr.out.trans (hb.mono hsz)))
            obtain ⟨a3, rfl, _, l0, _⟩ := ev_at hown.out.row'.2.1 (T.length - 1) hx
            clear hst
            go_wp2_with (go_at_call 84; refine HROF.out.mono ?_; rintro e w2 ⟨C2, n2, rfl, ho2, hb2⟩; have HO2 := Lib.hid ho2; have HB2 := Lib.hid hb2
                         have m0 := (hb2.cell (World.block_lt_of_cell? wo _ l0)).trans l0
                         clear ho2 hb2)
            go_quiet (fail)
            go_wp2
            go_ret3
            exact (hf.out _ HB2.out).drewN _
          · have t3' : ((T.length : Int) + inn.length) ≤ most := by omega
            go_wp2_with (first
              | (go_at_call 84; refine HROF.out.mono ?_; rintro e w2 ⟨C2, n2, rfl, ho2, hb2⟩; have HO2 := Lib.hid ho2; have HB2 := Lib.hid hb2; clear ho2 hb2)
              | (at_builtin; refine wpList_app_plain evElem kEvent_plain w.heap.size rfl (.tmp 74) (.tmp 75) rfl (v := .slice B T.length m) (xs := T) (ys := inn) rfl (hown.out.below HB2.out) rfl rfl HO2.out.row'.2.1 (by exact h56) (Nat.le_trans hsz HB2.out.size) ?_; intro A7 c7 w7 happ; have HA7 := Lib.hid happ; clear happ))
            go_roundw
            case rel =>
              have hl1 : (T ++ inn).length = T.length + inn.length := List.length_append
              exact ⟨k + 1, c7, u + 1, A7, T ++ inn, by go_num, by rw [hl1], hu3, hlt, by rw [hl1]; have := HSUM2.out; omega, by have := HA7.out.own; rw [hl1]; exact this, HA7.out.below (hbr.out.trans (HB2.out.mono hsz)) (Nat.le_trans hsz HB2.out.size) (fun q hq => (hown.out.block_lt q hq).1), by unfold Hid; rw [hl1]; exact HSUM2.out, HNEXT.out (by omega)⟩
            case measure => simp [intOf]; omega
        · have ht2 : inn.length = 0 := by omega
          have hi0 : inn = [] := List.eq_nil_of_length_eq_zero ht2
          subst hi0
          clear ht2 t2
          have t2 : ¬ 0 < ([] : List Ev).length := by simp
          go_wp2_with (first
            | (go_at_call 84; refine HROF.out.mono ?_; rintro e w2 ⟨C2, n2, rfl, ho2, hb2⟩; have HO2 := Lib.hid ho2; have HB2 := Lib.hid hb2; clear ho2 hb2)
            | (at_builtin; refine wpList_app_plain evElem kEvent_plain w.heap.size rfl (.tmp 74) (.tmp 75) rfl (v := .slice B T.length m) (xs := T) (ys := ([] : List Ev)) rfl (hown.out.below HB2.out) rfl rfl HO2.out.row'.2.1 (by exact h56) (Nat.le_trans hsz HB2.out.size) ?_; intro A7 c7 w7 happ; have HA7 := Lib.hid happ; clear happ))
          go_roundw
          case rel =>
            have hl1 : (T ++ ([] : List Ev)).length = T.length + ([] : List Ev).length := List.length_append
            exact ⟨k + 1, c7, u + 1, A7, T ++ ([] : List Ev), by go_num, by rw [hl1]; rfl, hu3, hlt, by rw [hl1]; have := HSUM2.out; omega, by have := HA7.out.own; rw [hl1]; exact this, HA7.out.below (hbr.out.trans (HB2.out.mono hsz)) (Nat.le_trans hsz HB2.out.size) (fun q hq => (hown.out.block_lt q hq).1), by unfold Hid; rw [hl1]; exact HSUM2.out, HNEXT.out (by omega)⟩
          case measure => simp [intOf]; omega
      · skip
        go_wp2_with (first
          | (go_at_call 84; refine HROF.out.mono ?_; rintro e w2 ⟨C2, n2, rfl, ho2, hb2⟩; have HO2 := Lib.hid ho2; have HB2 := Lib.hid hb2; clear ho2 hb2)
          | (at_builtin; refine wpList_app_plain evElem kEvent_plain w.heap.size rfl (.tmp 74) (.tmp 75) rfl (v := .slice B T.length m) (xs := T) (ys := inn) rfl (hown.out.below HB2.out) rfl rfl HO2.out.row'.2.1 (by exact h56) (Nat.le_trans hsz HB2.out.size) ?_; intro A7 c7 w7 happ; have HA7 := Lib.hid happ; clear happ))
        go_roundw
        case rel =>
          have hl1 : (T ++ inn).length = T.length + inn.length := List.length_append
          exact ⟨k + 1, c7, u + 1, A7, T ++ inn, by go_num, by rw [hl1], hu3, hlt, by rw [hl1]; have := HSUM2.out; omega, by have := HA7.out.own; rw [hl1]; exact this, HA7.out.below (hbr.out.trans (HB2.out.mono hsz)) (Nat.le_trans hsz HB2.out.size) (fun q hq => (hown.out.block_lt q hq).1), by unfold Hid; rw [hl1]; exact HSUM2.out, HNEXT.out (by omega)⟩
        case measure => simp [intOf]; omega
    · have hle : ¬ u ≤ hi := by have := hu.out; have := HLEN.out; omega
      have hkl : ls.drop k = [] := List.drop_eq_nil_of_le (by omega)
      have hres : sinceL hi most path [] ls = (T, hi, 0) := by rw [← HR.out, hkl]; rfl
      have hf := Lib.hid (SincePost.mk_ hres (w := w) hown.out hbr.out)
      clear hkl hres
      go_wp2
      go_quiet (fail)
      go_wp2
      go_ret3
      exact hf.out.drewN _

set_option maxRecDepth 100000 in
theorem rsince_errs {F : Nat → Prop} {g c : Nat} {fr hi : Int} {L : List Ev} {A : Option Addr} (res : List Ev × Int × Int) (v most : Int) (path : ByteArray) (w : World) (kh : IsRH F w g fr hi L A c) (hpz : path.size ≤ 1073741824)
    (h1 : most < 1 ∨ most > 100 → res = ([], 0, 1)) (h2 : ¬ (most < 1 ∨ most > 100) → isPath path = false → res = ([], 0, 41)) (h3 : ¬ (most < 1 ∨ most > 100) → isPath path = true → v < fr → res = ([], 0, 220)) (h4 : ¬ (most < 1 ∨ most > 100) → isPath path = true → ¬ v < fr → v > hi → res = ([], 0, 221))
    (hb : (most < 1 ∨ most > 100) ∨ isPath path = false ∨ v < fr ∨ v > hi) :
    Calls Tryd.prog 57 #[.pointer (some ⟨g, 0, none⟩), .int .i64 v, .string path, .int .i64 most] w (SincePost res w) := by
  by_cases hmost : most < 1 ∨ most > 100
  · have hr := Lib.hid (h1 hmost)
    clear h1 h2 h3 h4 hb
    rcases hmost with h | h
    · have e1 : decide (most < 1) = true := by simpa using h
      go_enter Tryd.func57, Tryd.ntmps57
      go_wp2
      go_ret3
      exact SincePost.none_ hr.out (Below.refl _ _)
    · have e1 : decide (most < 1) = false := by simp; omega
      have e2 : decide (most > 100) = true := by simpa using h
      go_enter Tryd.func57, Tryd.ntmps57
      go_wp2
      go_ret3
      exact SincePost.none_ hr.out (Below.refl _ _)
  · have e1 : decide (most < 1) = false := by simp; omega
    have e2 : decide (most > 100) = false := by simp; omega
    have KH := Lib.hid kh
    rcases errPath_cases path with ⟨hp, ep⟩ | ⟨hp, ep⟩
    · have HP := Lib.hid ep
      by_cases hlo : v < fr
      · have hr := Lib.hid (h3 hmost hp hlo)
        have e3 : decide (v < fr) = true := by simpa using hlo
        clear h1 h2 h3 h4 hb hmost hp ep kh
        go_enter Tryd.func57, Tryd.ntmps57
        go_wp2_with (go_at_call 83; refine (rpath_any _ _ hpz).mono ?_; rintro e w1 ⟨rfl, hb1⟩; rw [HP.out]; have HB1 := Lib.hid hb1; obtain ⟨c0, c1, c2, _⟩ := rhAt (KH.out.below hb1).blk; clear hb1)
        go_ret3
        exact SincePost.none_ hr.out HB1.out
      · have hhi : v > hi := by rcases hb with h | h | h | h <;> simp_all
        have hr := Lib.hid (h4 hmost hp hlo hhi)
        have e3 : decide (v < fr) = false := by simpa using hlo
        have e4 : decide (v > hi) = true := by simpa using hhi
        clear h1 h2 h3 h4 hb hmost hp ep kh
        go_enter Tryd.func57, Tryd.ntmps57
        go_wp2_with (go_at_call 83; refine (rpath_any _ _ hpz).mono ?_; rintro e w1 ⟨rfl, hb1⟩; rw [HP.out]; have HB1 := Lib.hid hb1; obtain ⟨c0, c1, c2, _⟩ := rhAt (KH.out.below hb1).blk; clear hb1)
        go_ret3
        exact SincePost.none_ hr.out HB1.out
    · have HP := Lib.hid ep
      have hr := Lib.hid (h2 hmost hp)
      clear h1 h2 h3 h4 hb hmost hp ep kh
      go_enter Tryd.func57, Tryd.ntmps57
      go_wp2_with (go_at_call 83; refine (rpath_any _ _ hpz).mono ?_; rintro e w1 ⟨rfl, hb1⟩; rw [HP.out]; have HB1 := Lib.hid hb1; clear hb1)
      go_ret3
      exact SincePost.none_ hr.out HB1.out

/-- the document's hub of a history -/
structure RHist (F : Nat → Prop) (w : World) (g : Nat) (first : Int) (ps : List (List Ev)) (d : Nat) : Prop where
  ex : ∃ A c, IsRH F w g (first + d) (first + ps.length) (ps.drop d).flatten A c
  hist : HistOk first ps d
  texts : ∀ l ∈ ps, ∀ e ∈ l, isPath e.path = true
section
variable {F F' : Nat → Prop} {w w' : World} {g : Nat} {first : Int} {ps : List (List Ev)} {d : Nat}
theorem RHist.move (k : RHist F w g first ps d) (hm : ∀ b, F b → b < w.heap.size → w'.heap[b]? = w.heap[b]?) : RHist F w' g first ps d := let ⟨A, c, h⟩ := k.ex; ⟨⟨A, c, h.move hm⟩, k.hist, k.texts⟩
theorem RHist.mono (k : RHist F w g first ps d) (hf : ∀ b, F b → F' b) : RHist F' w g first ps d := let ⟨A, c, h⟩ := k.ex; ⟨⟨A, c, h.mono hf⟩, k.hist, k.texts⟩
theorem RHist.below (k : RHist F w g first ps d) (hb : Below w.heap.size w w') : RHist F w' g first ps d := k.move fun b _ hl => hb.block b hl
theorem RHist.turn {S : Nat → Prop} (k : RHist F w g first ps d) (ht : Turn S w w') (hs : ∀ b, F b → ¬ S b) : RHist F w' g first ps d := k.move fun b hb hl => ht.block b hl (hs b hb)
theorem RHist.bound (k : RHist F w g first ps d) : RHist (fun b => F b ∧ b < w.heap.size) w g first ps d := let ⟨A, c, h⟩ := k.ex; ⟨⟨A, c, h.bound⟩, k.hist, k.texts⟩
theorem RHist.low (k : RHist F w g first ps d) : Calls Tryd.prog 58 #[.pointer (some ⟨g, 0, none⟩)] w fun e w' => e = .returned (.int .i64 (first + d)) ∧ w = w' := let ⟨_, _, h⟩ := k.ex; rlow_any w h
theorem RHist.high (k : RHist F w g first ps d) : Calls Tryd.prog 55 #[.pointer (some ⟨g, 0, none⟩)] w fun e w' => e = .returned (.int .i64 (first + ps.length)) ∧ w = w' := let ⟨_, _, h⟩ := k.ex; rhigh_any w h
end
theorem rsince_any {F : Nat → Prop} {g : Nat} {first : Int} {ps : List (List Ev)} {d : Nat} (v most : Int) (path : ByteArray) (w : World) (k : RHist F w g first ps d) (hpz : path.size ≤ 1073741824) :
    Calls Tryd.prog 57 #[.pointer (some ⟨g, 0, none⟩), .int .i64 v, .string path, .int .i64 most] w (SincePost (hubSince (hubOf first ps d) v path most) w) := by
  obtain ⟨⟨A, c, kh⟩, hh, ht⟩ := k
  by_cases hb : (most < 1 ∨ most > 100) ∨ isPath path = false ∨ v < first + d ∨ v > first + ps.length
  · refine rsince_errs _ v most path w kh hpz ?_ ?_ ?_ ?_ hb
    · intro h; unfold hubSince; rw [if_pos h]
    · intro h h2; unfold hubSince; rw [if_neg h, if_pos h2]
    · intro h h2 h3; unfold hubSince; rw [if_neg h, if_neg (by rw [h2]; simp), if_pos (by exact h3)]
    · intro h h2 h3 h4; unfold hubSince; rw [if_neg h, if_neg (by rw [h2]; simp), if_neg (by exact h3), if_pos (by exact h4)]
  · have hm : ¬ (most < 1 ∨ most > 100) := fun h => hb (.inl h)
    have hp : isPath path = true := by cases hq : isPath path <;> simp_all
    have h1 : ¬ v < first + d := fun h => hb (.inr (.inr (.inl h)))
    have h2 : ¬ v > first + ps.length := fun h => hb (.inr (.inr (.inr h)))
    have hf0 := hh.f0
    have hhi := hh.hi
    obtain ⟨n, hn⟩ : ∃ n : Nat, v = first + n := ⟨(v - first).toNat, by omega⟩
    subst hn
    have hr : hubSince (hubOf first ps d) (first + n) path most = sinceL (first + ps.length) most path [] (ps.drop n) := by
      unfold hubSince
      rw [if_neg hm, if_neg (by rw [hp]; simp), if_neg (by simp [hubOf]; omega), if_neg (by simp [hubOf]; omega)]
      simp only [hubOf]
      rw [List.drop_drop, show d + (first + n - (first + d)).toNat = n by omega]
    have hlen : (ps.drop d).flatten.length ≤ 128 := by rw [flatten_sumL]; exact hh.fit
    rw [hr]
    refine rsince_main (ps.drop n) (first + n) most path w kh hp hm (by omega) (by omega) hhi (by omega) (by omega) ?_ (by rw [List.length_drop]; omega) ?_ ?_
    · intro e he
      obtain ⟨l, hl, he⟩ := List.mem_flatten.1 he
      have := isPath_size (ht l (List.mem_of_mem_drop hl) e he)
      omega
    · intro k hk
      rw [List.length_drop] at hk
      have := of_version (d := d) (i := n + k) hh.ver (by omega) (by omega) path
      rw [List.getElem_drop]
      have e : first + (n : Int) + 1 + (k : Int) = first + 1 + ((n + k : Nat) : Int) := by omega
      rw [e]; exact this
    · exact Nat.le_trans (sumL_drop_le ps d n (by omega)) hh.fit
end Go.Proofs.YtdchffghgajbfaaDoor
