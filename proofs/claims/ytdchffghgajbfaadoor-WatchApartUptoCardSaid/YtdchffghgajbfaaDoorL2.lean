/- (*Pushed).pieces. -/
import Derived.Test.YtdchffghgajbfaaDoorL1
import Derived.Test.YtdchffghgajbfaaDoorH3
import Derived.Test.YtdchffghgajbfaaDoorH5
namespace Go.Proofs.YtdchffghgajbfaaDoor
open Go.RowKit

theorem Told.vers {first : Int} {ps : List (List Ev)} {d v : Nat} {path : ByteArray} {most : Int} {l : List Ev} {k : Nat} (h : HistOk first ps d) (t : Told first ps v path most l k) : ∀ e ∈ l, first + v < e.ver ∧ e.ver ≤ first + k := by
  intro e he
  rw [t.eq, List.mem_flatMap] at he
  obtain ⟨x, hx, he⟩ := he
  obtain ⟨i, hi, rfl⟩ := List.getElem_of_mem hx
  rw [List.length_take, List.length_drop] at hi
  rw [List.getElem_take, List.getElem_drop] at he
  have := h.ver (v + i) (by have := t.kle; omega) e (List.mem_filter.1 he).1
  have := t.le
  omega
theorem Told.rest {first : Int} {ps : List (List Ev)} {v : Nat} {path : ByteArray} {most : Int} {l : List Ev} {k : Nat} (t : Told first ps v path most l k) : l ++ (ps.drop k).flatMap (inP path) = (ps.drop v).flatMap (inP path) := by
  have e : ps.drop v = (ps.drop v).take (k - v) ++ ps.drop k := by
    have := List.take_append_drop (k - v) (ps.drop v)
    rw [List.drop_drop, show v + (k - v) = k by have := t.le; omega] at this
    exact this.symm
  rw [t.eq]; conv => rhs; rw [e, List.flatMap_append]
theorem flat_le (ps : List (List Ev)) (path : ByteArray) : (ps.flatMap (inP path)).length ≤ sumL ps := by
  induction ps with
  | nil => simp [sumL]
  | cons l ps ih => rw [List.flatMap_cons, List.length_append, sumL_cons]; have : (inP path l).length ≤ l.length := List.length_filter_le _ _; omega

def SinceTold (l : List Ev) (v : Int) (w : World) (e : Ending) (w' : World) : Prop :=
  ∃ A c, e = .returned (.tuple #[.slice A l.length c, .int .i64 v, .int .i64 0]) ∧ Own kEvent 41 w.heap.size (fun _ => True) w' (.slice A l.length c) l ∧ Below w.heap.size w w'
def PiecesPost (all : List Ev) (ok : Bool) (w : World) (e : Ending) (w' : World) : Prop :=
  ∃ A c, e = .returned (.tuple #[.slice A all.length c, .bool ok]) ∧ Own kEvent 41 w.heap.size (fun _ => True) w' (.slice A all.length c) all ∧ Below w.heap.size w w'

set_option maxRecDepth 100000 in
theorem pieces_bad {F : Nat → Prop} (gp gh : Nat) (h : HubS) (v most : Int) (path : ByteArray) (w : World) (hm : Ml w) (hp0 : w.cell? ⟨gp, 0, none⟩ = some (.pointer (some ⟨gh, 0, none⟩))) (kh : IsHub F w gh h) (hp : isPath path = false) (hmost : 1 ≤ most ∧ most ≤ 100) :
    Calls Tryd.prog 21 #[.pointer (some ⟨gp, 0, none⟩), .int .i64 v, .string path, .int .i64 most] w (PiecesPost [] false w) := by
  have hres : hubSince h v path most = ([], 0, 41) := by unfold hubSince; rw [if_neg (by omega), if_pos hp]
  have hc := fun (W : World) hm hk => since_any (F := F) gh h v most path W hm hk
  rw [hres] at hc
  have HC := Lib.hid hc
  clear hc hres hp
  go_enter Tryd.func21, Tryd.ntmps21
  go_wp2
  refine wp_loop_rounds 1 ?_
  rw [rounds_succ]
  go_wp2_with (go_at_call 22; refine (HC.out _ hm kh).mono ?_; rintro e w2 ⟨A, c, rfl, _, hb⟩; have HB := Lib.hid hb; clear hb)
  go_ret2
  exact ⟨none, 0, rfl, Own.nil _ _ _ _ _, HB.out⟩

theorem own_ev_last {base c : Nat} {w : World} {A : Option Addr} {l : List Ev} (h : Own kEvent 41 base (fun _ => True) w (.slice A l.length c) l) (hne : l ≠ []) :
    ∃ a, A = some a ∧ w.cell? a = some (.int .i64 (l.head hne).ver) ∧ w.cell? (a.add ((l.length - 1) * 5)) = some (.int .i64 (l.getLast hne).ver) := by
  have hl := List.length_pos_iff.2 hne
  obtain ⟨a, ha, _, e0, _⟩ := ev_at h.row'.2.1 0 hl
  obtain ⟨b, hb, _, f0, _⟩ := ev_at h.row'.2.1 (l.length - 1) (by omega)
  obtain rfl : a = b := by rw [ha] at hb; exact Option.some.inj hb
  refine ⟨a, ha, ?_, ?_⟩
  · rw [List.head_eq_getElem]; simpa [Addr.add] using e0
  · rw [List.getLast_eq_getElem]; exact f0

theorem own_ev_grown {base : Nat} {P : Nat → Prop} {w w' : World} {v : Value} {xs : List Ev} {u : Option Nat} (h : Own kEvent 41 base P w v xs) (hg : w.grownBy w' u) (hu : ∀ k, u = some k → k < base) : Own kEvent 41 base P w' v xs := by
  refine Own.plain kEvent_plain ((Own.plain (Q := fun _ => False) kEvent_plain h).move fun k hk hlt => ?_)
  rcases hk with hk | hk
  · exact hg.block k hlt fun e => by have := hu k e.symm; have := (h.block_lt k hk).1; omega
  · exact hk.elim
theorem PiecesPost.mk_ {X all l : List Ev} {ok : Bool} {w w' : World} {A : Option Addr} {c : Nat} (hx : all ++ l = X) (ho : Own kEvent 41 w.heap.size (fun _ => True) w' (.slice A (all.length + l.length) c) (all ++ l)) (hb : Below w.heap.size w w') :
    PiecesPost X ok w (.returned (.tuple #[.slice A (all.length + l.length) c, .bool ok])) w' := by
  subst hx
  exact ⟨A, c, by rw [List.length_append], by rw [List.length_append]; exact ho, hb⟩

set_option maxRecDepth 100000 in
set_option maxHeartbeats 2000000 in
theorem pieces_ok {F : Nat → Prop} (gp gh : Nat) (first : Int) (ps : List (List Ev)) (d v0 : Nat) (most : Int) (path : ByteArray) (w : World) (hm : Ml w) (hp0 : w.cell? ⟨gp, 0, none⟩ = some (.pointer (some ⟨gh, 0, none⟩)))
    (kh : IsHub F w gh (hubOf first ps d)) (hh : HistOk first ps d) (hp : isPath path = true) (hmost : 1 ≤ most ∧ most ≤ 100) (h1 : d ≤ v0) (h2 : v0 ≤ ps.length) :
    Calls Tryd.prog 21 #[.pointer (some ⟨gp, 0, none⟩), .int .i64 (first + v0), .string path, .int .i64 most] w (PiecesPost ((ps.drop v0).flatMap (inP path)) true w) := by
  obtain ⟨hm1, hm2⟩ := hmost
  have hlen : ((ps.drop v0).flatMap (inP path)).length ≤ 128 := Nat.le_trans (flat_le _ _) (Nat.le_trans (sumL_drop_le ps d v0 h1) hh.fit)
  have hvl : ps.length ≤ v0 + 128 := by
    have := kh.2.1.vlen
    simp [hubOf] at this; omega
  have hf0 := hh.f0
  have hf1 := hh.hi
  have HH := Lib.hid hh
  have hgp := World.block_lt_of_cell? _ _ hp0
  clear hh
  go_enter Tryd.func21, Tryd.ntmps21
  go_wp2
  go_loopw [1, 10, 11] (fun vv av nv wr => ∃ (v n c : Nat) (A : Option Addr) (all : List Ev), vv = .int .i64 (first + v) ∧ av = .slice A all.length c ∧ nv = .int .i64 n ∧ v0 ≤ v ∧ v ≤ ps.length ∧ n ≤ v - v0 ∧
    Own kEvent 41 w.heap.size (fun _ => True) wr (.slice A all.length c) all ∧ Below w.heap.size w wr ∧ Hid (all ++ (ps.drop v).flatMap (inP path) = (ps.drop v0).flatMap (inP path))) (fun vv _ _ _ => (first + ps.length + 1 - intOf vv).toNat)
  case atStart => exact ⟨v0, 0, 0, none, [], rfl, rfl, rfl, Nat.le_refl _, h2, by omega, Own.nil _ _ _ _ _, Below.refl _ _, rfl⟩
  case round =>
    obtain ⟨v, n, c, A, all, rfl, rfl, rfl, hv0, hvp, hn, hown, hbr, HALL⟩ := hrel
    obtain ⟨l, k, hs, ht⟩ := hubSince_told HH.out v (by omega) hvp path hp most ⟨hm1, hm2⟩
    have hcall : ∀ W, Ml W → IsHub F W gh (hubOf first ps d) → Calls Tryd.prog 22 #[.pointer (some ⟨gh, 0, none⟩), .int .i64 (first + v), .string path, .int .i64 most] W (SinceTold l (first + k) W) := fun W a b => by
      have := since_any (F := F) gh (hubOf first ps d) (first + v) most path W a b
      rw [hs] at this
      exact this
    have hvk := ht.le
    have hkp := ht.kle
    have hrest := ht.rest
    have hall128 : all.length + l.length ≤ 128 := by
      have := congrArg List.length HALL.out
      rw [← hrest] at this
      simp only [List.length_append] at this
      omega
    have HREST := Lib.hid (show (all ++ l) ++ (ps.drop k).flatMap (inP path) = (ps.drop v0).flatMap (inP path) by rw [List.append_assoc, hrest, HALL.out])
    have HCALL := Lib.hid hcall
    have hmr := hm.below hbr
    have khr := kh.below hbr
    have hpr : wr.cell? ⟨gp, 0, none⟩ = some (.pointer (some ⟨gh, 0, none⟩)) := (hbr.cell (p := ⟨gp, 0, none⟩) hgp).trans hp0
    have hn1 : (n : Int) < 1000 := by omega
    have hsz := hbr.size
    have hgpr : gp < wr.heap.size := Nat.lt_of_lt_of_le hgp hsz
    have h56 : (all.length + l.length) * 56 ≤ 140737488355328 := by omega
    clear hcall hs hrest
    obtain ⟨kk, hkk⟩ : ∃ kk : Int, first + (k : Int) = kk := ⟨_, rfl⟩
    obtain ⟨v1, hv1⟩ : ∃ v1 : Int, first + (v : Int) = v1 := ⟨_, rfl⟩
    obtain ⟨tt, htt⟩ : ∃ tt : Int, first + (ps.length : Int) = tt := ⟨_, rfl⟩
    have HHI := Lib.hid (show (hubOf first ps d).high = tt from htt)
    rw [hkk, hv1] at HCALL
    rw [hv1]
    have hv3 : decide (kk < v1) = false := by simp; omega
    have hv4 : decide (kk > tt) = false := by simp; omega
    by_cases hne : l = []
    · have hk : k = ps.length := by
        rcases ht.last with h | ⟨h, _⟩
        · exact h
        · exact absurd hne h
      have hl0 : ¬ 0 < l.length := by rw [hne]; simp
      have hl1 : decide ((l.length : Int) > most) = false := by rw [hne]; simp; omega
      have HF := Lib.hid (show all ++ l = (ps.drop v0).flatMap (inP path) by have := HREST.out; rw [hk] at this; simpa using this)
      have hkt : (kk == tt) = true := by simp; omega
      clear hne hk ht hkk hv1 htt
      go_wp2_with (first
        | (go_at_call 22; refine (HCALL.out _ hmr khr).mono ?_; rintro e w2 ⟨A2, c2, rfl, hown2, hb2⟩; have kh2 := khr.below hb2; have hp2 : w2.cell? ⟨gp, 0, none⟩ = some (.pointer (some ⟨gh, 0, none⟩)) := (hb2.cell (p := ⟨gp, 0, none⟩) hgpr).trans hpr; have HO2 := Lib.hid hown2; have HB2 := Lib.hid hb2; clear hown2 hb2)
        | (go_at_call 20; refine (high_any gh _ _ (by assumption)).mono ?_; rintro e w3 ⟨rfl, rfl⟩; rw [HHI.out]))
      go_quiet (fail)
      have HX := Lib.hid ((hown.below HB2.out).below (below_drewN (Below.refl w2.heap.size w2) nq))
      have HY := Lib.hid (HO2.out.below (below_drewN (Below.refl w2.heap.size w2) nq))
      have HZ := Lib.hid (below_drewN HB2.out nq)
      go_wp2_with (first
        | (at_builtin; refine wpList_app_plain evElem kEvent_plain w.heap.size rfl (.tmp 87) (.tmp 88) rfl (v := .slice A all.length c) (xs := all) (ys := l) rfl HX.out rfl rfl HY.out.row'.2.1 h56 (Nat.le_trans hsz HZ.out.size) ?_; intro A5 c5 w5 happ
           have hb5 := happ.below (hbr.trans (HZ.out.mono hsz)) (Nat.le_trans hsz HZ.out.size) (fun q hq => (hown.block_lt q hq).1)
           have hkh : IsHub F w5 gh (hubOf first ps d) := kh.below hb5
           have hp5 : w5.cell? ⟨gp, 0, none⟩ = some (.pointer (some ⟨gh, 0, none⟩)) := (hb5.cell (p := ⟨gp, 0, none⟩) hgp).trans hp0
           have HA5 := Lib.hid happ.own
           have HB5 := Lib.hid hb5
           clear happ hb5)
        | (go_at_call 20; refine (high_any gh _ _ (by assumption)).mono ?_; rintro e w3 ⟨rfl, rfl⟩; rw [HHI.out]))
      go_ret2
      exact PiecesPost.mk_ HF.out HA5.out HB5.out
    · have hlpos := List.length_pos_iff.2 hne
      have hl00 : ((l.length : Int) == 0) = false := by simp; omega
      have hwl : IntKind.i64.wrap ((l.length : Int) - 1) = ((l.length - 1 : Nat) : Int) := by rw [IntKind.wrap_i64]; omega
      have hvers := ht.vers HH.out
      have hvk2 : v < k := by
        rcases Nat.lt_or_ge v k with h | h
        · exact h
        · exact absurd (by rw [ht.eq, show k - v = 0 by omega]; simp) hne
      obtain ⟨h0, hh0⟩ : ∃ h0, (l.head hne).ver = h0 := ⟨_, rfl⟩
      obtain ⟨h9, hh9⟩ : ∃ h9, (l.getLast hne).ver = h9 := ⟨_, rfl⟩
      have hv5 : decide (h0 ≤ v1) = false := by have := hvers _ (List.head_mem hne); simp; omega
      have hv6 : decide (h9 > kk) = false := by have := hvers _ (List.getLast_mem hne); simp; omega
      have hv7 : decide ((l.length : Int) > most) = true → (h0 != h9) = false := fun hx => by
        rcases ht.fits with h | ⟨x, h⟩
        · simp at hx; omega
        · have a1 := h _ (List.head_mem hne)
          have a2 := h _ (List.getLast_mem hne)
          simp; omega
      have hlast : k ≠ ps.length → h9 = kk := fun hx => by
        rcases ht.last with h | ⟨_, h⟩
        · exact absurd h hx
        · rw [← hh9, h, hkk]
      have HV7 := Lib.hid hv7
      have HLAST := Lib.hid hlast
      clear hvers ht hv7 hlast
      have hfit0 : (all ++ l) ++ (ps.drop k).flatMap (inP path) = (ps.drop v0).flatMap (inP path) := HREST.out
      by_cases hk : k = ps.length
      · have hkt : (kk == tt) = true := by simp; omega
        have HF := Lib.hid (show all ++ l = (ps.drop v0).flatMap (inP path) by have := HREST.out; rw [hk] at this; simpa using this)
        clear hk hkk hv1 htt hfit0
        by_cases hbig : (l.length : Int) > most
        · have hl1 : decide ((l.length : Int) > most) = true := by simpa using hbig
          have hv8 := HV7.out hl1
          go_wp2_with (first
            | (go_at_call 22; refine (HCALL.out _ hmr khr).mono ?_; rintro e w2 ⟨A2, c2, rfl, hown2, hb2⟩; have kh2 := khr.below hb2; have hp2 : w2.cell? ⟨gp, 0, none⟩ = some (.pointer (some ⟨gh, 0, none⟩)) := (hb2.cell (p := ⟨gp, 0, none⟩) hgpr).trans hpr; obtain ⟨a2, rfl, l0, l9⟩ := own_ev_last hown2 hne; rw [hh0] at l0; rw [hh9] at l9; have HO2 := Lib.hid hown2; have HB2 := Lib.hid hb2; clear hown2 hb2)
            | (go_at_call 20; refine (high_any gh _ _ (by assumption)).mono ?_; rintro e w3 ⟨rfl, rfl⟩; rw [HHI.out]))
          go_quiet (fail)
          have HX := Lib.hid ((hown.below HB2.out).below (below_drewN (Below.refl w2.heap.size w2) nq))
          have HY := Lib.hid (HO2.out.below (below_drewN (Below.refl w2.heap.size w2) nq))
          have HZ := Lib.hid (below_drewN HB2.out nq)
          go_wp2_with (first
            | (at_builtin; refine wpList_app_plain evElem kEvent_plain w.heap.size rfl (.tmp 87) (.tmp 88) rfl (v := .slice A all.length c) (xs := all) (ys := l) rfl HX.out rfl rfl HY.out.row'.2.1 h56 (Nat.le_trans hsz HZ.out.size) ?_; intro A5 c5 w5 happ
               have hb5 := happ.below (hbr.trans (HZ.out.mono hsz)) (Nat.le_trans hsz HZ.out.size) (fun q hq => (hown.block_lt q hq).1)
               have hkh : IsHub F w5 gh (hubOf first ps d) := kh.below hb5
               have hp5 : w5.cell? ⟨gp, 0, none⟩ = some (.pointer (some ⟨gh, 0, none⟩)) := (hb5.cell (p := ⟨gp, 0, none⟩) hgp).trans hp0
               have HA5 := Lib.hid happ.own
               have HB5 := Lib.hid hb5
               clear happ hb5)
            | (go_at_call 20; refine (high_any gh _ _ (by assumption)).mono ?_; rintro e w3 ⟨rfl, rfl⟩; rw [HHI.out]))
          go_ret2
          exact PiecesPost.mk_ HF.out HA5.out HB5.out
        · have hl1 : decide ((l.length : Int) > most) = false := by simpa using hbig
          go_wp2_with (first
            | (go_at_call 22; refine (HCALL.out _ hmr khr).mono ?_; rintro e w2 ⟨A2, c2, rfl, hown2, hb2⟩; have kh2 := khr.below hb2; have hp2 : w2.cell? ⟨gp, 0, none⟩ = some (.pointer (some ⟨gh, 0, none⟩)) := (hb2.cell (p := ⟨gp, 0, none⟩) hgpr).trans hpr; obtain ⟨a2, rfl, l0, l9⟩ := own_ev_last hown2 hne; rw [hh0] at l0; rw [hh9] at l9; have HO2 := Lib.hid hown2; have HB2 := Lib.hid hb2; clear hown2 hb2)
            | (go_at_call 20; refine (high_any gh _ _ (by assumption)).mono ?_; rintro e w3 ⟨rfl, rfl⟩; rw [HHI.out]))
          go_quiet (fail)
          have HX := Lib.hid ((hown.below HB2.out).below (below_drewN (Below.refl w2.heap.size w2) nq))
          have HY := Lib.hid (HO2.out.below (below_drewN (Below.refl w2.heap.size w2) nq))
          have HZ := Lib.hid (below_drewN HB2.out nq)
          go_wp2_with (first
            | (at_builtin; refine wpList_app_plain evElem kEvent_plain w.heap.size rfl (.tmp 87) (.tmp 88) rfl (v := .slice A all.length c) (xs := all) (ys := l) rfl HX.out rfl rfl HY.out.row'.2.1 h56 (Nat.le_trans hsz HZ.out.size) ?_; intro A5 c5 w5 happ
               have hb5 := happ.below (hbr.trans (HZ.out.mono hsz)) (Nat.le_trans hsz HZ.out.size) (fun q hq => (hown.block_lt q hq).1)
               have hkh : IsHub F w5 gh (hubOf first ps d) := kh.below hb5
               have hp5 : w5.cell? ⟨gp, 0, none⟩ = some (.pointer (some ⟨gh, 0, none⟩)) := (hb5.cell (p := ⟨gp, 0, none⟩) hgp).trans hp0
               have HA5 := Lib.hid happ.own
               have HB5 := Lib.hid hb5
               clear happ hb5)
            | (go_at_call 20; refine (high_any gh _ _ (by assumption)).mono ?_; rintro e w3 ⟨rfl, rfl⟩; rw [HHI.out]))
          go_ret2
          exact PiecesPost.mk_ HF.out HA5.out HB5.out
      · have hkt : (kk == tt) = false := by simp; omega
        have hv9 : (h9 != kk) = false := by have := HLAST.out hk; simp; omega
        by_cases hbig : (l.length : Int) > most
        · have hl1 : decide ((l.length : Int) > most) = true := by simpa using hbig
          have hv8 := HV7.out hl1
          go_wp2_with (first
            | (go_at_call 22; refine (HCALL.out _ hmr khr).mono ?_; rintro e w2 ⟨A2, c2, rfl, hown2, hb2⟩; have kh2 := khr.below hb2; have hp2 : w2.cell? ⟨gp, 0, none⟩ = some (.pointer (some ⟨gh, 0, none⟩)) := (hb2.cell (p := ⟨gp, 0, none⟩) hgpr).trans hpr; obtain ⟨a2, rfl, l0, l9⟩ := own_ev_last hown2 hne; rw [hh0] at l0; rw [hh9] at l9; have HO2 := Lib.hid hown2; have HB2 := Lib.hid hb2; clear hown2 hb2)
            | (go_at_call 20; refine (high_any gh _ _ (by assumption)).mono ?_; rintro e w3 ⟨rfl, rfl⟩; rw [HHI.out]))
          go_quiet (fail)
          have HX := Lib.hid ((hown.below HB2.out).below (below_drewN (Below.refl w2.heap.size w2) nq))
          have HY := Lib.hid (HO2.out.below (below_drewN (Below.refl w2.heap.size w2) nq))
          have HZ := Lib.hid (below_drewN HB2.out nq)
          go_wp2_with (first
            | (at_builtin; refine wpList_app_plain evElem kEvent_plain w.heap.size rfl (.tmp 87) (.tmp 88) rfl (v := .slice A all.length c) (xs := all) (ys := l) rfl HX.out rfl rfl HY.out.row'.2.1 h56 (Nat.le_trans hsz HZ.out.size) ?_; intro A5 c5 w5 happ
               have hb5 := happ.below (hbr.trans (HZ.out.mono hsz)) (Nat.le_trans hsz HZ.out.size) (fun q hq => (hown.block_lt q hq).1)
               have hkh : IsHub F w5 gh (hubOf first ps d) := kh.below hb5
               have hp5 : w5.cell? ⟨gp, 0, none⟩ = some (.pointer (some ⟨gh, 0, none⟩)) := (hb5.cell (p := ⟨gp, 0, none⟩) hgp).trans hp0
               have HA5 := Lib.hid happ.own
               have HB5 := Lib.hid hb5
               obtain ⟨_, e9, _, l95⟩ := own_ev_last (own_ev_grown HY.out happ.grown (fun q hq => (hown.block_lt q hq).2)) hne
               obtain rfl := Option.some.inj e9
               rw [hh9] at l95
               clear e9
               clear happ hb5)
            | (go_at_call 20; refine (high_any gh _ _ (by assumption)).mono ?_; rintro e w3 ⟨rfl, rfl⟩; rw [HHI.out]))
          go_roundw
          case rel => exact ⟨k, n + 1, c5, A5, all ++ l, by rw [hkk], by rw [List.length_append], by go_num, by omega, hkp, by omega, by rw [List.length_append]; exact HA5.out, HB5.out, hfit0⟩
          case measure => simp [intOf]; omega
        · have hl1 : decide ((l.length : Int) > most) = false := by simpa using hbig
          go_wp2_with (first
            | (go_at_call 22; refine (HCALL.out _ hmr khr).mono ?_; rintro e w2 ⟨A2, c2, rfl, hown2, hb2⟩; have kh2 := khr.below hb2; have hp2 : w2.cell? ⟨gp, 0, none⟩ = some (.pointer (some ⟨gh, 0, none⟩)) := (hb2.cell (p := ⟨gp, 0, none⟩) hgpr).trans hpr; obtain ⟨a2, rfl, l0, l9⟩ := own_ev_last hown2 hne; rw [hh0] at l0; rw [hh9] at l9; have HO2 := Lib.hid hown2; have HB2 := Lib.hid hb2; clear hown2 hb2)
            | (go_at_call 20; refine (high_any gh _ _ (by assumption)).mono ?_; rintro e w3 ⟨rfl, rfl⟩; rw [HHI.out]))
          go_quiet (fail)
          have HX := Lib.hid ((hown.below HB2.out).below (below_drewN (Below.refl w2.heap.size w2) nq))
          have HY := Lib.hid (HO2.out.below (below_drewN (Below.refl w2.heap.size w2) nq))
          have HZ := Lib.hid (below_drewN HB2.out nq)
          go_wp2_with (first
            | (at_builtin; refine wpList_app_plain evElem kEvent_plain w.heap.size rfl (.tmp 87) (.tmp 88) rfl (v := .slice A all.length c) (xs := all) (ys := l) rfl HX.out rfl rfl HY.out.row'.2.1 h56 (Nat.le_trans hsz HZ.out.size) ?_; intro A5 c5 w5 happ
               have hb5 := happ.below (hbr.trans (HZ.out.mono hsz)) (Nat.le_trans hsz HZ.out.size) (fun q hq => (hown.block_lt q hq).1)
               have hkh : IsHub F w5 gh (hubOf first ps d) := kh.below hb5
               have hp5 : w5.cell? ⟨gp, 0, none⟩ = some (.pointer (some ⟨gh, 0, none⟩)) := (hb5.cell (p := ⟨gp, 0, none⟩) hgp).trans hp0
               have HA5 := Lib.hid happ.own
               have HB5 := Lib.hid hb5
               obtain ⟨_, e9, _, l95⟩ := own_ev_last (own_ev_grown HY.out happ.grown (fun q hq => (hown.block_lt q hq).2)) hne
               obtain rfl := Option.some.inj e9
               rw [hh9] at l95
               clear e9
               clear happ hb5)
            | (go_at_call 20; refine (high_any gh _ _ (by assumption)).mono ?_; rintro e w3 ⟨rfl, rfl⟩; rw [HHI.out]))
          go_roundw
          case rel => exact ⟨k, n + 1, c5, A5, all ++ l, by rw [hkk], by rw [List.length_append], by go_num, by omega, hkp, by omega, by rw [List.length_append]; exact HA5.out, HB5.out, hfit0⟩
          case measure => simp [intOf]; omega
end Go.Proofs.YtdchffghgajbfaaDoor
