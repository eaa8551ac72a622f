/- pushed: the walk. -/
import Derived.Test.YtdchffghgajbfaaDoorL3
namespace Go.Proofs.YtdchffghgajbfaaDoor
open Go.RowKit

theorem push_cases {first : Int} {ps : List (List Ev)} {d : Nat} (hh : HistOk first ps d) (hf : first ≤ 576460752303423488) (hc : ps.length ≤ 400) (l : List Ev) (hr : ∀ e ∈ l, rightE e = true ∧ e.ver = first + ps.length + 1) :
    (¬ 0 < l.length ∧ hubPush (hubOf first ps d) l = (hubOf first ps d, 1)) ∨ (128 < l.length ∧ hubPush (hubOf first ps d) l = (hubOf first ps d, 23)) ∨
      (0 < l.length ∧ l.length ≤ 128 ∧ ∃ d', HistOk first (ps ++ [l]) d' ∧ hubPush (hubOf first ps d) l = (hubOf first (ps ++ [l]) d', 0)) := by
  by_cases h0 : l = []
  · refine .inl ⟨by rw [h0]; simp, ?_⟩
    unfold hubPush pushOk
    rw [if_pos (by rw [h0]; simp)]
  · have hpok : pushOk (first + ps.length) l = true := by
      unfold pushOk
      simp only [Bool.and_eq_true, List.all_eq_true]
      refine ⟨⟨?_, ?_⟩, ?_⟩
      · simp; omega
      · simpa using h0
      · intro e he; have := hr e he; simp [this.1, this.2]
    have h1 := List.length_pos_iff.2 h0
    by_cases h2 : l.length > 128
    · refine .inr (.inl ⟨h2, ?_⟩)
      unfold hubPush
      rw [if_neg (by simpa [hubOf] using hpok), if_pos h2]
    · exact .inr (.inr ⟨h1, by omega, hubPush_hist hh hpok (by omega)⟩)

theorem flatten_len {ps : List (List Ev)} (h : ∀ l ∈ ps, l.length ≤ 128) : ps.flatten.length ≤ 128 * ps.length := by
  induction ps with
  | nil => simp
  | cons l ps ih =>
    have h1 := h l (by simp)
    have h2 := ih fun x hx => h x (by simp [hx])
    simp only [List.flatten_cons, List.length_append, List.length_cons]; omega

theorem row_own_take {base : Nat} {w : World} {A : Option Addr} {c : Nat} {l : List Ev} {m : Ev} {P : Nat → Prop} (h : Own kEvent 41 base P w (.slice A (l ++ [m]).length c) (l ++ [m])) : Row kEvent (fun _ => True) w A l ∧ l.length ≤ c := by
  obtain ⟨_, hr, hc, _⟩ := h.row'
  have := hr.take l.length
  rw [List.take_left] at this
  exact ⟨this, by simp at hc; omega⟩

theorem pinv_start {v : Int} {gh : Nat} {w w1 wx : World} (hm : v ≤ 576460752303423488) (hgs : w.heap.size ≤ gh) (hk : IsHub (fun b => b = gh) w1 gh (hubNew v)) (hb1 : Below w.heap.size w w1)
    (hb : wx.heap[w1.heap.size]? = some (.cells #[.pointer (some ⟨gh, 0, none⟩), .int .i64 (max v 0), .slice none 0 0] 38 (0, 0))) (hb2 : Below w1.heap.size w1 wx) :
    PInv w w1.heap.size gh (max v 0) wx [] 0 (fun b => b = gh) (.slice none 0 0) [] := by
  obtain ⟨hn, hh⟩ := hubNew_hist v (by omega)
  have hlt : gh < w1.heap.size := hk.bound.1.2
  rw [hn] at hk
  refine ⟨hb, hk.below hb2, ?_, Own.nil _ _ _ _ _, hb1.size, hb1.trans (hb2.mono hb1.size)⟩
  rintro b rfl
  exact ⟨hgs, Nat.lt_of_lt_of_le hlt hb2.size, by omega, by simp [Value.ownBlock]⟩

theorem Ml.alloc {w : World} (h : Ml w) (o : Obj) : Ml (w.alloc o) := h.below ((Below.refl _ _).alloc (Nat.le_refl _) o)
theorem lright_val (x : Ev) (b : Bool) (hx : rightE x = b) (w : World) (hm : Ml w) :
    Calls Tryd.prog 59 #[.agg #[.int .i64 x.ver, .int .i64 x.kind, .bool x.gone, .string x.path, .string x.name]] w fun e w' => e = .returned (.bool b) ∧ Below w.heap.size w w' := by
  rw [← hx]; exact lright_any x w hm

theorem push_cases2 {first : Int} {ps : List (List Ev)} {d : Nat} (hh : HistOk first ps d) (hf : first ≤ 576460752303423488) (hc : ps.length ≤ 400) (l : List Ev) (hr : ∀ e ∈ l, rightE e = true ∧ e.ver = first + ps.length + 1) :
    ∃ ps' d' n, hubPush (hubOf first ps d) l = (hubOf first ps' d', n) ∧ ((n = 1 ∧ ps' = ps ∧ d' = d ∧ ¬ 0 < l.length) ∨ (n = 23 ∧ ps' = ps ∧ d' = d ∧ 128 < l.length) ∨ (n = 0 ∧ ps' = ps ++ [l] ∧ 0 < l.length ∧ l.length ≤ 128 ∧ HistOk first (ps ++ [l]) d')) := by
  rcases push_cases hh hf hc l hr with ⟨h1, h2⟩ | ⟨h1, h2⟩ | ⟨h1, h2, d', h3, h4⟩
  · exact ⟨ps, d, 1, h2, .inl ⟨rfl, rfl, rfl, h1⟩⟩
  · exact ⟨ps, d, 23, h2, .inr (.inl ⟨rfl, rfl, rfl, h1⟩)⟩
  · exact ⟨_, d', 0, h4, .inr (.inr ⟨rfl, rfl, h1, h2, h3⟩)⟩

/-- behind the push -/
def PMid (w : World) (pb gh : Nat) (first : Int) (base : Nat) (vL : Value) (all : List Ev) (v2 : Value) (l : List Ev) (ps' : List (List Ev)) (d' : Nat) (n : Int) (s : Value) (wx : World) : Prop :=
  s = .int .i64 n ∧ (∃ F', PInv w pb gh first wx ps' d' F' vL all) ∧ Own kEvent 41 base (fun _ => True) wx v2 l
theorem PMid.mk_ {w wr w2 w3 : World} {pb gh base : Nat} {first : Int} {vL v2 : Value} {all l : List Ev} {ps ps' : List (List Ev)} {d d' : Nat} {F : Nat → Prop} {n : Int}
    (hi : PInv w pb gh first wr ps d F vL all) (hF : ∀ b, F b → b < base) (ho : Own kEvent 41 base (fun _ => True) wr v2 l) (hb : Below wr.heap.size wr w2) (hp : PushPost F gh (hubOf first ps' d', n) w2 (.returned (.int .i64 n)) w3) :
    PMid w pb gh first base vL all v2 l ps' d' n (.int .i64 n) w3 := by
  have hi2 := hi.below hb
  have ho2 := ho.below hb
  refine ⟨rfl, ⟨_, hi2.push hp⟩, ?_⟩
  obtain ⟨_, _, ht⟩ := hp
  refine Own.plain kEvent_plain ((Own.plain (Q := fun _ => False) kEvent_plain ho2).move fun k hk hlt => ?_)
  rcases hk with hk | hk
  · exact ht.block k hlt fun hFk => by have := hF k hFk; have := (ho2.block_lt k hk).1; omega
  · exact hk.elim
theorem Env.drew {w : World} (h : Env w) : Env w.drew := h.below ((Below.refl _ _).drew)

set_option maxRecDepth 100000 in
set_option maxHeartbeats 2000000 in
theorem pushed_walk (v : Int) (A : Option Addr) (c : Nat) (P : Nat → Prop) (xs : List (List Ev)) (w : World) (he : Env w) (hr : Row (Kn.slice kEvent) P w A xs) (hv : -9223372036854775808 ≤ v ∧ v ≤ 9223372036854775807) (hxl : xs.length ≤ 9223372036854775807) :
    Calls Tryd.prog 18 #[.int .i64 v, .slice A xs.length c] w (PushedPost v w) := by
  obtain ⟨hv1, hv2⟩ := hv
  by_cases hfar : v > 576460752303423488
  · have e1 : decide (v > 576460752303423488) = true := by simpa using hfar
    have e2 : decide (v < 0) = false := by simp; omega
    go_enter Tryd.func18, Tryd.ntmps18
    go_wp2_with (go_at_call 15; refine (new_any _ _ ⟨hv1, hv2⟩).mono ?_; rintro e w1 ⟨gh, rfl, hgs, hk1, hb1⟩)
    go_ret2
    exact .inl ⟨rfl, hb1.alloc hb1.size _⟩
  have e1 : decide (v > 576460752303423488) = false := by simpa using hfar
  go_enter Tryd.func18, Tryd.ntmps18
  go_upto_if 19 with (go_at_call 15; refine (new_any _ _ ⟨hv1, hv2⟩).mono ?_; rintro e w1 ⟨gh, rfl, hgs, hk1, hb1⟩)
  have hst := fun wx (hb : wx.heap[w1.heap.size]? = some (.cells #[.pointer (some ⟨gh, 0, none⟩), .int .i64 (max v 0), .slice none 0 0] 38 (0, 0))) (hb2 : Below w1.heap.size w1 wx) => pinv_start (v := v) (by omega) hgs hk1 hb1 hb hb2
  have HST := Lib.hid hst
  clear hst hk1
  have hw1 := heap_alloc_new w1 (.cells #[.pointer (some ⟨gh, 0, none⟩), .int .i64 v, .slice none 0 0] 38)
  go_cut [] (fun wx => PInv w w1.heap.size gh (max v 0) wx [] 0 (fun b => b = gh) (.slice none 0 0) [])
  case first =>
    by_cases hneg : v < 0
    · have e2 : decide (v < 0) = true := by simpa using hneg
      go_wp2_with fail
      go_meet
      rw [show max v 0 = 0 by omega] at HST ⊢
      exact HST.out _ (heap_alloc_new w1 _) ((Below.refl _ _).alloc (Nat.le_refl _) _)
    · have e2 : decide (v < 0) = false := by simpa using hneg
      go_wp2_with fail
      go_meet
      rw [show max v 0 = v by omega] at HST ⊢
      exact HST.out _ (heap_alloc_new w1 _) ((Below.refl _ _).alloc (Nat.le_refl _) _)
  case rest =>
    clear HST hw1
    obtain ⟨pb, hpb⟩ : ∃ pb, w1.heap.size = pb := ⟨_, rfl⟩
    obtain ⟨first, hfirst⟩ : ∃ first, max v 0 = first := ⟨_, rfl⟩
    rw [hpb, hfirst] at hcut
    rw [hpb]
    have hf0 : 0 ≤ first := by omega
    have hf1 : first ≤ 576460752303423488 := by omega
    have hist : HistOk first [] 0 := by have := (hubNew_hist v (by omega)).2; rwa [hfirst] at this
    have HI := Lib.hid hcut
    have HH := Lib.hid hist
    have HF := Lib.hid hfirst
    obtain ⟨c0, c1, c2, fz⟩ := pdAt hcut.blk
    clear hcut hist hpb hfirst hb1
    go_wp2
    clear c0 c1 c2 fz
    go_loopw [7, 8] (fun nv iv wr => ∃ (i : Nat) (ps : List (List Ev)) (d : Nat) (F : Nat → Prop) (vL : Value), iv = .int .i64 i ∧ nv = .int .i64 (first + ps.length + 1) ∧ i ≤ xs.length ∧ i ≤ 400 ∧ ps.length ≤ i ∧ Hid (PdOk w pb gh first wr ps d F vL)) (fun _ iv _ => xs.length - (intOf iv).toNat)
    case atStart => exact ⟨0, [], 0, _, _, rfl, by simp [IntKind.wrap_i64] <;> omega, Nat.zero_le _, by omega, Nat.le_refl _, ⟨by simpa using HI.out, HH.out, by simp, by simp, hf1, by simp⟩⟩
    case round =>
      obtain ⟨i, ps, d, F, vL, rfl, rfl, hi, hi4, hpi, HP⟩ := hrel
      obtain ⟨wo, rfl⟩ : ∃ wo, wo = wr := ⟨_, rfl⟩
      have hbel := HP.out.inv.bel
      have her := he.below hbel
      by_cases hlt : i < xs.length
      · by_cases hlt4 : i < 400
        · obtain ⟨ax, B, cb, rfl, hcell, hbc, hbm, hrk⟩ := row_slice_at (hr.below hbel) i hlt
          obtain ⟨L, hL⟩ : ∃ L, xs[i] = L := ⟨_, rfl⟩
          rw [hL] at hcell hbc hrk
          clear hL
          have hib : (i : Int) < 400 := by omega
          obtain ⟨next, hnext⟩ : ∃ next, first + (ps.length : Int) + 1 = next := ⟨_, rfl⟩
          rw [hnext]
          have HN := Lib.hid hnext
          clear hnext
          go_wp2
          go_loopw [9, 10] (fun lv jv wx => ∃ (j : Nat) (A2 : Option Addr) (c2 : Nat) (l : List Ev), lv = .slice A2 l.length c2 ∧ jv = .int .i64 j ∧ j ≤ L.length ∧ j ≤ 300 ∧ l.length ≤ j ∧ Own kEvent 41 wo.heap.size (fun _ => True) wx (.slice A2 l.length c2) l ∧ Below wo.heap.size wo wx ∧ Hid (∀ e ∈ l, rightE e = true ∧ e.ver = next)) (fun _ jv _ => L.length - (intOf jv).toNat)
          case atStart => exact ⟨0, none, 0, [], rfl, rfl, Nat.zero_le _, by omega, Nat.le_refl _, Own.nil _ _ _ _ _, Below.refl _ _, by simp [Hid]⟩
          case round =>
            obtain ⟨j, A2, c2, l, rfl, rfl, hj, hj3, hlj, hown, hbx, HL⟩ := hrel
            have hcx : wr.cell? (ax.add i) = some (.slice B L.length cb) := (hbx.cell (World.block_lt_of_cell? _ _ hcell)).trans hcell
            go_upto_region 14 with fail
            go_cut [55] (fun s wx => s = .bool (decide (j < L.length ∧ j < 300)) ∧ wr = wx)
            case first =>
              by_cases hjl : j < L.length
              · by_cases hj4 : j < 300
                · have hj4' : (j : Int) < 300 := by omega
                  go_wp2
                  go_meet
                  exact ⟨by simp [hjl, hj4], rfl⟩
                · have hj4' : ¬ (j : Int) < 300 := by omega
                  go_wp2
                  go_meet
                  exact ⟨by simp [hj4], rfl⟩
              · go_wp2
                go_meet
                exact ⟨by simp [hjl], rfl⟩
            case rest =>
              obtain ⟨rfl, rfl⟩ := hcut
              by_cases hgo : j < L.length ∧ j < 300
              · rw [decide_eq_true hgo]
                obtain ⟨hjl, hj4⟩ := hgo
                obtain ⟨bx, rfl, _, l0, l1, l2, l3, l4⟩ := ev_at (hrk.below hbx) j hjl
                obtain ⟨x, hx⟩ : ∃ x, L[j] = x := ⟨_, rfl⟩
                rw [hx] at l0 l1 l2 l3 l4
                clear hx
                have hmx := (her.below hbx).ml.alloc (.cells #[.int .i64 next, .int .i64 x.kind, .bool x.gone, .string x.path, .string x.name] 41)
                cases hright : rightE ⟨next, x.kind, x.gone, x.path, x.name⟩
                · have HC := Lib.hid (lright_val ⟨next, x.kind, x.gone, x.path, x.name⟩ _ hright _ hmx)
                  go_wp2_with (go_at_call 59; refine HC.out.mono ?_; rintro e w2 ⟨rfl, hb2⟩)
                  have hbw := (hbx.alloc hbx.size _).trans (hb2.mono (by have := hbx.size; simp; omega))
                  go_roundw
                  case rel => exact ⟨j + 1, A2, c2, l, rfl, by go_num, hjl, hj4, by omega, (hown.alloc _).below hb2, hbw, HL⟩
                  case measure => simp [intOf]; omega
                · have HC := Lib.hid (lright_val ⟨next, x.kind, x.gone, x.path, x.name⟩ _ hright _ hmx)
                  have HL2 := Lib.hid (show ∀ e ∈ l ++ [(⟨next, x.kind, x.gone, x.path, x.name⟩ : Ev)], rightE e = true ∧ e.ver = next by
                    intro e he
                    rcases List.mem_append.1 he with he | he
                    · exact HL.out e he
                    · rw [List.mem_singleton.1 he]; exact ⟨hright, rfl⟩)
                  clear hright
                  have h56 : (l.length + 1) * 56 ≤ 140737488355328 := by omega
                  have hsz := hbx.size
                  go_wp2_with (first
                    | (go_at_call 59; refine HC.out.mono ?_; rintro e w2 ⟨rfl, hb2⟩; have HB2 := Lib.hid hb2; clear hb2
                       have m0 := (HB2.out.cell (p := ⟨wr.heap.size, 0, none⟩) (by simp)).trans ((cell_of_row _ _ _ _ _ _ (heap_alloc_new wr _)).trans rfl)
                       have m1 := (HB2.out.cell (p := ⟨wr.heap.size, 1, none⟩) (by simp)).trans ((cell_of_row _ _ _ _ _ _ (heap_alloc_new wr _)).trans rfl)
                       have m2 := (HB2.out.cell (p := ⟨wr.heap.size, 2, none⟩) (by simp)).trans ((cell_of_row _ _ _ _ _ _ (heap_alloc_new wr _)).trans rfl)
                       have m3 := (HB2.out.cell (p := ⟨wr.heap.size, 3, none⟩) (by simp)).trans ((cell_of_row _ _ _ _ _ _ (heap_alloc_new wr _)).trans rfl)
                       have m4 := (HB2.out.cell (p := ⟨wr.heap.size, 4, none⟩) (by simp)).trans ((cell_of_row _ _ _ _ _ _ (heap_alloc_new wr _)).trans rfl))
                    | (at_builtin; refine wpList_app_plain evElem kEvent_plain wo.heap.size rfl (.tmp 69) (.tmp 71) rfl (v := .slice A2 l.length c2) (xs := l) (ys := [⟨next, x.kind, x.gone, x.path, x.name⟩]) rfl (((hown.alloc _).below HB2.out).alloc _) rfl rfl (Row.newOnePlain (cs := Ev.cells ⟨next, x.kind, x.gone, x.path, x.name⟩) kEvent_plain rfl) (by simpa using h56) (by have := HB2.out.size; simp at this ⊢; omega) ?_; intro A5 c5 w5 happ; have HA5 := Lib.hid happ; clear happ))
                  go_roundw
                  case rel =>
                    refine ⟨j + 1, A5, c5, _, by simp, by go_num, hjl, hj4, by simp; omega, by simpa using HA5.out.own, HA5.out.below ?_ ?_ (fun q hq => (hown.block_lt q hq).1), HL2⟩
                    · exact ((hbx.alloc hsz _).trans (HB2.out.mono (by simp; omega))).alloc (by have := HB2.out.size; simp at this ⊢; omega) _
                    · have := HB2.out.size; simp at this ⊢; omega
                  case measure => simp [intOf]; omega
              · rw [decide_eq_false hgo]
                clear hgo hcx
                obtain ⟨ps', d', n, hres, hcase⟩ := push_cases2 HP.out.hist hf1 HP.out.few l (by rw [HN.out]; exact HL.out)
                have hpush := fun W (a : Ml W) (b : IsHub F W gh (hubOf first ps d)) B c P (r : Row kEvent P W B l) => push_any gh _ B c P l W a b r (by omega)
                rw [hres] at hpush
                have HPUSH := Lib.hid hpush
                have HI2 := Lib.hid (HP.out.inv.below hbx)
                have HCASE := Lib.hid hcase
                have hI2 := HP.out.inv.below hbx
                obtain ⟨c0, c1, c2', fz⟩ := pdAt hI2.blk
                have hc0 : wr.drew.cell? ⟨pb, 0, none⟩ = some (.pointer (some ⟨gh, 0, none⟩)) := c0
                have HE := Lib.hid (her.below hbx).drew
                have HROW := Lib.hid hown.row'.2.1
                have HOWN := Lib.hid hown
                have HFLT := Lib.hid (fun b hb => (HP.out.inv.lo b hb).2.1)
                have h56 : (l.length + 1) * 56 ≤ 140737488355328 := by omega
                have hpb := hI2.lt
                clear hres hpush hcase hI2
                go_wp2
                go_cut [12] (fun s wx => PMid w pb gh first wo.heap.size vL ps.flatten (.slice A2 l.length c2) l ps' d' n s wx)
                case first =>
                  go_region_law (first
                    | (go_simp; go_at_call 46; have q3 := behind_any A2 c2 (fun _ => True) l wr.drew HE.out HROW.out h56; refine q3.mono ?_; clear q3; rintro e w2 ⟨B3, c3, rfl, hown3, hb3⟩
                       have hc3 := (row_own_take hown3).2
                       have HR3 := Lib.hid (row_own_take hown3).1
                       have HB3 := Lib.hid hb3
                       have d0 := (hb3.cell (p := ⟨pb, 0, none⟩) hpb).trans c0
                       clear hown3 hb3)
                    | (go_simp; go_at_call 53; have q4 := HPUSH.out w2 (HE.out.ml.below HB3.out) ((HI2.out.hub.below (Below.refl _ _).drew).below HB3.out) B3 c3 (fun _ => True) HR3.out; refine q4.mono ?_; clear q4; rintro e w3 hp3; obtain ⟨rfl, hk3, ht3⟩ := hp3; have HP3 : Hid (PushPost F gh (hubOf first ps' d', n) w2 (.returned (.int .i64 n)) w3) := ⟨rfl, hk3, ht3⟩; clear hk3 ht3; simp only []))
                  all_goals (go_wp2_with fail; go_meet; exact PMid.mk_ HI2.out HFLT.out HOWN.out ((Below.refl _ _).drew.trans (HB3.out.mono (Nat.le_refl _))) HP3.out)
                case rest =>
                  obtain ⟨rfl, ⟨F', hI3⟩, ho3⟩ := hcut
                  have hfl := flatten_len HP.out.small
                  have hpl : ps.length < 400 := by omega
                  have hn0 : next = first + (ps.length : Int) + 1 := HN.out.symm
                  have hwn : IntKind.i64.wrap (next - 1) = next - 1 := by rw [IntKind.wrap_i64]; omega
                  obtain ⟨hgh, hhgh⟩ : ∃ hgh, (hubOf first ps' d').high = hgh := ⟨_, rfl⟩
                  have hgh0 : hgh = first + (ps'.length : Int) := by rw [← hhgh]; rfl
                  have hki := hI3.hub
                  obtain ⟨f0, f1, f2, ffz⟩ := pdAt hI3.blk
                  have HHI := Lib.hid hhgh
                  have HI3 := Lib.hid hI3
                  have HO3 := Lib.hid ho3
                  clear hhgh hI3 ho3 c0 c1 c2' hc0 fz HPUSH HI2 HE HROW HOWN HFLT
                  rcases HCASE.out with ⟨rfl, rfl, rfl, hl⟩ | ⟨rfl, rfl, rfl, hl⟩ | ⟨rfl, rfl, hl, hl2, hh2⟩
                  · have b1 : (hgh != next - 1) = false := by simp; omega
                    have b2 : (hgh != next) = true := by simp; omega
                    clear hn0 hgh0
                    go_wp2_with (go_at_call 20; refine (high_any gh _ _ (by assumption)).mono ?_; rintro e w4 ⟨rfl, rfl⟩; rw [HHI.out])
                    go_roundw
                    case rel => exact ⟨i + 1, ps', d', F', vL, by go_num, by rw [HN.out], hlt, hlt4, by omega, HI3.out, HP.out.hist, HP.out.few, HP.out.small, hf1, HP.out.right⟩
                    case measure => simp [intOf]; omega
                  · have b1 : (hgh != next - 1) = false := by simp; omega
                    have b2 : (hgh != next) = true := by simp; omega
                    have b3 : decide ((l.length : Int) ≤ 128) = false := by simp; omega
                    have b4 : 0 < l.length := by omega
                    clear hn0 hgh0
                    go_wp2_with (go_at_call 20; refine (high_any gh _ _ (by assumption)).mono ?_; rintro e w4 ⟨rfl, rfl⟩; rw [HHI.out])
                    go_roundw
                    case rel => exact ⟨i + 1, ps', d', F', vL, by go_num, by rw [HN.out], hlt, hlt4, by omega, HI3.out, HP.out.hist, HP.out.few, HP.out.small, hf1, HP.out.right⟩
                    case measure => simp [intOf]; omega
                  · have b1 : (hgh != next - 1) = true := by simp at hgh0 ⊢; omega
                    have b2 : (hgh != next) = false := by simp at hgh0 ⊢; omega
                    have b3 : decide ((l.length : Int) ≤ 128) = true := by simp; omega
                    have b5 : IntKind.i64.wrap (next + 1) = next + 1 := by rw [IntKind.wrap_i64]; omega
                    have h57 : (ps.flatten.length + l.length) * 56 ≤ 140737488355328 := by omega
                    obtain ⟨AL, cL, hvL, _⟩ := HI3.out.own.row
                    obtain ⟨all, hall⟩ : ∃ all, ps.flatten = all := ⟨_, rfl⟩
                    have hI4 := HI3.out
                    rw [hall] at h57 hvL hI4
                    subst hvL
                    have HI4 := Lib.hid hI4
                    have HALL := Lib.hid hall
                    clear hI4 hall
                    have HB := Lib.hid HI3.out.bel.size
                    have HW := Lib.hid b5
                    clear hn0 hgh0
                    go_wp2_with (first
                      | (at_builtin; have q5 := HO3.out.row'.2.1; refine wpList_app_plain evElem kEvent_plain w.heap.size rfl (.tmp 127) (.tmp 128) rfl (v := .slice AL all.length cL) (xs := all) (ys := l) rfl HI4.out.own rfl rfl q5 h57 HB.out ?_; intro A5 c5 w5 happ; clear q5
                         obtain ⟨g0, g1, g2, gfz⟩ := pdAt (HI4.out.app_blk happ)
                         have HA5 := Lib.hid (HI4.out.app happ); clear happ)
                      | (go_at_call 20; refine (high_any gh _ _ (by assumption)).mono ?_; rintro e w4 ⟨rfl, rfl⟩; rw [HHI.out]))
                    go_roundw
                    case rel =>
                      refine ⟨i + 1, ps ++ [l], d', F', _, by go_num, by rw [← HN.out]; simp; omega, hlt, hlt4, by simp; omega, ⟨by rw [List.flatten_append, HALL.out]; simpa using HA5.out, hh2, by simp; omega, ?_, hf1, ?_⟩⟩
                      · intro x hx
                        rcases List.mem_append.1 hx with hx | hx
                        · exact HP.out.small x hx
                        · rw [List.mem_singleton.1 hx]; exact hl2
                      · intro x hx
                        rcases List.mem_append.1 hx with hx | hx
                        · exact HP.out.right x hx
                        · rw [List.mem_singleton.1 hx]; exact fun e he => (HL.out e he).1
                    case measure => simp [intOf]; omega
        · have hib : ¬ (i : Int) < 400 := by omega
          go_wp2
          go_ret2
          exact .inr ⟨pb, gh, ps, d, F, vL, rfl, by rw [HF.out]; exact HP.out⟩
      · go_wp2
        go_ret2
        exact .inr ⟨pb, gh, ps, d, F, vL, rfl, by rw [HF.out]; exact HP.out⟩
end Go.Proofs.YtdchffghgajbfaaDoor
