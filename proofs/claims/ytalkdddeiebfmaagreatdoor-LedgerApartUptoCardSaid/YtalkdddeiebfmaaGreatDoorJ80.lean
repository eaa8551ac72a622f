/- own, told more: the blocks of its parts' lists can be written (printed by mkown.py, out of X2). -/
import Derived.Test.YtalkdddeiebfmaaGreatDoorJ76
namespace Go.Proofs.YtalkdddeiebfmaaGreatDoor
open Go.RowKit

/-- a block that can be written -/
def Unfr (w : World) (k : Nat) : Prop := ∃ cs t, w.heap[k]? = some (.cells cs t (0, 0))
theorem Unfr.keep {w w' : World} {k : Nat} (h : Unfr w k) (e : w'.heap[k]? = w.heap[k]?) : Unfr w' k := let ⟨cs, t, h⟩ := h; ⟨cs, t, e.trans h⟩
theorem Unfr.setCell {w : World} {k : Nat} (h : Unfr w k) (p : Addr) (u : Value) : Unfr (w.setCell p u) k := by
  by_cases hk : k = p.block
  · obtain ⟨cs, t, h⟩ := h
    subst hk
    refine ⟨if p.spot.isSome then cs else cs.setIfInBounds p.off u, t, ?_⟩
    unfold World.setCell
    simp only [Array.getElem?_modify, if_true, h, Option.map_some]
  · exact h.keep (Below.heap_setCell _ _ _ _ hk)
theorem Unfr.lt {w : World} {k : Nat} (h : Unfr w k) : k < w.heap.size := let ⟨_, _, h⟩ := h; (Array.getElem?_eq_some_iff.1 h).1
theorem Own.unfr {α : Type} {d : Kn α} {e base : Nat} {P : Nat → Prop} {w : World} {v : Value} {xs : List α} (h : Own d e base P w v xs) {k : Nat} (hk : v.ownBlock = some k) : Unfr w k := by
  obtain ⟨cells, ho, _⟩ := h
  rcases ho.2 with ⟨rfl, _⟩ | ⟨g, cap, cur, rfl, _, hg, _⟩
  · cases hk
  · obtain rfl : g = k := by simpa [Value.ownBlock] using hk
    exact ⟨_, _, hg⟩
theorem Appended.rowU {α : Type} {d : Kn α} {e base : Nat} {R : Nat → Prop} {w w' : World} {v : Value} {A : Option Addr} {n c : Nat} {zs : List α} (hd : d.Plain) (h : Appended d e base R w w' v (.slice A n c) zs) : Row d (fun k => base ≤ k ∧ Unfr w' k) w' A zs ∧ n = zs.length ∧ zs.length ≤ c ∧ c ≤ maxLen := by
  have h1 := h.own.plain (Q := fun _ => False) hd
  obtain ⟨A', c', hv, h2, h3, h4⟩ := h1.row
  cases hv
  exact ⟨h4.mono fun k hk => hk.elim (fun f => f.elim) (fun e => ⟨(h1.block_lt k e).1, h1.unfr e⟩), rfl, h2, h3⟩
theorem Row.moveU {α : Type} {d : Kn α} {base : Nat} {w w' : World} {A : Option Addr} {xs : List α} (h : Row d (fun k => base ≤ k ∧ Unfr w k) w A xs) (hm : ∀ k, base ≤ k → k < w.heap.size → w'.heap[k]? = w.heap[k]?) : Row d (fun k => base ≤ k ∧ Unfr w' k) w' A xs :=
  (h.keep fun k hk hl => hm k hk.1 hl).mono fun k hk => ⟨hk.1, hk.2.keep (hm k hk.1 hk.2.lt)⟩
theorem row_setCellU {α : Type} {d : Kn α} {base : Nat} {w : World} {A : Option Addr} {xs : List α} (h : Row d (fun k => base ≤ k ∧ Unfr w k) w A xs) {p : Addr} (hp : p.block < base) (u : Value) : Row d (fun k => base ≤ k ∧ Unfr (w.setCell p u) k) (w.setCell p u) A xs :=
  h.moveU fun k hk _ => Below.heap_setCell _ _ _ _ (fun e => by subst e; exact Nat.lt_irrefl _ (Nat.lt_of_lt_of_le hp hk))
/-- behind the requests' copy -/
structure Mid1u (w0 w : World) (b : Nat) (x : PartV) (A1 : Option Addr) (c1 : Nat) (v2 : Value) : Prop where
  at_ : XAt w b (.string x.name) (.slice A1 x.req.length c1) v2
  row : Row kAmt (fun k => b + 1 ≤ k ∧ Unfr w k) w A1 x.req
  le : x.req.length ≤ c1 ∧ c1 ≤ maxLen
  below : Below b w0 w
/-- behind the limits' copy -/
structure Mid2u (w0 w : World) (b : Nat) (x : PartV) (A1 : Option Addr) (c1 : Nat) (A2 : Option Addr) (c2 : Nat) : Prop extends Mid1u w0 w b x A1 c1 (.slice A2 x.lim.length c2) where
  row2 : Row kAmt (fun k => b + 1 ≤ k ∧ Unfr w k) w A2 x.lim
  le2 : x.lim.length ≤ c2 ∧ c2 ≤ maxLen
theorem mid1u {wo w1 : World} {x : PartV} {A1 : Option Addr} {c1 n : Nat} {v1 v2 : Value} (ha : Appended kAmt 45 (wo.heap.size + 1) (fun _ => True) (wo.alloc (.cells #[.string x.name, v1, v2] 43)) w1 (.slice none 0 0) (.slice A1 n c1) x.req) :
    Mid1u wo (w1.setCell ⟨wo.heap.size, 1, none⟩ (.slice A1 n c1)) wo.heap.size x A1 c1 v2 := by
  obtain ⟨h1, rfl, h2, h3⟩ := ha.rowU kAmt_plain
  have hg : (wo.alloc (.cells #[.string x.name, v1, v2] 43)).grownBy w1 none := ha.grown
  refine ⟨((xAt_new wo _ v1 v2).grown hg).set1 _, row_setCellU h1 (Nat.lt_succ_self _) _, ⟨h2, h3⟩, Below.setCell ?_ (Nat.le_refl wo.heap.size) _⟩
  exact (((Below.refl _ _).alloc (Nat.le_refl _) _).grown hg (by simp) (fun j hj => by cases hj))
theorem mid2u {wo wm w2 : World} {x : PartV} {A1 A2 : Option Addr} {c1 c2 n : Nat} {v2 : Value} (h : Mid1u wo wm wo.heap.size x A1 c1 v2) (ha : Appended kAmt 45 (wo.heap.size + 1) (fun _ => True) wm w2 (.slice none 0 0) (.slice A2 n c2) x.lim) :
    Mid2u wo (w2.setCell ⟨wo.heap.size, 2, none⟩ (.slice A2 n c2)) wo.heap.size x A1 c1 A2 c2 := by
  obtain ⟨h1, rfl, h2, h3⟩ := ha.rowU kAmt_plain
  have hg : wm.grownBy w2 none := ha.grown
  refine ⟨⟨(h.at_.grown hg).set2 _, row_setCellU (h.row.moveU fun k _ hk => hg.block k hk (by simp)) (Nat.lt_succ_self _) _, h.le, Below.setCell (h.below.grown hg h.below.size (fun j hj => by cases hj)) (Nat.le_refl wo.heap.size) _⟩, row_setCellU h1 (Nat.lt_succ_self _) _, ⟨h2, h3⟩⟩
theorem mid_rowU {wo wm : World} {x : PartV} {A1 A2 : Option Addr} {c1 c2 : Nat} (h : Mid2u wo wm wo.heap.size x A1 c1 A2 c2) :
    Row kPart (fun k => wo.heap.size + 1 ≤ k ∧ k < wm.heap.size + 1 ∧ Unfr (wm.alloc (.cells #[.string x.name, .slice A1 x.req.length c1, .slice A2 x.lim.length c2] 43)) k) (wm.alloc (.cells #[.string x.name, .slice A1 x.req.length c1, .slice A2 x.lim.length c2] 43)) (some ⟨wm.heap.size, 0, none⟩) [x] := by
  have hsz : wo.heap.size + 1 ≤ wm.heap.size := (Array.getElem?_eq_some_iff.1 h.at_.blk).1
  have hb := (Below.refl wm.heap.size wm).alloc (Nat.le_refl _) (.cells #[.string x.name, .slice A1 x.req.length c1, .slice A2 x.lim.length c2] 43)
  have hnew := heap_alloc_new wm (.cells #[.string x.name, .slice A1 x.req.length c1, .slice A2 x.lim.length c2] 43)
  have := Row.newOne (d := kPart) (w := wm) (e := 43) (S := fun k => (wo.heap.size + 1 ≤ k ∧ Unfr wm k) ∧ k < wm.heap.size) (cs := [.string x.name, .slice A1 x.req.length c1, .slice A2 x.lim.length c2]) (x := x)
    ⟨[.string x.name], [.slice A1 x.req.length c1, .slice A2 x.lim.length c2], rfl, rfl, [.slice A1 x.req.length c1], [.slice A2 x.lim.length c2], rfl, ⟨_, rfl, A1, c1, rfl, h.le.1, h.le.2, h.row.lt.below hb⟩, ⟨_, rfl, A2, c2, rfl, h.le2.1, h.le2.2, h.row2.lt.below hb⟩⟩
  exact this.mono fun k hk => hk.elim (fun h => ⟨h.1.1, by omega, h.1.2.keep (hb.block k h.2)⟩) (fun e => by subst e; exact ⟨by omega, by omega, _, _, hnew⟩)
/-- the end of own: the box turned, the lists of the call's own -/
structure OwnEndU (w w0 wx : World) (o : ObjV) (ls : List LabV) (lab pv : Value) (R : Nat → Prop) : Prop where
  box : OBox wx w.heap.size (.string o.path) (.string o.name) lab (.int .i64 o.prio) (.int .i64 o.dl) pv (.int .i64 o.ver)
  res : OBox wx (w.heap.size + 1) (.string ⟨#[]⟩) (.string ⟨#[]⟩) (.slice none 0 0) (.int .i64 0) (.int .i64 0) (.slice none 0 0) (.int .i64 0)
  parts : PartsAt w0.heap.size wx pv o.parts R
  below : Below w.heap.size w wx
  size : w0.heap.size ≤ wx.heap.size
  un : ∀ k, R k → Unfr wx k
theorem own_end1u {w w0 wo : World} {o : ObjV} {ls : List LabV} {lab old pv : Value} {R : Nat → Prop} (hs : w0.heap.size = w.heap.size + 2) (h0 : Below w.heap.size w w0)
    (hb : OBox w0 w.heap.size (.string o.path) (.string o.name) lab (.int .i64 o.prio) (.int .i64 o.dl) old (.int .i64 o.ver))
    (hr : OBox w0 (w.heap.size + 1) (.string ⟨#[]⟩) (.string ⟨#[]⟩) (.slice none 0 0) (.int .i64 0) (.int .i64 0) (.slice none 0 0) (.int .i64 0))
    (hp : PartsAt w0.heap.size wo pv o.parts R) (hbr : Below w0.heap.size w0 wo) (hun : ∀ k, R k → Unfr wo k) : OwnEndU w w0 (wo.setCell ⟨w.heap.size, 5, none⟩ pv) o ls lab pv R :=
  ⟨(hb.below hbr).set5 pv, (hr.below hbr).setOther (by show w.heap.size + 1 ≠ w.heap.size; omega) _, hp.move (by simp [World.setCell]) (fun k hk _ => Below.heap_setCell _ _ _ _ (by show k ≠ w.heap.size; omega)),
    Below.setCell (h0.trans (hbr.mono h0.size)) (Nat.le_refl w.heap.size) _, by have := hbr.size; simp only [World.setCell, Array.size_modify]; exact this, fun k hk => (hun k hk).setCell _ _⟩
theorem own_end2u {w w0 wx w2 : World} {o : ObjV} {ls : List LabV} {lab pv : Value} {R : Nat → Prop} {A2 : Option Addr} {c2 n : Nat} (hs : w0.heap.size = w.heap.size + 2) (h : OwnEndU w w0 wx o ls lab pv R)
    (ha : Appended kLab 217 w0.heap.size (fun _ => True) wx w2 (.slice none 0 0) (.slice A2 n c2) ls) :
    OwnEndU w w0 (w2.setCell ⟨w.heap.size, 2, none⟩ (.slice A2 n c2)) o ls (.slice A2 ls.length c2) pv R ∧ Row kLab (fun k => w0.heap.size ≤ k) (w2.setCell ⟨w.heap.size, 2, none⟩ (.slice A2 n c2)) A2 ls := by
  obtain ⟨h1, rfl, h2, h3⟩ := ha.rowAt kLab_plain
  have hg : wx.grownBy w2 none := ha.grown
  have hb2 : Below wx.heap.size wx w2 := (Below.refl _ _).grown hg (Nat.le_refl _) (fun j hj => by cases hj)
  have hsz := hb2.size
  refine ⟨⟨(h.box.below hb2).set2 _, (h.res.below hb2).setOther (by show w.heap.size + 1 ≠ w.heap.size; omega) _, (h.parts.below hb2).move (by simp [World.setCell]) (fun k hk _ => Below.heap_setCell _ _ _ _ (by show k ≠ w.heap.size; omega)),
    Below.setCell (h.below.trans (hb2.mono h.below.size)) (Nat.le_refl w.heap.size) _, ?_, fun k hk => ((h.un k hk).keep (hb2.block k (h.un k hk).lt)).setCell _ _⟩, row_setCell h1 (by show w.heap.size < _; omega) _⟩
  have := h.size
  simp only [World.setCell, Array.size_modify]; omega
def OwnPostU (o : ObjV) (ls : List LabV) (w : World) (e : Ending) (w' : World) : Prop :=
  ∃ (L : Option Addr) (m : Nat) (B : Option Addr) (c : Nat) (R : Nat → Prop), e = .returned (({ o with labels := .slice L ls.length m } : ObjV).val B c) ∧ PartsAt w.heap.size w' (.slice B o.parts.length c) o.parts R ∧ Row kLab (fun k => w.heap.size ≤ k) w' L ls ∧ Below w.heap.size w w' ∧ ∀ k, R k → Unfr w' k
set_option maxRecDepth 100000 in
set_option maxHeartbeats 1000000 in
theorem own_anyU (o : ObjV) (A : Option Addr) (c : Nat) (ls : List LabV) (w : World) (h : ObjFit w o A ls) : Calls Tryz.prog 10 #[o.val A c] w (OwnPostU o ls w) := by
  obtain ⟨B0, m0, hlab, hlrow⟩ := h.lab
  have hb0 : Below w.heap.size w ((w.alloc (.cells (o.cells A c) 26)).alloc (.cells #[.string ⟨#[]⟩, .string ⟨#[]⟩, .slice none 0 0, .int .i64 0, .int .i64 0, .slice none 0 0, .int .i64 0] 26)) :=
    ((Below.refl _ _).alloc (Nat.le_refl _) _).alloc (by simp) _
  have hbx := heap_alloc2_old w (.cells (o.cells A c) 26) (.cells #[.string ⟨#[]⟩, .string ⟨#[]⟩, .slice none 0 0, .int .i64 0, .int .i64 0, .slice none 0 0, .int .i64 0] 26)
  have hrx := heap_alloc2_new w (.cells (o.cells A c) 26) (.cells #[.string ⟨#[]⟩, .string ⟨#[]⟩, .slice none 0 0, .int .i64 0, .int .i64 0, .slice none 0 0, .int .i64 0] 26)
  have hsz0 : ((w.alloc (.cells (o.cells A c) 26)).alloc (.cells #[.string ⟨#[]⟩, .string ⟨#[]⟩, .slice none 0 0, .int .i64 0, .int .i64 0, .slice none 0 0, .int .i64 0] 26)).heap.size = w.heap.size + 2 := by simp
  have hfit := h.below hb0
  have hlr := hlrow.below hb0
  unfold ObjV.val
  obtain ⟨w0, hw0⟩ : ∃ w0, (w.alloc (.cells (o.cells A c) 26)).alloc (.cells #[.string ⟨#[]⟩, .string ⟨#[]⟩, .slice none 0 0, .int .i64 0, .int .i64 0, .slice none 0 0, .int .i64 0] 26) = w0 := ⟨_, rfl⟩
  rw [hw0] at hb0 hbx hrx hsz0 hfit hlr
  unfold ObjV.cells at hw0 hbx
  rw [hlab] at hw0 hbx ⊢
  have OB := Lib.hid (OBox.of hbx)
  have RB := Lib.hid (OBox.of hrx)
  have HB0 := Lib.hid hb0
  have HS0 := Lib.hid hsz0
  have FIT := Lib.hid hfit
  have LR := Lib.hid hlrow
  have HLAB := Lib.hid hlab
  clear hb0 hbx hrx hsz0 hfit hlr hlab hlrow h
  go_enter Tryz.func10, Tryz.ntmps10
  go_wp2
  clear hw0
  go_loopw [3, 4] (fun lv iv wr => ∃ (k n : Nat) (B : Option Addr) (L : List PartV) (R : Nat → Prop), iv = .int .i64 k ∧ lv = .slice B L.length n ∧ k ≤ o.parts.length ∧ Hid (L = o.parts.take k) ∧ Hid (PartsAt w0.heap.size wr lv L R) ∧ Hid (Below w0.heap.size w0 wr) ∧ Hid (∀ k, R k → Unfr wr k)) (fun _ iv _ => o.parts.length - (intOf iv).toNat)
  case atStart => exact ⟨0, 0, none, [], fun _ => False, rfl, rfl, Nat.zero_le _, rfl, ⟨Own.nil _ _ _ _ _, fun _ h => h.elim⟩, Below.refl _ _, fun _ h => h.elim⟩
  case round =>
    obtain ⟨k, n, B, L, R, rfl, rfl, hk, HL, hown, hbr, hun⟩ := hrel
    obtain ⟨wo, rfl⟩ : ∃ wo, wo = wr := ⟨_, rfl⟩
    have hsz := hbr.out.size
    obtain ⟨-, -, -, -, -, -, p5, -, -⟩ := OB.out.below hbr.out
    have h64 := FIT.out.n64
    by_cases hlt : k < o.parts.length
    · obtain ⟨a, Rq, M, cr, cm, rfl, hpa⟩ := part_at FIT.out.row k hlt
      have HN24 := Lib.hid (FIT.out.n24 _ (List.getElem_mem hlt))
      have HSTEP := Lib.hid (show L ++ [o.parts[k]] = o.parts.take (k + 1) by rw [List.take_succ_eq_append_getElem hlt, HL.out])
      have HLEN := Lib.hid (show L.length = k by rw [HL.out, List.length_take]; omega)
      obtain ⟨x, hx⟩ : ∃ x, o.parts[k] = x := ⟨_, rfl⟩
      rw [hx] at hpa HN24 HSTEP
      clear hx
      have R1 := Lib.hid (hpa.r1.below hbr.out)
      have R2 := Lib.hid (hpa.r2.below hbr.out)
      have HX1 := Lib.hid ((Below.refl wo.heap.size wo).alloc (Nat.le_refl _) (.cells #[.string x.name, .slice Rq x.req.length cr, .slice M x.lim.length cm] 43))
      have e0 := (hbr.out.cell (World.block_lt_of_cell? _ _ hpa.c0)).trans hpa.c0
      have e1 := (hbr.out.cell (World.block_lt_of_cell? _ _ hpa.c1)).trans hpa.c1
      have e2 := (hbr.out.cell (World.block_lt_of_cell? _ _ hpa.c2)).trans hpa.c2
      clear hpa
      go_upto_region 6 with fail
      go_cut [] (fun wx => ∃ A1 c1, Mid1u wo wx wo.heap.size x A1 c1 (.slice M x.lim.length cm))
      case first =>
        clear p5 e0 e1 e2
        obtain ⟨-, q0, q1, q2, qf⟩ := xAt_new wo (.string x.name) (.slice Rq x.req.length cr) (.slice M x.lim.length cm)
        clear q0 q2
        go_wp2_with (at_builtin; refine wpList_app_plain amtElem kAmt_plain (wo.heap.size + 1) rfl (.const (.slice none 0 0)) (.tmp 19) rfl (v := .slice none 0 0) (xs := []) (ys := x.req) rfl (Own.nil kAmt 45 _ (fun _ => True) _) rfl rfl (R1.out.below HX1.out) (by have := HN24.out.1; simp; omega) (by simp) ?_; intro A1 c1 w1 happ; rw [List.length_nil, Nat.zero_add] at happ ⊢; have HA1 := Lib.hid happ; have z1 := ((xAt_new wo (.string x.name) (.slice Rq x.req.length cr) (.slice M x.lim.length cm)).grown happ.grown).c1; have zf := ((xAt_new wo (.string x.name) (.slice Rq x.req.length cr) (.slice M x.lim.length cm)).grown happ.grown).fz; clear happ)
        go_meet
        exact ⟨A1, c1, mid1u HA1.out⟩
      case rest =>
        clear e0 e1 e2 p5
        obtain ⟨A1, c1, hm1⟩ := hcut
        rename World => wm
        have HM1 := Lib.hid hm1
        clear hm1
        go_upto_region 7 with fail
        go_cut [] (fun wx => ∃ A2 c2, Mid2u wo wx wo.heap.size x A1 c1 A2 c2)
        case first =>
          obtain ⟨-, q0, q1, q2, qf⟩ := HM1.out.at_
          clear q0 q1
          have hszm : wo.heap.size + 1 ≤ wm.heap.size := (Array.getElem?_eq_some_iff.1 HM1.out.at_.blk).1
          go_wp2_with (at_builtin; refine wpList_app_plain amtElem kAmt_plain (wo.heap.size + 1) rfl (.const (.slice none 0 0)) (.tmp 23) rfl (v := .slice none 0 0) (xs := []) (ys := x.lim) rfl (Own.nil kAmt 45 _ (fun _ => True) _) rfl rfl (R2.out.below (HM1.out.below)) (by have := HN24.out.2; simp; omega) (by omega) ?_; intro A2 c2 w2 happ; rw [List.length_nil, Nat.zero_add] at happ ⊢; have HA2 := Lib.hid happ; have z1 := (HM1.out.at_.grown happ.grown).c2; have zf := (HM1.out.at_.grown happ.grown).fz; clear happ)
          go_meet
          exact ⟨A2, c2, mid2u HM1.out HA2.out⟩
        case rest =>
          clear HM1
          obtain ⟨A2, c2, hm2⟩ := hcut
          rename World => wn
          have HM2 := Lib.hid hm2
          obtain ⟨-, q0, q1, q2, -⟩ := hm2.at_
          have hszn : wo.heap.size + 1 ≤ wn.heap.size := (Array.getElem?_eq_some_iff.1 hm2.at_.blk).1
          have h64' : (L.length + 1) * 64 ≤ 140737488355328 := by have := HLEN.out; omega
          have HLO := Lib.hid (show ∀ q, (Value.slice B L.length n).ownBlock = some q → w0.heap.size ≤ q ∧ q < wo.heap.size from hown.out.own.block_lt)
          have HWN := Lib.hid (hm2.below.alloc (Nat.le_trans (Nat.le_succ _) hszn) (.cells #[.string x.name, .slice A1 x.req.length c1, .slice A2 x.lim.length c2] 43))
          clear hm2
          go_wp2_with (at_builtin; refine wpList_app partElem w0.heap.size rfl (.tmp 26) (.tmp 28) rfl (v := .slice B L.length n) (xs := L) (ys := [x]) rfl (hown.out.own.below HWN.out) (fun q hq => (hown.out.low q hq).2.2) (fun q hq e => by have := HLO.out q e; have := hq.1; omega) rfl rfl (mid_rowU HM2.out) (by exact h64') (by simp; omega) ?_; intro A7 c7 w7 happ; have HA7 := Lib.hid happ; clear happ)
          go_roundw
          case rel =>
            have hl1 : (L ++ [x]).length = L.length + 1 := by rw [List.length_append]; rfl
            exact ⟨k + 1, c7, A7, L ++ [x], _, by go_num, by rw [hl1], hlt, HSTEP.out, (hown.out.below HWN.out).app (fun q hq => ⟨by have := hq.1; omega, by have := hq.2.1; simp; omega, fun e => by have := HLO.out q e; have := hq.1; omega⟩) HA7.out, HA7.out.below (hbr.out.trans (HWN.out.mono hsz)) (by simp; omega) (fun q hq => (HLO.out q hq).1), fun q hq => by
              rcases hq with hq | hq
              · have h1 := (hown.out.low q hq).2.2
                have h2 := (hun.out q hq).lt
                exact ((hun.out q hq).keep (HWN.out.block q h2)).keep (HA7.out.grown.block q (Nat.lt_of_lt_of_le h2 HWN.out.size) (fun e => h1 e.symm))
              · exact hq.2.2.keep (HA7.out.grown.block q hq.2.2.lt (fun e => by have := HLO.out q e.symm; have := hq.1; omega))⟩
          case measure => simp [intOf]; omega
    · have hge : ¬ ((k : Int) < (o.parts.length : Int)) := by omega
      have hLo : L = o.parts := by rw [HL.out, List.take_of_length_le (by omega)]
      subst hLo
      have HP := Lib.hid hown.out
      have HE1 := Lib.hid (own_end1u (ls := ls) HS0.out HB0.out OB.out RB.out HP.out hbr.out hun.out)
      obtain ⟨-, -, -, -, -, -, -, -, pf⟩ := OB.out.below hbr.out
      clear HL hown
      go_upto_region 9 with fail
      go_cut [] (fun wx => OwnEndU w w0 wx o ls (.slice B0 ls.length m0) (.slice B o.parts.length n) R)
      case first =>
        go_wp2_with fail
        go_meet
        exact HE1.out
      case rest =>
        clear p5 pf HE1
        rename World => wm
        have HE := Lib.hid hcut
        have h32 := FIT.out.n32
        clear hcut
        go_upto_region 10 with fail
        go_cut [] (fun wx => ∃ A2 c2, OwnEndU w w0 wx o ls (.slice A2 ls.length c2) (.slice B o.parts.length n) R ∧ Row kLab (fun k => w0.heap.size ≤ k) wx A2 ls)
        case first =>
          obtain ⟨-, -, -, q2, -, -, -, -, qf⟩ := HE.out.box
          go_wp2_with (at_builtin; refine wpList_app_plain labElem kLab_plain w0.heap.size rfl (.const (.slice none 0 0)) (.tmp 33) rfl (v := .slice none 0 0) (xs := []) (ys := ls) rfl (Own.nil kLab 217 _ (fun _ => True) _) rfl rfl (LR.out.below HE.out.below) (by simp; omega) HE.out.size ?_; intro A2 c2 w2 happ; rw [List.length_nil, Nat.zero_add] at happ ⊢; have HA2 := Lib.hid happ; have z2 := (HE.out.box.below ((Below.refl _ _).grown happ.grown (Nat.le_refl _) (fun j hj => by cases hj))).c2; have zf := (HE.out.box.below ((Below.refl _ _).grown happ.grown (Nat.le_refl _) (fun j hj => by cases hj))).fz; clear happ)
          go_meet
          exact ⟨A2, c2, own_end2u HS0.out HE.out HA2.out⟩
        case rest =>
          obtain ⟨A2, c2, he2, hr2⟩ := hcut
          rename World => wn
          have HE2 := Lib.hid he2
          have HR2 := Lib.hid hr2
          obtain ⟨-, q0, q1, q2, q3, q4, q5, q6, -⟩ := he2.box
          clear he2 hr2
          have hone : (#[.string o.path, .string o.name, .slice A2 ls.length c2, .int .i64 o.prio, .int .i64 o.dl, .slice B o.parts.length n, .int .i64 o.ver] : Array Value).all (·.oneCell') = true := by simp [Value.oneCell']
          have hinf : (Tryz.prog.info? 26).map (·.size) = some 7 := by kernel_rfl
          go_wp2_with (refine wpList_store_row rfl 26 (.tmp 2) (.tmp 36) rfl (w.heap.size + 1) #[.string o.path, .string o.name, .slice A2 ls.length c2, .int .i64 o.prio, .int .i64 o.dl, .slice B o.parts.length n, .int .i64 o.ver] rfl rfl _ _ HE2.out.res.blk hinf rfl hone ?_)
          (try simp only [Exit.inBlock, Exit.then])
          refine bodyPost_ret (results_cell_row rfl _ _ (w.heap.size + 1) 26 _ (0, 0) _ rfl (setRow_heap _ _ _ _ _ _ HE2.out.res.blk) Tryz.underlying26 rfl hinf) rfl ?_
          have hs0 := HS0.out
          exact ⟨A2, c2, B, n, R, rfl, (HE2.out.parts.move (by simp) (fun k hk _ => setRow_other _ _ _ _ (by omega))).lower (by omega), (HR2.out.keep fun k hk _ => setRow_other _ _ _ _ (by omega)).mono fun k hk => by omega, below_setRow HE2.out.below (Nat.le_succ _) _, fun k hk => (HE2.out.un k hk).keep (setRow_other _ _ _ _ (by have := (HE2.out.parts.low k hk).1; omega))⟩
end Go.Proofs.YtalkdddeiebfmaaGreatDoor
