/- (*Hub).Push. -/
import Derived.Test.YtdchffghgajbfaaDoorH1
import Derived.Test.YtdchffghgajbfaaDoorS1
import Derived.Test.YtdchffghgajbfaaDoorQ
import Derived.Deep.RegionHeld3
import Derived.Deep.RegionLaw
import Derived.Deep.DeepCutAuto
namespace Go.Proofs.YtdchffghgajbfaaDoor
open Go.RowKit

/-- what a Push leaves: the hub turned, its new blocks all fresh, nothing else written -/
def PushPost (F : Nat → Prop) (g : Nat) (res : HubS × Int) (w : World) (e : Ending) (w' : World) : Prop :=
  e = .returned (.int .i64 res.2) ∧ IsHub (fun b => (F b ∧ b < w.heap.size) ∨ w.heap.size ≤ b) w' g res.1 ∧ Turn (fun b => F b) w w'
theorem PushPost.refused {F : Nat → Prop} {g : Nat} {h : HubS} {l : List Ev} {n : Int} {w w' : World} (k : IsHub F w g h) (hr : hubPush h l = (h, n)) (hb : Below w.heap.size w w') : PushPost F g (hubPush h l) w (.returned (.int .i64 n)) w' := by
  rw [hr]
  exact ⟨rfl, (k.bound.below hb).mono fun b hb => .inl hb, Turn.of_below hb⟩

theorem right_val (x : Ev) (b : Bool) (hx : Hid (rightE x = b)) (w : World) (hm : Ml w) :
    Calls Tryd.prog 81 #[.agg #[.int .i64 x.ver, .int .i64 x.kind, .bool x.gone, .string x.path, .string x.name]] w fun e w' => e = .returned (.bool b) ∧ Below w.heap.size w w' := by
  have h : rightE x = b := hx
  rw [← h]; exact right_any x w hm
theorem all_take {p : Ev → Bool} {l : List Ev} {k : Nat} (hk : k < l.length) (h : (l.take k).all p = true) (hp : p l[k] = true) : (l.take (k + 1)).all p = true := by
  rw [List.take_succ_eq_append_getElem hk, List.all_append, h]; simp [hp]
theorem all_not {p : Ev → Bool} {l : List Ev} {k : Nat} (hk : k < l.length) (hp : p l[k] = false) : l.all p = false := by
  rw [Bool.eq_false_iff]; intro h
  rw [List.all_eq_true] at h
  have := h l[k] (List.getElem_mem _)
  rw [hp] at this; cases this

set_option maxRecDepth 100000 in
theorem push_args {F : Nat → Prop} (g : Nat) (h : HubS) (A : Option Addr) (c : Nat) (l : List Ev) (w : World) (k : IsHub F w g h) (hh : h.high = 1152921504606846976 ∨ l = []) :
    Calls Tryd.prog 53 #[.pointer (some ⟨g, 0, none⟩), .slice A l.length c] w (PushPost F g (hubPush h l) w) := by
  have hbad : pushOk h.high l = false := by unfold pushOk; rcases hh with e | e <;> rw [e] <;> simp
  have hfin := Lib.hid (PushPost.refused (l := l) (n := 1) (w := w) (w' := w) k (by unfold hubPush; rw [if_pos hbad]) (Below.refl _ _))
  obtain ⟨_, _, vv, hg, _⟩ := k.bound
  obtain ⟨c0, c1, c2, c3, fz⟩ := hubAt hg
  clear hg hbad
  by_cases h1 : h.high = 1152921504606846976
  · have e1 : (h.high == 1152921504606846976) = true := by simpa using h1
    clear h1 hh
    go_enter Tryd.func53, Tryd.ntmps53
    go_wp2
    go_ret
    exact hfin.out
  · have e1 : (h.high == 1152921504606846976) = false := by simpa using h1
    have h2 : l = [] := hh.resolve_left h1
    have e2 : ((l.length : Int) == 0) = true := by rw [h2]; rfl
    clear h1 hh h2
    go_enter Tryd.func53, Tryd.ntmps53
    go_wp2
    go_ret
    exact hfin.out

theorem push_src {wr w2 : World} {B2 : Option Addr} {c2 : Nat} {l : List Ev} (h : Own kEvent 41 wr.heap.size (fun _ => True) w2 (.slice B2 l.length c2) l) (hsz : wr.heap.size ≤ w2.heap.size) :
    Row (Kn.slice kEvent) (fun k => wr.heap.size ≤ k ∧ k < w2.heap.size + 1) (w2.alloc (.cells #[.slice B2 l.length c2] 29)) (some ⟨w2.heap.size, 0, none⟩) [l] :=
  ((Row.newOne (d := Kn.slice kEvent) (S := fun k => wr.heap.size ≤ k) (cs := [.slice B2 l.length c2]) ⟨_, rfl, ((h.plain kEvent_plain).slFrom.below ((Below.refl _ _).alloc (Nat.le_refl _) _))⟩).lt).mono fun k hk => ⟨hk.1.elim id fun e => by rw [e]; exact hsz, by simpa using hk.2⟩
/-- the versions' row and the hub's own block, behind the clone and the one-element block -/
structure PushVers (g : Nat) (h : HubS) (F : Nat → Prop) (v2 : Value) (wr W : World) : Prop where
  own : OwnQ (Kn.slice kEvent) 29 F (fun k => F k ∧ k ≠ g ∧ v2.ownBlock ≠ some k) W v2 h.vs
  sep : ∀ k, wr.heap.size ≤ k → v2.ownBlock ≠ some k
  keep : ∀ w5, W.grownBy w5 v2.ownBlock → w5.heap[g]? = some (.cells #[.int .i64 h.low, .int .i64 h.high, v2, .int .i64 h.count] 95 (0, 0))
theorem push_vers {g base : Nat} {h : HubS} {F : Nat → Prop} {v2 : Value} {wr w2 : World} {l : List Ev} {B2 : Option Addr} {c2 : Nat}
    (hg : wr.heap[g]? = some (.cells #[.int .i64 h.low, .int .i64 h.high, v2, .int .i64 h.count] 95 (0, 0))) (hF : F g ∧ g < base)
    (hq : OwnQ (Kn.slice kEvent) 29 (fun k => F k ∧ k < base) (fun k => (F k ∧ k < base) ∧ k ≠ g ∧ v2.ownBlock ≠ some k) wr v2 h.vs) (hs : base ≤ wr.heap.size) (hb : Below wr.heap.size wr w2) :
    PushVers g h (fun k => F k ∧ k < base) v2 wr (w2.alloc (.cells #[.slice B2 l.length c2] 29)) := by
  have hlt := hq.lt
  have hbl : Below wr.heap.size wr (w2.alloc (.cells #[.slice B2 l.length c2] 29)) := hb.alloc hb.size _
  have hgl : g < wr.heap.size := (Array.getElem?_eq_some_iff.1 hg).1
  refine ⟨hq.move fun k _ hk => hbl.block k hk, fun k hk e => ?_, fun w5 h5 => ?_⟩
  · have := (hlt k e).1.2; omega
  · rw [h5.block g (by have := hbl.size; omega) (fun e => ?_), hbl.block g hgl, hg]
    obtain ⟨_, _, cur, hc⟩ := hlt g e.symm
    rw [hg] at hc
    simp at hc

theorem row_slice_at0 {F P : Nat → Prop} {w : World} {g off c n : Nat} {v : List Ev} {vs : List (List Ev)} (h : OwnQ (Kn.slice kEvent) 29 F P w (.slice (some ⟨g, off, none⟩) n c) (v :: vs)) :
    ∃ (a : Unit) (B : Option Addr) (cb : Nat), True ∧ w.cell? ⟨g, off, none⟩ = some (.slice B v.length cb) ∧ v.length ≤ cb ∧ cb ≤ maxLen ∧ True := by
  obtain ⟨A, c', hv, h1, h2, hr⟩ := h.row
  obtain ⟨a, cs, hA, _, ⟨u, rfl, B, cb, rfl, h3, h4, _⟩, hc⟩ := hr.at_ 0 (by simp)
  have := hc 0 _ rfl
  have ea : a = ⟨g, off, none⟩ := by simp at hv; rw [hA] at hv; exact (Option.some.inj hv.1).symm
  subst ea
  exact ⟨(), B, cb, trivial, by simpa [Addr.add] using this, h3, h4, trivial⟩
/-- the hub behind the append: its fields but for the versions are the old ones -/
def PushMid (g : Nat) (h : HubS) (l : List Ev) (F : Nat → Prop) (w wx : World) : Prop :=
  ∃ A c, wx.heap[g]? = some (.cells #[.int .i64 h.low, .int .i64 h.high, .slice A (h.vs.length + 1) c, .int .i64 h.count] 95 (0, 0)) ∧
    OwnQ (Kn.slice kEvent) 29 (fun b => (F b ∧ b < w.heap.size) ∨ w.heap.size ≤ b) (fun k => ((F k ∧ k < w.heap.size) ∨ w.heap.size ≤ k) ∧ k ≠ g ∧ (Value.slice A (h.vs.length + 1) c).ownBlock ≠ some k) wx (.slice A (h.vs.length + 1) c) (h.vs ++ [l]) ∧
    Turn (fun b => F b) w wx
theorem push_mid {g : Nat} {h : HubS} {l : List Ev} {F : Nat → Prop} {v2 : Value} {w wr w2 w5 : World} {o : Obj} {A5 : Option Addr} {c5 : Nat} (hF : F g ∧ g < w.heap.size)
    (hv2 : ∀ k, v2.ownBlock = some k → F k ∧ k < w.heap.size) (hbr : Below w.heap.size w wr) (hb2 : Below wr.heap.size wr w2)
    (hg : w5.heap[g]? = some (.cells #[.int .i64 h.low, .int .i64 h.high, v2, .int .i64 h.count] 95 (0, 0)))
    (ha : AppendedQ (Kn.slice kEvent) 29 (fun k => (F k ∧ k < w.heap.size) ∨ (w2.alloc o).heap.size ≤ k) (fun k => ((F k ∧ k < w.heap.size) ∧ k ≠ g ∧ v2.ownBlock ≠ some k) ∨ (wr.heap.size ≤ k ∧ k < w2.heap.size + 1)) (w2.alloc o) w5 v2 (.slice A5 (h.vs.length + 1) c5) (h.vs ++ [l])) :
    PushMid g h l F w (w5.setCell ⟨g, 2, none⟩ (.slice A5 (h.vs.length + 1) c5)) := by
  have hs1 := hbr.size
  have hs2 := hb2.size
  have hsz : (w2.alloc o).heap.size = w2.heap.size + 1 := by simp
  have hlt := ha.own.lt
  have hne : ∀ k, (Value.slice A5 (h.vs.length + 1) c5).ownBlock = some k → k ≠ g := fun k hk e => by
    obtain ⟨_, _, cur, hc⟩ := hlt k hk
    rw [e, hg] at hc
    simp at hc
  refine ⟨A5, c5, by simp [World.setCell, Array.getElem?_modify, hg], ?_, ?_⟩
  · refine ((ha.own.move (w' := w5.setCell ⟨g, 2, none⟩ (.slice A5 (h.vs.length + 1) c5)) fun k hk _ => ?_).mono (fun k hk => hk.imp id (fun h => by omega)) fun k hk => ?_)
    · refine Below.heap_setCell _ _ _ _ ?_
      rcases hk with hk | hk
      · exact hne k hk
      · rcases hk with hk | hk
        · exact hk.2.1
        · have := hF.2; intro e; have : k = g := e; omega
    · rcases hk with hk | hk
      · refine ⟨.inl hk.1, hk.2.1, fun e => ?_⟩
        rcases ha.at_ with h1 | ⟨b, h1, h2⟩
        · rw [h1] at e; exact hk.2.2 e
        · rw [h1] at e; have : b = k := by simpa using e
          have := hk.1.2; omega
      · refine ⟨.inr (by omega), by have := hF.2; omega, fun e => ?_⟩
        rcases ha.at_ with h1 | ⟨b, h1, h2⟩
        · rw [h1] at e; have := (hv2 k e).2; omega
        · rw [h1] at e; have : b = k := by simpa using e
          omega
  · refine Turn.setCell ?_ (.inl hF.1) _
    refine Turn.grown ?_ ha.grown fun k hk => .inl (hv2 k hk).1
    exact (((Turn.of_below hbr).then_below hb2).alloc o)

def sumLen' (vs : List (List Ev)) : Nat := (vs.map List.length).sum
/-- the hub in the second loop -/
structure PushTrim (g : Nat) (h : HubS) (l : List Ev) (F : Nat → Prop) (w wx : World) (low cnt : Int) (vs : List (List Ev)) (A : Option Addr) (c : Nat) : Prop where
  blk : wx.heap[g]? = some (.cells #[.int .i64 low, .int .i64 (h.high + 1), .slice A vs.length c, .int .i64 cnt] 95 (0, 0))
  own : OwnQ (Kn.slice kEvent) 29 (fun b => (F b ∧ b < w.heap.size) ∨ w.heap.size ≤ b) (fun k => ((F k ∧ k < w.heap.size) ∨ w.heap.size ≤ k) ∧ k ≠ g ∧ (Value.slice A vs.length c).ownBlock ≠ some k) wx (.slice A vs.length c) vs
  turn : Turn (fun b => F b) w wx
  trim : trimQ low vs cnt = trimQ h.low (h.vs ++ [l]) (h.count + l.length)
  cnt : cnt = (sumLen' vs : Nat)
theorem PushTrim.drew {g : Nat} {h : HubS} {l : List Ev} {F : Nat → Prop} {w wx : World} {low cnt : Int} {vs : List (List Ev)} {A : Option Addr} {c : Nat} (k : PushTrim g h l F w wx low cnt vs A c) : PushTrim g h l F w wx.drew low cnt vs A c :=
  ⟨k.blk, k.own, k.turn.drew, k.trim, k.cnt⟩
theorem push_trim_start {g : Nat} {h : HubS} {l : List Ev} {F : Nat → Prop} {w wx : World} {A : Option Addr} {c : Nat} (hFg : F g)
    (hg : wx.heap[g]? = some (.cells #[.int .i64 h.low, .int .i64 h.high, .slice A (h.vs.length + 1) c, .int .i64 h.count] 95 (0, 0)))
    (hq : OwnQ (Kn.slice kEvent) 29 (fun b => (F b ∧ b < w.heap.size) ∨ w.heap.size ≤ b) (fun k => ((F k ∧ k < w.heap.size) ∨ w.heap.size ≤ k) ∧ k ≠ g ∧ (Value.slice A (h.vs.length + 1) c).ownBlock ≠ some k) wx (.slice A (h.vs.length + 1) c) (h.vs ++ [l]))
    (ht : Turn (fun b => F b) w wx) (hc : h.count = (sumLen' h.vs : Nat)) :
    PushTrim g h l F w ((wx.setCell ⟨g, 1, none⟩ (.int .i64 (h.high + 1))).setCell ⟨g, 3, none⟩ (.int .i64 (h.count + l.length))) h.low (h.count + l.length) (h.vs ++ [l]) A c := by
  have hl : (h.vs ++ [l]).length = h.vs.length + 1 := by simp
  have hne : ∀ k, (Value.slice A (h.vs.length + 1) c).ownBlock = some k → k ≠ g := fun k hk e => by
    obtain ⟨_, _, cur, hc⟩ := hq.lt k hk
    rw [e, hg] at hc
    simp at hc
  refine ⟨by rw [hl]; simp [World.setCell, Array.getElem?_modify, hg], ?_, (ht.setCell (.inl hFg) _).setCell (.inl hFg) _, rfl, by rw [hc]; simp [sumLen']⟩
  rw [hl]
  refine hq.move fun k hk _ => ?_
  have : k ≠ g := hk.elim (hne k) (fun h => h.2.1)
  rw [Below.heap_setCell _ _ _ _ this, Below.heap_setCell _ _ _ _ this]
theorem push_trim_step {g : Nat} {h : HubS} {l : List Ev} {F : Nat → Prop} {w wx : World} {low cnt : Int} {v : List Ev} {vs : List (List Ev)} {g' off cap : Nat} (hFg : F g) (k : PushTrim g h l F w wx low cnt (v :: vs) (some ⟨g', off, none⟩) cap) (hc : cnt > 128)
    {A' : Option Addr} (hA : (if cap = 1 then some (⟨g', off, none⟩ : Addr) else some ⟨g', off + 1 * (Kn.slice kEvent).sz, none⟩) = A') :
    PushTrim g h l F w (((wx.setCell ⟨g, 3, none⟩ (.int .i64 (cnt - v.length))).setCell ⟨g, 2, none⟩ (.slice A' vs.length (cap - 1))).setCell ⟨g, 0, none⟩ (.int .i64 (low + 1))) (low + 1) (cnt - v.length) vs A' (cap - 1) := by
  obtain ⟨hg, hq, ht, htr, hcn⟩ := k
  obtain ⟨g2, off2, cap2, hv, h1, h2, h3, hq2⟩ := hq.tail
  have e1 : g2 = g' ∧ off2 = off ∧ cap2 = cap := by simp at hv; omega
  obtain ⟨rfl, rfl, rfl⟩ := e1
  rw [hA] at hq2
  have hob : (Value.slice A' vs.length (cap2 - 1)).ownBlock = some g2 := by rw [← hA]; split <;> rfl
  have hne : g2 ≠ g := fun e => by
    obtain ⟨_, _, cur, hc⟩ := hq.lt g2 rfl
    rw [e, hg] at hc
    simp at hc
  refine ⟨by simp [World.setCell, Array.getElem?_modify, hg], ?_, ((ht.setCell (.inl hFg) _).setCell (.inl hFg) _).setCell (.inl hFg) _, ?_, ?_⟩
  · refine (hq2.move fun k hk _ => ?_).mono (fun _ h => h) fun k hk => ⟨hk.1, hk.2.1, by rw [hob]; exact hk.2.2⟩
    have : k ≠ g := hk.elim (fun e => by rw [hob] at e; injection e with e; rw [← e]; exact hne) (fun h => h.2.1)
    rw [Below.heap_setCell _ _ _ _ this, Below.heap_setCell _ _ _ _ this, Below.heap_setCell _ _ _ _ this]
  · rw [← htr]; conv => rhs; unfold trimQ
    rw [if_pos hc]
  · rw [hcn]; simp [sumLen']; omega
theorem push_trim_end {g : Nat} {h : HubS} {l : List Ev} {F : Nat → Prop} {w wx : World} {low cnt : Int} {vs : List (List Ev)} {A : Option Addr} {c : Nat} (hFg : F g ∧ g < w.heap.size) (hok : HubOk h) (k : PushTrim g h l F w wx low cnt vs A c) (hc : ¬ cnt > 128) (hp : pushOk h.high l = true) (hl : ¬ l.length > 128) :
    PushPost F g (hubPush h l) w (.returned (.int .i64 0)) wx := by
  have hr : hubPush h l = (⟨low, h.high + 1, vs, cnt⟩, 0) := by
    have ht : trimQ low vs cnt = (low, vs, cnt) := by
      cases vs with
      | nil => rfl
      | cons v vs => unfold trimQ; rw [if_neg hc]
    unfold hubPush
    rw [if_neg (by rw [hp]; simp), if_neg hl]
    unfold hubPushed
    rw [← k.trim, ht]
  have hok2 := hubPush_ok hok l
  rw [hr] at hok2 ⊢
  exact ⟨rfl, ⟨.inl hFg, hok2, _, k.blk, k.own⟩, k.turn⟩

set_option maxRecDepth 100000 in
set_option maxHeartbeats 1000000 in
theorem push_main {F : Nat → Prop} (g : Nat) (h : HubS) (A : Option Addr) (c : Nat) (P : Nat → Prop) (l : List Ev) (w : World) (hm : Ml w) (kh : IsHub F w g h) (hr : Row kEvent P w A l) (hl : l.length ≤ 2513169434843) (hh : h.high ≠ 1152921504606846976) (hne : l ≠ []) :
    Calls Tryd.prog 53 #[.pointer (some ⟨g, 0, none⟩), .slice A l.length c] w (PushPost F g (hubPush h l) w) := by
  have hfin := Lib.hid (fun w' hbad hb => PushPost.refused (l := l) (n := 1) (w := w) (w' := w') kh (by unfold hubPush; rw [if_pos hbad]) hb)
  have hok := kh.2.1
  have hhi := hok.hi
  have hlo := hok.lo
  have hhl := hok.len
  obtain ⟨_, _, vv, hg, _⟩ := kh.bound
  have hglt := (Array.getElem?_eq_some_iff.1 hg).1
  obtain ⟨c0, c1, c2, c3, fz⟩ := hubAt hg
  have e1 : (h.high == 1152921504606846976) = false := by simpa using hh
  have e2 : ((l.length : Int) == 0) = false := by have := List.length_pos_iff.2 hne; simp; omega
  have hpok : pushOk h.high l = l.all (fun e => rightE e && decide (e.ver = h.high + 1)) := by
    unfold pushOk; simp [hh, hne]
  have HPOK := Lib.hid hpok
  have hg0 : h.low ≤ h.high := by omega
  have hwh : IntKind.i64.wrap (h.high + 1) = h.high + 1 := by rw [IntKind.wrap_i64]; omega
  clear hg hpok hhl hok
  go_enter Tryd.func53, Tryd.ntmps53
  go_wp2
  go_loopw [19] (fun i wr => ∃ k : Nat, i = .int .i64 k ∧ k ≤ l.length ∧ Below w.heap.size w wr ∧ Hid ((l.take k).all (fun e => rightE e && decide (e.ver = h.high + 1)) = true)) (fun i _ => l.length - (intOf i).toNat)
  case atStart => exact ⟨0, rfl, Nat.zero_le _, Below.refl _ _, rfl⟩
  case round =>
    obtain ⟨k, rfl, hk, hbr, HALL⟩ := hrel
    have hsz := hbr.size
    by_cases hlt : k < l.length
    · obtain ⟨a, rfl, _, l0, l1, l2, l3, l4⟩ := ev_at (hr.below hbr) k hlt
      have hm1 : Ml (wr.alloc (.cells #[.int .i64 l[k].ver, .int .i64 l[k].kind, .bool l[k].gone, .string l[k].path, .string l[k].name] 41)) := (hm.below hbr).below ((Below.refl _ _).alloc (Nat.le_refl _) _)
      have HB1 := Lib.hid ((Below.refl wr.heap.size wr).alloc (Nat.le_refl _) (.cells #[.int .i64 l[k].ver, .int .i64 l[k].kind, .bool l[k].gone, .string l[k].path, .string l[k].name] 41))
      have bx := BW.cell (wr.alloc (.cells #[.int .i64 l[k].ver, .int .i64 l[k].kind, .bool l[k].gone, .string l[k].path, .string l[k].name] 41))
      have d1 : wr.cell? ⟨g, 1, none⟩ = some (.int .i64 h.high) := (hbr.cell (p := ⟨g, 1, none⟩) hglt).trans c1
      have hg1 : g < wr.heap.size := by omega
      cases hq : rightE l[k]
      · have HQ := Lib.hid hq
        have HBAD := Lib.hid (HPOK.out.trans (all_not hlt (by simp [hq])))
        clear hq
        go_wp2_with fail
        refine wp_region_pure (by kernel_rfl) (by kernel_rfl) ?_
        repeat (first | go_big_quiet_step ((go_at_call 81; exact Calls.pure_of (right_val l[k] false HQ _ (hm1.below (BW.h _))))) | quiet_step ((go_at_call 81; exact Calls.pure_of (right_val l[k] false HQ _ (hm1.below (BW.h _))))))
        refine wpQuiet_nil ?_
        rintro _ ⟨x, rfl⟩
        go_wp2
        go_ret
        exact hfin.out _ HBAD.out (hbr.trans ((HB1.out.trans (x.h.mono (by simp))).mono hsz))
      · have HQ := Lib.hid hq
        by_cases hv : l[k].ver = h.high + 1
        · have hv' : (l[k].ver != h.high + 1) = false := by simp [hv]
          have HA2 := Lib.hid (all_take hlt HALL.out (by simp [hq, hv]))
          clear hq hv
          go_wp2_with fail
          refine wp_region_pure (by kernel_rfl) (by kernel_rfl) ?_
          repeat (first | go_big_quiet_step ((go_at_call 81; exact Calls.pure_of (right_val l[k] true HQ _ (hm1.below (BW.h _))))) | quiet_step ((go_at_call 81; exact Calls.pure_of (right_val l[k] true HQ _ (hm1.below (BW.h _))))))
          refine wpQuiet_nil ?_
          rintro _ ⟨x, rfl⟩
          go_wp2
          go_roundw
          case rel => exact ⟨k + 1, by go_num, hlt, hbr.trans ((HB1.out.trans (x.h.mono (by simp))).mono hsz), HA2⟩
          case measure => simp [intOf]; omega
        · have hv' : (l[k].ver != h.high + 1) = true := by simpa using hv
          have HBAD := Lib.hid (HPOK.out.trans (all_not hlt (by simp [hv])))
          clear hq hv
          go_wp2_with fail
          refine wp_region_pure (by kernel_rfl) (by kernel_rfl) ?_
          repeat (first | go_big_quiet_step ((go_at_call 81; exact Calls.pure_of (right_val l[k] true HQ _ (hm1.below (BW.h _))))) | quiet_step ((go_at_call 81; exact Calls.pure_of (right_val l[k] true HQ _ (hm1.below (BW.h _))))))
          refine wpQuiet_nil ?_
          rintro _ ⟨x, rfl⟩
          go_wp2
          go_ret
          exact hfin.out _ HBAD.out (hbr.trans ((HB1.out.trans (x.h.mono (by simp))).mono hsz))
    · have hall : pushOk h.high l = true := by
        rw [HPOK.out]
        have := HALL.out
        rwa [List.take_of_length_le (by omega)] at this
      have hge : ¬ ((k : Int) < (l.length : Int)) := by omega
      by_cases hlong : l.length > 128
      · have hl1 : decide ((l.length : Int) > 128) = true := by simp; omega
        have hf2 := Lib.hid (PushPost.refused (l := l) (n := 23) (w := w) (w' := wr) kh (by unfold hubPush; rw [if_neg (by rw [hall]; simp), if_pos hlong]) hbr)
        clear hall
        go_wp2
        go_ret
        exact hf2.out
      · have hl1 : decide ((l.length : Int) > 128) = false := by simp; omega
        have HALLP := Lib.hid hall
        obtain ⟨hFg, _, v2, hg2, hq2⟩ := kh.bound.below hbr
        have hvl := kh.2.1.vlen
        obtain ⟨d0, d1, d2, d3, _⟩ := hubAt hg2
        have hgr : g < wr.heap.size := (Array.getElem?_eq_some_iff.1 hg2).1
        have HSRC := Lib.hid (fun w2 B2 c2 h1 h2 => push_src (wr := wr) (w2 := w2) (B2 := B2) (c2 := c2) (l := l) h1 h2)
        have HV := Lib.hid (fun w2 B2 c2 (hb : Below wr.heap.size wr w2) => push_vers (l := l) (B2 := B2) (c2 := c2) (base := w.heap.size) hg2 hFg hq2 hsz hb)
        have HROW := Lib.hid (hr.below hbr)
        have HLT2 := Lib.hid (fun k hk => (hq2.lt k hk).1)
        have h24 : (h.vs.length + [l].length) * 24 ≤ 140737488355328 := by simp; omega
        have hl56 : l.length * 56 ≤ 140737488355328 := by omega
        clear hall hfin e1 e2 c0 c1 c2 c3 fz hg2 hq2 hr
        go_upto_region 11 with fail
        go_cut [48] (fun s48 wx => PushMid g h l F w wx)
        case first =>
          go_region_law (first
            | (refine step_appQ versElem (by rfl) (.tmp 44) (.tmp 47) (by rfl) (v := v2) (xs := h.vs) (ys := [l]) (S := fun k => wr.heap.size ≤ k ∧ k < w2.heap.size + 1) (by rfl) (by exact (HV.out _ _ _ ((Below.refl _ _).drew.trans (HB2.out.mono (Nat.le_refl _)))).own) (by exact fun _ hk => hk.2.2) (by exact fun k hk => (HV.out _ B2 c2 ((Below.refl _ _).drew.trans (HB2.out.mono (Nat.le_refl _)))).sep k hk.1) (by rfl) (by rfl) (by exact (HSRC.out _ _ _ HO2.out HB2.out.size)) (by simp) h24 ?_; intro A5 c5 w5 happ
               have HG5 := Lib.hid ((HV.out _ _ _ ((Below.refl _ _).drew.trans (HB2.out.mono (Nat.le_refl _)))).keep _ happ.grown); have HAPP := Lib.hid happ; clear happ; obtain ⟨f0, f1, f2, f3, f4⟩ := hubAt HG5.out)
            | (go_simp; go_at_call 61; refine (evClone_any A c _ l _ (by exact HROW.out) hl56).mono ?_; rintro e w2 ⟨B2, c2, rfl, hown2, hb2⟩; have HO2 := Lib.hid hown2; have HB2 := Lib.hid hb2; have d2' := (hb2.cell (p := ⟨g, 2, none⟩) hgr).trans d2; have hgr2 : g < w2.heap.size := Nat.lt_of_lt_of_le hgr hb2.size; clear hown2 hb2))
          all_goals (go_wp2_with fail; go_meet; exact push_mid hFg HLT2.out hbr ((Below.refl _ _).drew.trans HB2.out) HG5.out HAPP.out)
        case rest =>
          obtain ⟨A5, c5, hg5, hq5, ht5⟩ := hcut
          obtain ⟨f0, f1, f2, f3, f4⟩ := hubAt hg5
          have hcnt : 0 ≤ h.count ∧ h.count ≤ 128 := by have := kh.2.1.cnt; have := kh.2.1.le; omega
          have HST := Lib.hid (push_trim_start (l := l) hFg.1 hg5 hq5 ht5 (by have := kh.2.1.cnt; exact this))
          obtain ⟨hcn0, hcn1⟩ := hcnt
          have hlow5 : 0 ≤ h.low ∧ h.low + 1 + (h.vs.length : Int) ≤ 1152921504606846977 := by have := kh.2.1.len; omega
          clear hg5 hq5 ht5 d0 d1 d2 d3 HV HSRC HROW HLT2
          go_wp2
          clear f0 f1 f2 f3 f4
          go_loopg [67] (h.vs.length + 1) (fun n s67 wx => ∃ (low cnt : Int) (vs : List (List Ev)) (A : Option Addr) (c : Nat), vs.length = n ∧ 0 ≤ low ∧ low + n ≤ 1152921504606846977 ∧ cnt ≤ 256 ∧ PushTrim g h l F w wx low cnt vs A c)
          case atStart => exact ⟨h.low, _, _, A5, c5, by simp, hlow5.1, by omega, by omega, HST.out⟩
          case round =>
            obtain ⟨low, cnt, vs, A6, c6, rfl, hlo6, hhi6, hc256, ht6⟩ := hrel
            obtain ⟨f0, f1, f2, f3, f4⟩ := hubAt (h := ⟨low, h.high + 1, vs, cnt⟩) ht6.blk
            have hcn := ht6.cnt
            by_cases hc : cnt > 128
            · have e8 : decide (cnt > 128) = true := by simpa using hc
              cases vs with
              | nil => simp [sumLen'] at hcn; omega
              | cons v vs =>
                obtain ⟨g2, off2, cap2, hv2, h71, h72, h73, _⟩ := ht6.own.tail
                obtain ⟨rfl, rfl⟩ : A6 = some ⟨g2, off2, none⟩ ∧ c6 = cap2 := by
                  have := hv2; simp at this; exact ⟨this.1, this.2⟩
                obtain ⟨a, B, cb, ha, hcell, hbc, hbm, _⟩ := row_slice_at0 ht6.own
                have hvl : (v.length : Int) ≤ cnt := by rw [hcn]; simp [sumLen']; omega
                have hcut : ∀ W : World, (Instr.slice 33 (.slice (some ⟨g2, off2, none⟩) (vs.length + 1) c6) (some (.int .i64 1)) none none).run Tryd.prog W = .ok (.slice (if c6 = 1 then some ⟨g2, off2, none⟩ else some ⟨g2, off2 + 1 * (Kn.slice kEvent).sz, none⟩) vs.length (c6 - 1)) W := fun W => by
                  have := run_cut_from versElem (some ⟨g2, off2, none⟩) (vs.length + 1) c6 1 (by omega) W
                  have e : (if c6 = 1 then (some ⟨g2, off2, none⟩ : Option Addr) else (some ⟨g2, off2, none⟩ : Option Addr).map (·.add (1 * (Kn.slice kEvent).sz))) = (if c6 = 1 then some ⟨g2, off2, none⟩ else some ⟨g2, off2 + 1 * (Kn.slice kEvent).sz, none⟩) := by
                    split
                    · rfl
                    · rfl
                  rw [e] at this
                  exact this
                obtain ⟨A9, hA9⟩ : ∃ A9, (if c6 = 1 then some (⟨g2, off2, none⟩ : Addr) else some ⟨g2, off2 + 1 * (Kn.slice kEvent).sz, none⟩) = A9 := ⟨_, rfl⟩
                rw [hA9] at hcut
                have HST6 := Lib.hid (push_trim_step hFg.1 ht6 hc hA9)
                have HCN := Lib.hid hcn
                clear hcn hc hA9 ht6
                go_wp2
                go_region
                all_goals
                  go_wp2
                  go_roundg vs.length
                  case measure => simp
                  case rel => exact ⟨low + 1, _, vs, A9, c6 - 1, rfl, by omega, by simp at hhi6; omega, by omega, HST6.out.drew⟩
            · have e8 : decide (cnt > 128) = false := by simpa using hc
              have hfin := Lib.hid (push_trim_end hFg kh.2.1 ht6 hc HALLP.out hlong)
              clear ht6
              go_wp2
              go_ret
              exact hfin.out

theorem push_any {F : Nat → Prop} (g : Nat) (h : HubS) (A : Option Addr) (c : Nat) (P : Nat → Prop) (l : List Ev) (w : World) (hm : Ml w) (k : IsHub F w g h) (hr : Row kEvent P w A l) (hl : l.length ≤ 2513169434843) :
    Calls Tryd.prog 53 #[.pointer (some ⟨g, 0, none⟩), .slice A l.length c] w (PushPost F g (hubPush h l) w) := by
  by_cases hh : h.high = 1152921504606846976 ∨ l = []
  · exact push_args g h A c l w k hh
  · exact push_main g h A c P l w hm k hr hl (fun e => hh (.inl e)) (fun e => hh (.inr e))
end Go.Proofs.YtdchffghgajbfaaDoor
