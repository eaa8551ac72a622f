/- LedgerOrders: the loop's state. -/
import Derived.Test.YtalkdddeiebfmaaGreatDoorJ31
namespace Go.Proofs.YtalkdddeiebfmaaGreatDoor
open Go.RowKit

/-- one of two ledgers at a round: what was charged on it -/
structure LedRun (w : World) (g b1 b2 : Nat) (os : List ObjM) (S : Pl → Int) (C : ByteArray → Int) : Prop where
  led : IsLed w g b1 b2 (os.length * 60000000000) S C
  ok : LedOk (os.length * 60000000000) S C
  of : ofV Z0 C0 os = (0, S, C)
theorem LedRun.start {w : World} {g b1 b2 : Nat} (k : IsLed w g b1 b2 0 Z0 C0) : LedRun w g b1 b2 [] Z0 C0 := ⟨k, ledOk_zero, rfl⟩
theorem LedRun.below {w w' : World} {g b1 b2 : Nat} {os : List ObjM} {S : Pl → Int} {C : ByteArray → Int} (k : LedRun w g b1 b2 os S C) (hb : Below w.heap.size w w') : LedRun w' g b1 b2 os S C := ⟨k.led.below hb, k.ok, k.of⟩
theorem LedRun.turn {w w' : World} {g b1 b2 : Nat} {os : List ObjM} {S : Pl → Int} {C : ByteArray → Int} {T : Nat → Prop} (k : LedRun w g b1 b2 os S C) (ht : Turn T w w') (hT : ∀ i, ledB g b1 b2 i → ¬ T i) : LedRun w' g b1 b2 os S C := ⟨k.led.turn ht hT, k.ok, k.of⟩
theorem LedRun.step {w w' : World} {g b1 b2 n : Nat} {os : List ObjM} {o : ObjM} {S S' : Pl → Int} {C C' : ByteArray → Int} (k : LedRun w g b1 b2 os S C) (f : ObjMOk o) (hc : chargeV S C o.v = (0, S', C')) (k' : IsLed w' g b1 b2 n S' C') : LedRun w' g b1 b2 (os ++ [o]) S' C' := by
  have h1 := chargeV_ok k.ok f
  rw [hc] at h1
  have h2 := objWt_le (chargeV_acc hc).1 f
  have h3 : LedOk ((os ++ [o]).length * 60000000000) S' C' := h1.mono (by rw [List.length_append, List.length_singleton, Nat.add_mul]; omega)
  exact ⟨k'.tight h3, h3, ofV_snoc k.of hc⟩
/-- a charge on one of them -/
theorem LedRun.charge {w : World} {g b1 b2 : Nat} {os : List ObjM} {S : Pl → Int} {C : ByteArray → Int} (k : LedRun w g b1 b2 os S C) (hl : os.length ≤ 40) (o : ObjM) (f : ObjMOk o) (L : Option Addr) (m : Nat) (B : Option Addr) (c : Nat) (P : Nat → Prop) (h : OArg w o.v L o.ls.length m B P) :
    Calls Tryz.prog 17 #[.pointer (some ⟨g, 0, none⟩), .agg #[.string o.path, .string o.name, .slice L o.ls.length m, .int .i64 o.prio, .int .i64 o.dl, .slice B o.parts.length c, .int .i64 o.ver]] w fun e w' =>
      ∃ z S' C', e = .returned (.int .i64 z) ∧ (z = 0 → LedRun w' g b1 b2 (os ++ [o]) S' C') ∧ (z ≠ 0 → chargeV S C o.v = (z, S', C')) ∧ Turn (mapB b1 b2) w w' := by
  obtain ⟨⟨z, S', C'⟩, hc⟩ : ∃ r, chargeV S C o.v = r := ⟨_, rfl⟩
  have h1 := charge_any (g := g) (b1 := b1) (b2 := b2) (n := os.length * 60000000000) (S := S) (C := C) o.v (os.length * 60000000000) L o.ls.length m B c P w h k.led k.ok (by omega) (os.length * 60000000000 + 60000000000) (Nat.le_refl _) (by unfold maxLen; omega)
  rw [hc] at h1
  refine h1.mono fun e w' ⟨e1, e2, e3⟩ => ⟨z, S', C', e1, fun hz => ?_, fun _ => hc, e3⟩
  subst hz
  exact k.step f hc e2
theorem sum_le {α : Type} (f : α → Nat) (K : Nat) : ∀ l : List α, (∀ x ∈ l, f x ≤ K) → (l.map f).sum ≤ l.length * K
  | [], _ => by simp
  | x :: l, h => by
    have h1 := h x (by simp)
    have h2 := sum_le f K l fun y hy => h y (by simp [hy])
    rw [List.map_cons, List.sum_cons, List.length_cons, Nat.succ_mul]; omega
theorem objs_wt {os : List ObjM} (h : ∀ o ∈ os, ObjMOk o) : (os.map objWt).sum ≤ os.length * 57982058614 := sum_le objWt _ os fun o ho => by
  have h1 := objWt_amts o
  have h2 : (allB o.parts).length ≤ 1073741824 := (h o ho).use.few
  omega
/-- the loop, at i -/
structure OrdAt (d : ObjM) (w wr : World) (ga a1 a2 gb b1 b2 sb n i : Nat) (os : List ObjM) (lv : Value) (ks : List Nat) (Sa Sb : Pl → Int) (Ca Cb : ByteArray → Int) (R : Nat → Prop) : Prop where
  below : Below w.heap.size w wr
  list : ListAt kObj 26 (sb + 1) wr lv (os.take i) R
  a : LedRun wr ga a1 a2 (os.take i) Sa Ca
  b : LedRun wr gb b1 b2 (ks.map fun k => os.getD k d) Sb Cb
  seen : Own kBool 4 sb (fun _ => False) wr (.slice (some ⟨sb, 0, none⟩) n n) (seenL n ks)
  nod : ks.Nodup
  len : ks.length = i
  lt : ∀ k ∈ ks, k < n
/-- which blocks are whose -/
structure OrdBlk (w : World) (ga a1 a2 gb b1 b2 sb : Nat) : Prop where
  a : ∀ j, ledB ga a1 a2 j → w.heap.size ≤ j ∧ j < sb
  b : ∀ j, ledB gb b1 b2 j → w.heap.size ≤ j ∧ j < sb
  ab : ∀ j, ledB ga a1 a2 j → ¬ ledB gb b1 b2 j
  s : w.heap.size ≤ sb
theorem LedRun.charge' {w : World} {g b1 b2 : Nat} {os : List ObjM} {S : Pl → Int} {C : ByteArray → Int} (k : LedRun w g b1 b2 os S C) (hl : os.length ≤ 40) (o : ObjM) (f : ObjMOk o) {z : Int} {S' : Pl → Int} {C' : ByteArray → Int} (hc : chargeV S C o.v = (z, S', C'))
    (L : Option Addr) (m : Nat) (B : Option Addr) (c : Nat) (P : Nat → Prop) (h : OArg w o.v L o.ls.length m B P) :
    Calls Tryz.prog 17 #[.pointer (some ⟨g, 0, none⟩), .agg #[.string o.path, .string o.name, .slice L o.ls.length m, .int .i64 o.prio, .int .i64 o.dl, .slice B o.parts.length c, .int .i64 o.ver]] w fun e w' =>
      e = .returned (.int .i64 z) ∧ (z = 0 → LedRun w' g b1 b2 (os ++ [o]) S' C') ∧ Turn (mapB b1 b2) w w' := by
  have h1 := charge_any (g := g) (b1 := b1) (b2 := b2) (n := os.length * 60000000000) (S := S) (C := C) o.v (os.length * 60000000000) L o.ls.length m B c P w h k.led k.ok (by omega) (os.length * 60000000000 + 60000000000) (Nat.le_refl _) (by unfold maxLen; omega)
  rw [hc] at h1
  refine h1.mono fun e w' ⟨e1, e2, e3⟩ => ⟨e1, fun hz => ?_, e3⟩
  subst hz
  exact k.step f hc e2
/-- the loop's state, part by part -/
structure OrdG (w wr : World) (ga a1 a2 gb b1 b2 sb n l : Nat) (os La Lb : List ObjM) (lv : Value) (ks : List Nat) (Sa Sb : Pl → Int) (Ca Cb : ByteArray → Int) (R : Nat → Prop) : Prop where
  below : Below w.heap.size w wr
  list : ListAt kObj 26 (sb + 1) wr lv (os.take l) R
  a : LedRun wr ga a1 a2 La Sa Ca
  b : LedRun wr gb b1 b2 Lb Sb Cb
  seen : Own kBool 4 sb (fun _ => False) wr (.slice (some ⟨sb, 0, none⟩) n n) (seenL n ks)
theorem OrdAt.g {d : ObjM} {w wr : World} {ga a1 a2 gb b1 b2 sb n i : Nat} {os : List ObjM} {lv : Value} {ks : List Nat} {Sa Sb : Pl → Int} {Ca Cb : ByteArray → Int} {R : Nat → Prop} (h : OrdAt d w wr ga a1 a2 gb b1 b2 sb n i os lv ks Sa Sb Ca Cb R) :
    OrdG w wr ga a1 a2 gb b1 b2 sb n i os (os.take i) (ks.map fun k => os.getD k d) lv ks Sa Sb Ca Cb R := ⟨h.below, h.list, h.a, h.b, h.seen⟩
section
variable {w wr w' : World} {ga a1 a2 gb b1 b2 sb n l : Nat} {os La Lb : List ObjM} {lv : Value} {ks : List Nat} {Sa Sb : Pl → Int} {Ca Cb : ByteArray → Int} {R : Nat → Prop}
theorem OrdG.then_ (h : OrdG w wr ga a1 a2 gb b1 b2 sb n l os La Lb lv ks Sa Sb Ca Cb R) (hb : Below wr.heap.size wr w') : OrdG w w' ga a1 a2 gb b1 b2 sb n l os La Lb lv ks Sa Sb Ca Cb R :=
  ⟨h.below.trans (hb.mono h.below.size), h.list.below hb, h.a.below hb, h.b.below hb, h.seen.below hb⟩
theorem OrdG.low (h : OrdG w wr ga a1 a2 gb b1 b2 sb n l os La Lb lv ks Sa Sb Ca Cb R) : ∀ k, lv.ownBlock = some k ∨ R k → sb + 1 ≤ k := fun k hk => hk.elim (fun e => (h.list.own.block_lt k e).1) (fun e => (h.list.low k e).1)
theorem OrdG.app (h : OrdG w wr ga a1 a2 gb b1 b2 sb n l os La Lb lv ks Sa Sb Ca Cb R) (hk : OrdBlk w ga a1 a2 gb b1 b2 sb) {o : ObjM} (htk : os.take (l + 1) = os.take l ++ [o]) {W4 : World} {S : Nat → Prop} (hb : Below wr.heap.size wr W4)
    (hS : ∀ k, S k → wr.heap.size ≤ k ∧ k < W4.heap.size) {lv' : Value} (ha : Appended kObj 26 (sb + 1) (fun k => R k ∨ S k) W4 w' lv lv' (os.take l ++ [o])) :
    OrdG w w' ga a1 a2 gb b1 b2 sb n (l + 1) os La Lb lv' ks Sa Sb Ca Cb (fun k => R k ∨ S k) := by
  have ht : Turn (fun k => lv.ownBlock = some k) wr w' := (Turn.of_below hb).grown ha.grown (fun k hk => .inl hk)
  have hlo := h.low
  have hsb : sb + 1 ≤ wr.heap.size := by have := (h.seen.block_lt sb rfl).2; omega
  have hws := hk.s
  refine ⟨h.below.trans (ht.below h.below.size fun k e => by have := hlo k (.inl e); omega), ?_, h.a.turn ht fun k e e2 => by have := (hk.a k e).2; have := hlo k (.inl e2); omega,
    h.b.turn ht fun k e e2 => by have := (hk.b k e).2; have := hlo k (.inl e2); omega, h.seen.move fun k e hl => ht.block k hl fun e2 => ?_⟩
  · rw [htk]
    refine (h.list.below hb).app (fun k e => ?_) ha
    obtain ⟨e1, e2⟩ := hS k e
    refine ⟨by omega, e2, fun e3 => ?_⟩
    have := (h.list.own.block_lt k e3).2
    omega
  · have h3 := hlo k (.inl e2)
    rcases e with e | e
    · have : sb = k := by simpa [Value.ownBlock] using e
      omega
    · exact e
theorem OrdG.see (h : OrdG w wr ga a1 a2 gb b1 b2 sb n l os La Lb lv ks Sa Sb Ca Cb R) (hk : OrdBlk w ga a1 a2 gb b1 b2 sb) {k : Nat} (hkn : k < n) :
    OrdG w (wr.setCell ⟨sb, k, none⟩ (.bool true)) ga a1 a2 gb b1 b2 sb n l os La Lb lv (ks ++ [k]) Sa Sb Ca Cb R := by
  have ht : Turn (fun k => k = sb) wr (wr.setCell ⟨sb, k, none⟩ (.bool true)) := Turn.setCell (S := fun k => k = sb) (p := ⟨sb, k, none⟩) (Turn.refl _ _) (.inl rfl) _
  have hlo := h.low
  refine ⟨h.below.trans (ht.below h.below.size fun k e => by subst e; exact hk.s), h.list.turn ht fun k e e2 => ?_, h.a.turn ht fun k e e2 => by have := (hk.a k e).2; omega, h.b.turn ht fun k e e2 => by have := (hk.b k e).2; omega, own_seen_set h.seen hkn⟩
  have := hlo k e2.symm
  omega
theorem OrdG.chA (h : OrdG w wr ga a1 a2 gb b1 b2 sb n l os La Lb lv ks Sa Sb Ca Cb R) (hk : OrdBlk w ga a1 a2 gb b1 b2 sb) (ht : Turn (mapB a1 a2) wr w') {La' : List ObjM} {Sa' : Pl → Int} {Ca' : ByteArray → Int} (k' : LedRun w' ga a1 a2 La' Sa' Ca') :
    OrdG w w' ga a1 a2 gb b1 b2 sb n l os La' Lb lv ks Sa' Sb Ca' Cb R := by
  have hlo := h.low
  have hm : ∀ k, mapB a1 a2 k → ledB ga a1 a2 k := fun k e => .inr e
  refine ⟨h.below.trans (ht.below h.below.size fun k e => (hk.a k (hm k e)).1), h.list.turn ht fun k e e2 => ?_, k', h.b.turn ht fun k e e2 => hk.ab k (hm k e2) e, h.seen.move fun k e hl => ht.block k hl fun e2 => ?_⟩
  · have := hlo k e2.symm
    have := (hk.a k (hm k e)).2
    omega
  · have h1 := (hk.a k (hm k e2)).2
    rcases e with e | e
    · have : sb = k := by simpa [Value.ownBlock] using e
      omega
    · exact e
theorem OrdG.chB (h : OrdG w wr ga a1 a2 gb b1 b2 sb n l os La Lb lv ks Sa Sb Ca Cb R) (hk : OrdBlk w ga a1 a2 gb b1 b2 sb) (ht : Turn (mapB b1 b2) wr w') {Lb' : List ObjM} {Sb' : Pl → Int} {Cb' : ByteArray → Int} (k' : LedRun w' gb b1 b2 Lb' Sb' Cb') :
    OrdG w w' ga a1 a2 gb b1 b2 sb n l os La Lb' lv ks Sa Sb' Ca Cb' R := by
  have hlo := h.low
  have hm : ∀ k, mapB b1 b2 k → ledB gb b1 b2 k := fun k e => .inr e
  refine ⟨h.below.trans (ht.below h.below.size fun k e => (hk.b k (hm k e)).1), h.list.turn ht fun k e e2 => ?_, h.a.turn ht fun k e e2 => hk.ab k e (hm k e2), k', h.seen.move fun k e hl => ht.block k hl fun e2 => ?_⟩
  · have := hlo k e2.symm
    have := (hk.b k (hm k e)).2
    omega
  · have h1 := (hk.b k (hm k e2)).2
    rcases e with e | e
    · have : sb = k := by simpa [Value.ownBlock] using e
      omega
    · exact e
theorem OrdG.at_ {d : ObjM} {k : Nat} {o p : ObjM} (hi : l < os.length) (hkn : k < n) (hn : os.length = n) (ho : os[l] = o) (hp : os.getD k d = p) (h : OrdG w wr ga a1 a2 gb b1 b2 sb n (l + 1) os (os.take l ++ [o]) ((ks.map fun k => os.getD k d) ++ [p]) lv (ks ++ [k]) Sa Sb Ca Cb R)
    (h1 : ks.Nodup) (h2 : ks.length = l) (h3 : ∀ k ∈ ks, k < n) (h4 : k ∉ ks) : OrdAt d w wr ga a1 a2 gb b1 b2 sb n (l + 1) os lv (ks ++ [k]) Sa Sb Ca Cb R := by
  refine ⟨h.below, h.list, ?_, ?_, h.seen, ?_, by simp [h2], fun x hx => ?_⟩
  · rw [List.take_succ_eq_append_getElem hi, ho]; exact h.a
  · rw [List.map_append, List.map_singleton, hp]; exact h.b
  · rw [List.nodup_append]
    exact ⟨h1, by simp, fun a ha b hb e => by rw [List.mem_singleton.1 hb] at e; exact h4 (e ▸ ha)⟩
  · rcases List.mem_append.1 hx with e | e
    · exact h3 x e
    · rw [List.mem_singleton.1 e]; exact hkn
theorem OrdG.cell (h : OrdG w wr ga a1 a2 gb b1 b2 sb n l os La Lb lv ks Sa Sb Ca Cb R) {k : Nat} (hkn : k < n) : wr.cell? ⟨sb, k, none⟩ = some (.bool (decide (k ∈ ks))) ∧ wr.frozen? ⟨sb, k, none⟩ = false := by
  refine ⟨?_, (OwnAt.of_own h.seen).frozen k⟩
  obtain ⟨A, c, hv, -, -, hr⟩ := h.seen.row
  injection hv with hA _ _
  subst hA
  obtain ⟨a, ha, -, hc⟩ := bool_at hr k (by rw [seenL_len]; exact hkn)
  cases ha
  rw [add_new, seenL_get hkn] at hc
  exact hc
end
theorem ObjMAt.below {P : Nat → Prop} {w w' : World} {a : Addr} {o : ObjM} {L : Option Addr} {m : Nat} {B : Option Addr} {c : Nat} (h : ObjMAt P w a o L m B c) (hb : Below w.heap.size w w') : ObjMAt P w' a o L m B c :=
  ⟨(hb.cell (World.block_lt_of_cell? _ _ h.c0)).trans h.c0, (hb.cell (p := ⟨_, _, none⟩) (World.block_lt_of_cell? _ _ h.c1)).trans h.c1, (hb.cell (p := ⟨_, _, none⟩) (World.block_lt_of_cell? _ _ h.c2)).trans h.c2, (hb.cell (p := ⟨_, _, none⟩) (World.block_lt_of_cell? _ _ h.c3)).trans h.c3,
    (hb.cell (p := ⟨_, _, none⟩) (World.block_lt_of_cell? _ _ h.c4)).trans h.c4, (hb.cell (p := ⟨_, _, none⟩) (World.block_lt_of_cell? _ _ h.c5)).trans h.c5, (hb.cell (p := ⟨_, _, none⟩) (World.block_lt_of_cell? _ _ h.c6)).trans h.c6, h.lab.below hb, h.row.below hb⟩
end Go.Proofs.YtalkdddeiebfmaaGreatDoor
