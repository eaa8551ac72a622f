/- The law ScopeUsesAddUp: Uses by its list of parts; an object of the call's own whose parts grow. -/
import Derived.Test.YtdchffghgajbfaaZ3
import Derived.Deep.RegionLaw
namespace Go.Proofs.Ytdchffghgajbfaa
open Go.RowKit

theorem uses_gen (path name : ByteArray) (prio dl ver : Int) (ps : List PartV) (np : Nat) (hnp : ps.length = np) (U : List Amt) (q : Nat) (eu : Int) (hU : Hid ((usesV ps).1.map amtOf = U)) (hq : U.length = q) (he : Hid ((usesV ps).2 = eu)) (hN : NamesOk ps) (hT : (allB ps).length ≤ 1099511627776)
    (L : Option Addr) (n m : Nat) (B : Option Addr) (c : Nat) (P : Nat → Prop) (w : World) (hr : Row kPart P w B ps) (hl : ps.length ≤ 9223372036854775807) (hs : PartsOk ps) :
    Calls Try.prog 5 #[.agg #[.string path, .string name, .slice L n m, .int .i64 prio, .int .i64 dl, .slice B np c, .int .i64 ver]] w fun e w' => ∃ A c, e = .returned (.tuple #[.slice A q c, .int .i64 eu]) ∧ Row kAmt (fun _ => True) w' A U ∧ Below w.heap.size w w' := by
  subst hnp
  have := uses_own ⟨path, name, .slice L n m, prio, dl, ps, ver⟩ U q eu hU hq he hN hT L n m B c P w ⟨⟨L, n, m, rfl⟩, hr, hl, hs⟩
  exact this.mono fun e w' ⟨A, c, h1, h2, h3⟩ => ⟨A, c, h1, (own_rows h2).mono fun _ _ => trivial, h3⟩
section
variable {P : Program} {w : World} {α : Type} {d : Kn α} {t e : TypeId} {bytes : Nat} {ops : Array Oper} {o : Oper} {a : Act} {K : Act → World → Prop} {Q : Exit → Act → World → Prop}
theorem step_app {E : Prop} (I : Elem P t e d bytes) (base : Nat) (hgd : o.guard = none) (s x : Operand) (ho : o.op = .call { callee := .builtin .append, args := #[s, x], argTypes := #[t, t] })
    {R S : Nat → Prop} {v : Value} {xs ys : List α} (hs : a.eval s = v) (hown : Own d e base R w v xs) (hR : ∀ k, R k → v.ownBlock ≠ some k) (hS : ∀ k, S k → v.ownBlock ≠ some k) {A : Option Addr} {m c : Nat} (hx : a.eval x = .slice A m c) (hm : m = ys.length) (hr : Row d S w A ys)
    (hb : (xs.length + ys.length) * bytes ≤ 140737488355328) (hbase : base ≤ w.heap.size)
    (h : ∀ A' c' w', Appended d e base (fun k => R k ∨ S k) w w' v (.slice A' (xs ++ ys).length c') (xs ++ ys) → K (a.put o.dst (.slice A' (xs ++ ys).length c')) w') : if Region.wanted o (yielded ops a.tmps) = true then Oper.wp P o a w K Q else E := by
  subst hm
  obtain ⟨v', w', hrun, ha⟩ := run_app I base o.type hown hR hS hr hb hbase
  have hw : Region.wanted o (yielded ops a.tmps) = true := by simp [Region.wanted, hgd]
  rw [if_pos hw]
  obtain ⟨A', c', hv', _⟩ := ha.own.row
  subst hv'
  exact wp_of_run s x ho hs hx hrun (h A' c' w' ha)
end
section
variable {P : Program} {w : World} {α : Type} {d : Kn α} {t e : TypeId} {bytes : Nat} {ops : Array Oper} {rest : List Oper} {o : Oper} {a : Act} {K : Act → World → Prop} {Q : Exit → Act → World → Prop}
theorem step_app2 {E : Prop} (I : Elem P t e d bytes) (base : Nat) (hgd : o.guard = none) (s x : Operand) (ho : o.op = .call { callee := .builtin .append, args := #[s, x], argTypes := #[t, t] })
    {R S : Nat → Prop} {v : Value} {xs ys zs : List α} {nz : Nat} (hz : xs ++ ys = zs) (hnz : zs.length = nz) (hs : a.eval s = v) (hown : Own d e base R w v xs) (hR : ∀ k, R k → v.ownBlock ≠ some k) (hS : ∀ k, S k → v.ownBlock ≠ some k) {A : Option Addr} {m c : Nat} (hx : a.eval x = .slice A m c) (hm : m = ys.length) (hr : Row d S w A ys)
    (hb : nz * bytes ≤ 140737488355328) (hbase : base ≤ w.heap.size)
    (h : ∀ A' c' w', Appended d e base (fun k => R k ∨ S k) w w' v (.slice A' nz c') zs → K (a.put o.dst (.slice A' nz c')) w') : if Region.wanted o (yielded ops a.tmps) = true then Oper.wp P o a w K Q else E := by
  subst hz
  subst hnz
  exact step_app I base hgd s x ho hs hown hR hS hx hm hr (by rw [← List.length_append]; exact hb) hbase h
theorem wpList_app2 (I : Elem P t e d bytes) (base : Nat) (hgd : o.guard = none) (s x : Operand) (ho : o.op = .call { callee := .builtin .append, args := #[s, x], argTypes := #[t, t] })
    {R S : Nat → Prop} {v : Value} {xs ys zs : List α} {nz : Nat} (hz : xs ++ ys = zs) (hnz : zs.length = nz) (hs : a.eval s = v) (hown : Own d e base R w v xs) (hR : ∀ k, R k → v.ownBlock ≠ some k) (hS : ∀ k, S k → v.ownBlock ≠ some k) {A : Option Addr} {m c : Nat} (hx : a.eval x = .slice A m c) (hm : m = ys.length) (hr : Row d S w A ys)
    (hb : nz * bytes ≤ 140737488355328) (hbase : base ≤ w.heap.size)
    (h : ∀ A' c' w', Appended d e base (fun k => R k ∨ S k) w w' v (.slice A' nz c') zs → wpList P ops Q rest (a.put o.dst (.slice A' nz c')) w') : wpList P ops Q (o :: rest) a w := by
  subst hz
  subst hnz
  refine wpList_app I base hgd s x ho hs hown hR hS hx hm hr (by rw [← List.length_append]; exact hb) hbase fun A' c' w' ha => ?_
  rw [← List.length_append] at ha ⊢
  exact h A' c' w' ha
end
def noneP : PartV := ⟨⟨#[110, 111, 110, 101]⟩, [], []⟩
theorem none_row (w : World) : Row kPart (fun k => k = w.heap.size) (w.alloc (.cells #[.string ⟨#[110, 111, 110, 101]⟩, .slice none 0 0, .slice none 0 0] 33)) (some ⟨w.heap.size, 0, none⟩) [noneP] := by
  have h0 := heap_alloc_new w (.cells #[.string ⟨#[110, 111, 110, 101]⟩, .slice none 0 0, .slice none 0 0] 33)
  refine fun _ => ⟨_, rfl, rfl, [.string ⟨#[110, 111, 110, 101]⟩, .slice none 0 0, .slice none 0 0], ⟨rfl, fun i hi => ?_⟩, fun j u hu => by rw [add_new, cell_of_row _ _ _ _ _ _ h0]; simpa using hu⟩
  have hz : ∀ (W : World), Sl kAmt (fun k => k = w.heap.size) W (.slice none 0 0) [] := fun W => Sl.nil _ _ _
  match i, hi with
  | 0, _ => exact ⟨[.string ⟨#[110, 111, 110, 101]⟩], [.slice none 0 0, .slice none 0 0], rfl, rfl, [.slice none 0 0], [.slice none 0 0], rfl, ⟨_, rfl, hz _⟩, ⟨_, rfl, hz _⟩⟩
theorem value_get (S : List (Key × Int)) (U : List Amt) (hU : Hid (S.map amtOf = U)) (s : ByteArray) (v : Int) (hv : Hid (getK s.data.toList S = v)) (A : Option Addr) (n c : Nat) (P : Nat → Prop) (w : World) (hx : Row kAmt P w A U) (hn : U.length = n) (hl : n ≤ 9223372036854775807) :
    Calls Try.prog 8 #[.slice A n c, .string s] w fun e w' => e = .returned (.int .i64 v) ∧ Below w.heap.size w w' := by
  have := value_any A n c P U s w hx hn hl
  rw [← hU.out, valA_amt, hv.out] at this
  exact this
/-- an object of the call's own: its box, its parts in lists of the call's own -/
structure CAt (base : Nat) (w0 w : World) (bx : Nat) (o : ObjV) (lab : Value) (ps : List PartV) (np : Nat) (A : Option Addr) (c : Nat) (R : Nat → Prop) : Prop where
  box : OBox w bx (.string o.path) (.string o.name) lab (.int .i64 o.prio) (.int .i64 o.dl) (.slice A np c) (.int .i64 o.ver)
  len : ps.length = np
  parts : PartsAt base w (.slice A np c) ps R
  sep : (Value.slice A np c).ownBlock ≠ some bx
  sepr : ∀ k, R k → k ≠ bx
  low : base ≤ bx
  below : Below base w0 w
section
variable {base : Nat} {w0 w w' : World} {bx : Nat} {o : ObjV} {lab : Value} {ps ys : List PartV} {np : Nat} {A A' : Option Addr} {c c' : Nat} {R S : Nat → Prop}
theorem CAt.lt (h : CAt base w0 w bx o lab ps np A c R) : bx < w.heap.size := (Array.getElem?_eq_some_iff.1 h.box.blk).1
theorem CAt.bsize (h : CAt base w0 w bx o lab ps np A c R) : base ≤ w.heap.size := Nat.le_of_lt (Nat.lt_of_le_of_lt h.low h.lt)
theorem CAt.ofBelow (h : CAt base w0 w bx o lab ps np A c R) (hb : Below w.heap.size w w') : CAt base w0 w' bx o lab ps np A c R :=
  ⟨h.box.below hb, h.len, h.parts.below hb, h.sep, h.sepr, h.low, h.below.trans (hb.mono h.bsize)⟩
theorem CAt.start (hp : PartsAt w0.heap.size w (.slice A np c) ps R) (hn : ps.length = np) (hb : Below w0.heap.size w0 w) : CAt w0.heap.size w0 (w.alloc (.cells #[.string o.path, .string o.name, lab, .int .i64 o.prio, .int .i64 o.dl, .slice A np c, .int .i64 o.ver] 25)) w.heap.size o lab ps np A c R :=
  ⟨OBox.of (heap_alloc_new w _), hn, hp.below ((Below.refl _ _).alloc (Nat.le_refl _) _), fun e => by have := (hp.own.block_lt _ e).2; omega, fun k hk e => by have := (hp.low k hk).2.1; omega, hb.size, hb.alloc hb.size _⟩
/-- the box behind an append -/
theorem CAt.appBox (h : CAt base w0 w bx o lab ps np A c R) {v' : Value} {zs : List PartV} {T : Nat → Prop} (ha : Appended kPart 33 base T w w' (.slice A np c) v' zs) : OBox w' bx (.string o.path) (.string o.name) lab (.int .i64 o.prio) (.int .i64 o.dl) (.slice A np c) (.int .i64 o.ver) :=
  .of ((ha.grown.block bx h.lt (fun e => h.sep e.symm)).trans h.box.blk)
theorem CAt.app (h : CAt base w0 w bx o lab ps np A c R) (hS : ∀ k, S k → base ≤ k ∧ k < w.heap.size ∧ (Value.slice A np c).ownBlock ≠ some k ∧ k ≠ bx)
    (ha : Appended kPart 33 base (fun k => R k ∨ S k) w w' (.slice A np c) (.slice A' (ps ++ ys).length c') (ps ++ ys)) : CAt base w0 (w'.setCell ⟨bx, 5, none⟩ (.slice A' (ps ++ ys).length c')) bx o lab (ps ++ ys) (ps ++ ys).length A' c' (fun k => R k ∨ S k) := by
  have hp := h.parts.app (fun k hk => ⟨(hS k hk).1, (hS k hk).2.1, (hS k hk).2.2.1⟩) ha
  have hlt := h.lt
  have hsep : (Value.slice A' (ps ++ ys).length c').ownBlock ≠ some bx := by
    rcases ha.at_ with e | e
    · rw [e]; exact h.sep
    · rw [e]; intro e2
      have := Option.some.inj e2
      omega
  have hsr : ∀ k, (R k ∨ S k) → k ≠ bx := fun k hk => hk.elim (h.sepr k) (fun hs => (hS k hs).2.2.2)
  refine ⟨(h.appBox ha).set5 _, rfl, ⟨hp.own.move fun k hk _ => Below.heap_setCell _ _ _ _ ?_, fun k hk => ⟨(hp.low k hk).1, by have := (hp.low k hk).2.1; simpa [World.setCell] using this, (hp.low k hk).2.2⟩⟩, hsep, hsr, h.low, ?_⟩
  · rcases hk with hk | hk
    · exact fun e => hsep (by rw [hk]; exact congrArg some e)
    · exact hsr k hk
  · exact (ha.below h.below h.bsize (fun q hq => (h.parts.own.block_lt q hq).1)).setCell h.low _
theorem CAt.app2 (h : CAt base w0 w bx o lab ps np A c R) {zs : List PartV} {nz : Nat} (hz : ps ++ ys = zs) (hnz : zs.length = nz) (hS : ∀ k, S k → base ≤ k ∧ k < w.heap.size ∧ (Value.slice A np c).ownBlock ≠ some k ∧ k ≠ bx)
    (ha : Appended kPart 33 base (fun k => R k ∨ S k) w w' (.slice A np c) (.slice A' nz c') zs) : ∃ A2 c2 R2, CAt base w0 (w'.setCell ⟨bx, 5, none⟩ (.slice A' nz c')) bx o lab zs nz A2 c2 R2 := by
  subst hz
  subst hnz
  exact ⟨_, _, _, h.app hS ha⟩
end
/-- the boxes of the law's arguments: two objects -/
structure TwoObj (W : World) (n : Nat) (a : ObjV) (A : Option Addr) (c : Nat) (la : List LabV) (b : ObjV) (B : Option Addr) (d : Nat) (lb : List LabV) : Prop where
  oa : ObjAt W n a A c
  ob : ObjAt W (n + 1) b B d
  fa : ObjFit W a A la
  fb : ObjFit W b B lb
theorem TwoObj.below {W W' : World} {n : Nat} {a : ObjV} {A : Option Addr} {c : Nat} {la : List LabV} {b : ObjV} {B : Option Addr} {d : Nat} {lb : List LabV} (h : TwoObj W n a A c la b B d lb) (hb : Below W.heap.size W W') : TwoObj W' n a A c la b B d lb := ⟨h.oa.below hb, h.ob.below hb, h.fa.below hb, h.fb.below hb⟩
theorem twoObj (w : World) (a : ObjV) (A : Option Addr) (c : Nat) (la : List LabV) (b : ObjV) (B : Option Addr) (d : Nat) (lb : List LabV) (ha : ObjFit w a A la) (hb : ObjFit w b B lb) :
    TwoObj ((w.alloc (.cells (a.cells A c) 25)).alloc (.cells (b.cells B d) 25)) w.heap.size a A c la b B d lb ∧ Below w.heap.size w ((w.alloc (.cells (a.cells A c) 25)).alloc (.cells (b.cells B d) 25)) := by
  have h1 := objAt_new w a A c
  have hb1 : Below w.heap.size w (w.alloc (.cells (a.cells A c) 25)) := (Below.refl _ _).alloc (Nat.le_refl _) _
  have hs : (w.alloc (.cells (a.cells A c) 25)).heap.size = w.heap.size + 1 := by simp
  have h3 := objAt_new (w.alloc (.cells (a.cells A c) 25)) b B d
  rw [hs] at h3
  have hb2 : Below (w.alloc (.cells (a.cells A c) 25)).heap.size (w.alloc (.cells (a.cells A c) 25)) ((w.alloc (.cells (a.cells A c) 25)).alloc (.cells (b.cells B d) 25)) := (Below.refl _ _).alloc (Nat.le_refl _) _
  have hbb := hb1.trans (hb2.mono hb1.size)
  exact ⟨⟨h1.below hb2, h3, ha.below hbb, hb.below hbb⟩, hbb⟩
theorem namesOk_append {p q : List PartV} (h1 : NamesOk p) (h2 : NamesOk q) : NamesOk (p ++ q) := fun x hx => (List.mem_append.1 hx).elim (h1 x) (h2 x)
theorem partsOk_append {p q : List PartV} (h1 : PartsOk p) (h2 : PartsOk q) : PartsOk (p ++ q) := fun x hx => (List.mem_append.1 hx).elim (h1 x) (h2 x)
theorem allB_append (p q : List PartV) : allB (p ++ q) = allB p ++ allB q := by unfold allB; rw [List.flatMap_append]
theorem namesOk_none : NamesOk [noneP] := by
  intro x hx
  rw [List.mem_singleton.1 hx]
  exact ⟨fun a ha => (by cases ha), fun a ha => (by cases ha)⟩
theorem partsOk_none : PartsOk [noneP] := by
  intro x hx
  rw [List.mem_singleton.1 hx]
  exact ⟨Nat.zero_le _, Nat.zero_le _⟩
theorem fld_parts (p n : ByteArray) (L : Option Addr) (l m : Nat) (pr dl ver : Int) (B : Option Addr) (np c : Nat) (W : World) : (Instr.field 25 (.agg #[.string p, .string n, .slice L l m, .int .i64 pr, .int .i64 dl, .slice B np c, .int .i64 ver]) 5).run Try.prog W = .ok (.slice B np c) W := by kernel_rfl
theorem BJ2 {a w w' : World} (h : Below w.heap.size w w') (k : Below a.heap.size a w) : Below a.heap.size a w' := k.trans (h.mono k.size)
theorem plain_gen (path name : ByteArray) (prio dl ver : Int) (ps : List PartV) (np : Nat) (hnp : ps.length = np) (S : List (Key × Int)) (U : List Amt) (hU : Hid (S.map amtOf = U)) (q : Nat) (hS : SumOf S (allA ps)) (hN : NamesOk ps) (hq : U.length = q) (hq0 : 0 < q) (hq24 : q * 24 ≤ 140737488355328) (L : Option Addr) (n m : Nat) (B : Option Addr) (c : Nat) (P : Nat → Prop) (A : Option Addr) (cu : Nat) (Q : Nat → Prop) (w : World)
    (hr : Row kPart P w B ps) (hl : ps.length ≤ 9223372036854775807) (hs : PartsOk ps) (hu : Row kAmt Q w A U) :
    Calls Try.prog 9 #[.agg #[.string path, .string name, .slice L n m, .int .i64 prio, .int .i64 dl, .slice B np c, .int .i64 ver], .slice A q cu] w fun e w' => e = .returned (.bool true) ∧ Below w.heap.size w w' := by
  subst hnp
  refine plain_val ⟨path, name, .slice L n m, prio, dl, ps, ver⟩ S q hS hN ?_ hq0 hq24 L n m B c P A cu Q w ⟨⟨L, n, m, rfl⟩, hr, hl, hs⟩ (by rw [hU.out]; exact hu)
  rw [← hq, ← hU.out, List.length_map]
section
variable {pa pb pc : List PartV} {U : List Amt} (hc : allA pc = allA pa ++ allA pb) (h1 : (usesV pa).2 = 0) (h2 : (usesV pb).2 = 0) (h3 : (usesV pc).2 = 0) (hU : (usesV pc).1.map amtOf = U)
include hc h1 h2 h3 hU
theorem sua_row (i : Nat) (hi : i < U.length) : (U[i].name.data.toList = countK ∧ U[i].val = 1000) ∨
    (U[i].name.data.toList ≠ countK ∧ ∃ va vb, getK U[i].name.data.toList (usesV pa).1 = va ∧ getK U[i].name.data.toList (usesV pb).1 = vb ∧ U[i].val = va + vb ∧ 0 ≤ va + vb ∧ va + vb ≤ 9223372036854775807) := by
  subst hU
  have hS := sumOf h3
  have hi' : i < (usesV pc).1.length := by simpa using hi
  have hv := getK_of_mem (ascK_nodup hS.asc) _ (List.getElem_mem hi')
  rw [List.getElem_map]
  show ((usesV pc).1[i].1.toArray.toList = countK ∧ (usesV pc).1[i].2 = 1000) ∨ ((usesV pc).1[i].1.toArray.toList ≠ countK ∧ ∃ va vb, getK (usesV pc).1[i].1.toArray.toList (usesV pa).1 = va ∧ getK (usesV pc).1[i].1.toArray.toList (usesV pb).1 = vb ∧ (usesV pc).1[i].2 = va + vb ∧ 0 ≤ va + vb ∧ va + vb ≤ 9223372036854775807)
  rw [List.toList_toArray]
  by_cases h : (usesV pc).1[i].1 = countK
  · left
    refine ⟨h, ?_⟩
    rw [← hv, h]
    exact uses_count h3
  · right
    have ha := uses_add hc h1 h2 h3 _ h
    have hle := hS.le (usesV pc).1[i].1
    have hval := hS.val (usesV pc).1[i].1
    rw [if_neg h] at hval
    have hpos := totK_pos (x := (usesV pc).1[i].1) hS.pos
    refine ⟨h, _, _, rfl, rfl, by rw [← hv]; exact ha, by rw [← ha]; omega, by rw [← ha]; exact hle⟩
omit hc h1 h2 in
theorem sua_asc (i k : Nat) (hik : i = k + 1) (hi : i < U.length) (hk : k < U.length) : Op.bytesLess U[i].name.toList U[k].name.toList = false ∧ (U[i].name.toList == U[k].name.toList) = false := by
  subst hik
  subst hU
  have hS := sumOf h3
  have hi' : k + 1 < (usesV pc).1.length := by simpa using hi
  have hlt := List.pairwise_iff_getElem.1 hS.asc k (k + 1) (by omega) hi' (by omega)
  rw [List.getElem_map, List.getElem_map, toList_eq, toList_eq]
  show Op.bytesLess (usesV pc).1[k + 1].1.toArray.toList (usesV pc).1[k].1.toArray.toList = false ∧ ((usesV pc).1[k + 1].1.toArray.toList == (usesV pc).1[k].1.toArray.toList) = false
  rw [List.toList_toArray, List.toList_toArray]
  constructor
  · rw [bytesLess_eq]
    simpa using fun h => List.lt_irrefl _ (List.lt_trans h hlt)
  · rw [Bool.eq_false_iff]
    intro h
    have he : (usesV pc).1[k + 1].1 = (usesV pc).1[k].1 := by simpa using h
    rw [he] at hlt
    exact List.lt_irrefl _ hlt
omit hc h1 h2 in
theorem sua_pos : 0 < U.length := by
  subst hU
  have := uses_count h3
  cases h : (usesV pc).1 with
  | nil => rw [h] at this; simp [getK] at this
  | cons p l => simp
end
end Go.Proofs.Ytdchffghgajbfaa
