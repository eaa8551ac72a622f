/- Laid together: J45 J46 J47 J48. -/
import Derived.Test.YtalkdddeiebfmaaGreatDoorJG
/- The document's ledger: Right, entry. -/
namespace Go.Proofs.YtalkdddeiebfmaaGreatDoor
open Go.RowKit

/-- what the document's ledger asks of an object -/
structure RArg (w : World) (o : ObjV) (B : Option Addr) (P : Nat → Prop) : Prop where
  row : Row kPart P w B o.parts
  len : o.parts.length ≤ 1152921504606846976
  small : PartsOk o.parts
  use : UseOk o
  path : o.path.size ≤ 1073741824
theorem RArg.below {w w' : World} {o : ObjV} {B : Option Addr} {P : Nat → Prop} (h : RArg w o B P) (hb : Below w.heap.size w w') : RArg w' o B P := ⟨h.row.below hb, h.len, h.small, h.use, h.path⟩
def rightV (o : ObjV) : Int := if isPath o.path = true then (usesV o.parts).2 else 41
set_option maxRecDepth 100000 in
theorem rright_any (o : ObjV) (z : Int) (hz : Hid (rightV o = z)) (L : Option Addr) (n m : Nat) (B : Option Addr) (c : Nat) (P : Nat → Prop) (w : World) (h : RArg w o B P) :
    Calls Tryz.prog 66 #[.agg #[.string o.path, .string o.name, .slice L n m, .int .i64 o.prio, .int .i64 o.dl, .slice B o.parts.length c, .int .i64 o.ver]] w fun e w' => e = .returned (.int .i64 z) ∧ Below w.heap.size w w' := by
  have hb0 : Below w.heap.size w (w.alloc (.cells #[.string o.path, .string o.name, .slice L n m, .int .i64 o.prio, .int .i64 o.dl, .slice B o.parts.length c, .int .i64 o.ver] 26)) := (Below.refl _ _).alloc (Nat.le_refl _) _
  have hx := OBox.of (heap_alloc_new w (.cells #[.string o.path, .string o.name, .slice L n m, .int .i64 o.prio, .int .i64 o.dl, .slice B o.parts.length c, .int .i64 o.ver] 26))
  obtain ⟨w0, hw0⟩ : ∃ w0, w.alloc (.cells #[.string o.path, .string o.name, .slice L n m, .int .i64 o.prio, .int .i64 o.dl, .slice B o.parts.length c, .int .i64 o.ver] 26) = w0 := ⟨_, rfl⟩
  rw [hw0] at hb0 hx
  have HB0 := Lib.hid hb0
  have HX := Lib.hid hx
  have HA := Lib.hid (h.below hb0)
  obtain ⟨-, x0, -⟩ := hx
  clear hb0 h
  rcases errPath_cases o.path with ⟨hp, ep⟩ | ⟨hp, ep⟩
  · have HEP := Lib.hid ep
    have HE := Lib.hid (show (usesV o.parts).2 = z by have := hz.out; unfold rightV at this; rw [if_pos hp] at this; exact this)
    clear hp ep
    go_enter Tryz.func66, Tryz.ntmps66
    go_upto_region 4 with (go_at_call 93; have q := rpath_any o.path w0 HA.out.path; refine q.mono ?_; clear q; rintro e w1 ⟨rfl, hb1⟩; rw [HEP.out]; have HB1 := Lib.hid hb1; clear hb1)
    clear hw0 x0
    obtain ⟨-, x0, x1, x2, x3, x4, x5, x6, -⟩ := HX.out.below HB1.out
    go_wp2_with (go_at_call 94; have q := ruses_any o (usesU o) (usesU o).length z (Lib.hid rfl) (Lib.hid rfl) HE HA.out.use.names HA.out.use.few L n m B c P w1 (HA.out.row.below HB1.out) HA.out.len HA.out.small; refine q.mono ?_; clear q; rintro e w2 ⟨A2, c2, rfl, -, hb2⟩; have HB2 := Lib.hid hb2; clear hb2)
    go_ret
    exact ⟨rfl, HB0.out.trans ((HB1.out.trans (HB2.out.mono HB1.out.size)).mono HB0.out.size)⟩
  · have HEP := Lib.hid ep
    have HE := Lib.hid (show z = 41 by have := hz.out; unfold rightV at this; rw [if_neg (by rw [hp]; simp)] at this; exact this.symm)
    clear hp ep
    go_enter Tryz.func66, Tryz.ntmps66
    go_wp2_with (go_at_call 93; have q := rpath_any o.path w0 HA.out.path; refine q.mono ?_; clear q; rintro e w1 ⟨rfl, hb1⟩; rw [HEP.out]; have HB1 := Lib.hid hb1; clear hb1)
    go_ret
    exact ⟨by rw [HE.out]; rfl, HB0.out.trans (HB1.out.mono HB0.out.size)⟩
def entOf (o : ObjV) (sg : Int) : EntV := ⟨lineB o.path, ofS o 6, usesU o, sg⟩
def EntPost (o : ObjV) (sg : Int) (w : World) (e : Ending) (w' : World) : Prop :=
  ∃ A1 k1 A2 k2 A3 k3, e = .returned (.agg #[.slice A1 (lineB o.path).length k1, .slice A2 (ofS o 6).length k2, .slice A3 (usesU o).length k3, .int .i64 sg]) ∧
    Row Kn.str (fun k => w.heap.size ≤ k) w' A1 (lineB o.path) ∧ Row kSc (fun k => w.heap.size ≤ k) w' A2 (ofS o 6) ∧ Row kAmt (fun k => w.heap.size ≤ k) w' A3 (usesU o) ∧ Below w.heap.size w w'
set_option maxRecDepth 100000 in
set_option maxHeartbeats 1000000 in
theorem rentry_any (o : ObjV) (sg : Int) (L : Option Addr) (n m : Nat) (B : Option Addr) (c : Nat) (P : Nat → Prop) (w : World) (h : RArg w o B P) :
    Calls Tryz.prog 68 #[.agg #[.string o.path, .string o.name, .slice L n m, .int .i64 o.prio, .int .i64 o.dl, .slice B o.parts.length c, .int .i64 o.ver], .int .i64 sg] w (EntPost o sg w) := by
  have hb0 : Below w.heap.size w ((w.alloc (.cells #[.string o.path, .string o.name, .slice L n m, .int .i64 o.prio, .int .i64 o.dl, .slice B o.parts.length c, .int .i64 o.ver] 26)).alloc (.cells #[.slice none 0 0, .slice none 0 0, .slice none 0 0, .int .i64 0] 93)) := ((Below.refl _ _).alloc (Nat.le_refl _) _).alloc (by simp) _
  have hx := OBox.of (heap_alloc2_old w (.cells #[.string o.path, .string o.name, .slice L n m, .int .i64 o.prio, .int .i64 o.dl, .slice B o.parts.length c, .int .i64 o.ver] 26) (.cells #[.slice none 0 0, .slice none 0 0, .slice none 0 0, .int .i64 0] 93))
  have hy := heap_alloc2_new w (.cells #[.string o.path, .string o.name, .slice L n m, .int .i64 o.prio, .int .i64 o.dl, .slice B o.parts.length c, .int .i64 o.ver] 26) (.cells #[.slice none 0 0, .slice none 0 0, .slice none 0 0, .int .i64 0] 93)
  have hs0 : w.heap.size + 1 < ((w.alloc (.cells #[.string o.path, .string o.name, .slice L n m, .int .i64 o.prio, .int .i64 o.dl, .slice B o.parts.length c, .int .i64 o.ver] 26)).alloc (.cells #[.slice none 0 0, .slice none 0 0, .slice none 0 0, .int .i64 0] 93)).heap.size := by simp
  obtain ⟨w0, hw0⟩ : ∃ w0, (w.alloc (.cells #[.string o.path, .string o.name, .slice L n m, .int .i64 o.prio, .int .i64 o.dl, .slice B o.parts.length c, .int .i64 o.ver] 26)).alloc (.cells #[.slice none 0 0, .slice none 0 0, .slice none 0 0, .int .i64 0] 93) = w0 := ⟨_, rfl⟩
  rw [hw0] at hb0 hx hy hs0
  have HB0 := Lib.hid hb0
  have HX := Lib.hid hx
  have HY := Lib.hid hy
  have HA := Lib.hid (h.below hb0)
  obtain ⟨-, x0, -⟩ := hx
  clear hb0 h hy
  go_enter Tryz.func68, Tryz.ntmps68
  go_upto_region 2 with (go_at_call 96; have q := rline_any o.path w0 HA.out.path; refine q.mono ?_; clear q; rintro e w1 ⟨A1, k1, rfl, hr1, hb1⟩; have HB1 := Lib.hid hb1; have HR1 := Lib.hid hr1; clear hb1 hr1)
  clear hw0 x0
  obtain ⟨-, x0, x1, x2, x3, x4, x5, x6, -⟩ := HX.out.below HB1.out
  go_upto_region 3 with (go_at_call 94; have q := ruses_any o (usesU o) (usesU o).length (usesV o.parts).2 (Lib.hid rfl) (Lib.hid rfl) (Lib.hid rfl) HA.out.use.names HA.out.use.few L n m B c P w1 (HA.out.row.below HB1.out) HA.out.len HA.out.small; refine q.mono ?_; clear q; rintro e w2 ⟨A3, k3, rfl, hr3, hb2⟩; have HB2 := Lib.hid (HB1.out.trans (hb2.mono HB1.out.size)); have HB12 := Lib.hid hb2; have HR3 := Lib.hid hr3; clear hb2 hr3)
  clear x0 x1 x2 x3 x4 x5 x6
  obtain ⟨-, x0, x1, x2, x3, x4, x5, x6, -⟩ := HX.out.below HB2.out
  have hinf : (Tryz.prog.info? 93).map (·.size) = some 4 := by kernel_rfl
  go_wp2_with (first
    | (go_at_call 97; have q := rof_val o (ofS o 6) (ofS o 6).length (Lib.hid rfl) rfl L n m B c P w2 (HA.out.row.below HB2.out) HA.out.len HA.out.small; refine q.mono ?_; clear q; rintro e w3 ⟨A2, k2, rfl, hr2, hb3⟩; have HB3 := Lib.hid (HB2.out.trans (hb3.mono HB2.out.size)); have HB23 := Lib.hid hb3; have HR2 := Lib.hid hr2; have HY3 := Lib.hid ((HB3.out.block _ hs0).trans HY.out); clear hb3 hr2)
    | (refine wpList_store_row rfl 93 (.tmp 4) (.tmp 25) rfl (w.heap.size + 1) #[.slice A1 (lineB o.path).length k1, .slice A2 (ofS o 6).length k2, .slice A3 (usesU o).length k3, .int .i64 sg] rfl rfl _ _ HY3.out hinf rfl (by simp [Value.oneCell']) ?_))
  (try simp only [Exit.inBlock, Exit.then])
  refine bodyPost_ret (results_cell_row rfl _ _ (w.heap.size + 1) 93 _ (0, 0) _ rfl (setRow_heap _ _ _ _ _ _ HY3.out) Tryz.underlying93 rfl hinf) rfl ?_
  have h0 := HB0.out.size
  have h1 := HB1.out.size
  have h2 := HB12.out.size
  refine ⟨A1, k1, A2, k2, A3, k3, rfl, ?_, ?_, ?_, below_setRow (HB0.out.trans (HB3.out.mono h0)) (Nat.le_succ _) _⟩
  · exact ((HR1.out.below (HB12.out.trans (HB23.out.mono h2))).keep fun k hk _ => setRow_other _ _ _ _ (by omega)).mono fun k hk => by omega
  · exact (HR2.out.keep fun k hk _ => setRow_other _ _ _ _ (by omega)).mono fun k hk => by omega
  · exact ((HR3.out.below HB23.out).keep fun k hk _ => setRow_other _ _ _ _ (by omega)).mono fun k hk => by omega
end Go.Proofs.YtalkdddeiebfmaaGreatDoor
/- The document's ledger in memory; with. -/
namespace Go.Proofs.YtalkdddeiebfmaaGreatDoor
open Go.RowKit

/-- the document's ledger: its box g, its list in blocks of R -/
structure IsRL (w : World) (g : Nat) (R : Nat → Prop) (es : List EntV) : Prop where
  ng : ¬ R g
  ok : ∀ e ∈ es, EntOk e
  ex : ∃ A c, w.heap[g]? = some (.cells #[.slice A es.length c] 90 (0, 0)) ∧ Row kEnt R w A es
section
variable {w w' : World} {g : Nat} {R : Nat → Prop} {es : List EntV}
theorem IsRL.glt (h : IsRL w g R es) : g < w.heap.size := let ⟨_, _, _, _, h3, _⟩ := h; (Array.getElem?_eq_some_iff.1 h3).1
theorem IsRL.keep (h : IsRL w g R es) (hk : ∀ k, (k = g ∨ R k) → k < w.heap.size → w'.heap[k]? = w.heap[k]?) : IsRL w' g R es := by
  obtain ⟨h1, h2, A, c, h3, h4⟩ := h
  exact ⟨h1, h2, A, c, (hk g (.inl rfl) (Array.getElem?_eq_some_iff.1 h3).1).trans h3, h4.keep fun k hk' hl => hk k (.inr hk') hl⟩
theorem IsRL.below (h : IsRL w g R es) (hb : Below w.heap.size w w') : IsRL w' g R es := h.keep fun k _ hl => hb.block k hl
theorem IsRL.turn {T : Nat → Prop} (h : IsRL w g R es) (ht : Turn T w w') (hT : ∀ k, T k → k ≠ g ∧ ¬ R k) : IsRL w' g R es :=
  h.keep fun k hk hl => ht.block k hl fun e => hk.elim (hT k e).1 (hT k e).2
end
section
variable {P : Program} {w : World} {α : Type} {d : Kn α} {t e : TypeId} {bytes : Nat} {ops : Array Oper} {o : Oper} {a : Act} {K : Act → World → Prop} {Q : Exit → Act → World → Prop}
theorem step_appN {E : Prop} (I : Elem P t e d bytes) (base : Nat) (hgd : o.guard = none) (s x : Operand) (ho : o.op = .call { callee := .builtin .append, args := #[s, x], argTypes := #[t, t] })
    {R S : Nat → Prop} {v : Value} {xs ys zs : List α} {nz : Nat} (hz : xs ++ ys = zs) (hnz : zs.length = nz) (hs : a.eval s = v) (hown : Own d e base R w v xs) (hR : ∀ k, R k → v.ownBlock ≠ some k) (hS : ∀ k, S k → v.ownBlock ≠ some k) {A : Option Addr} {m c : Nat} (hx : a.eval x = .slice A m c) (hm : m = ys.length) (hr : Row d S w A ys)
    (hb : nz * bytes ≤ 140737488355328) (hbase : base ≤ w.heap.size)
    (h : ∀ A' c' w', Appended d e base (fun k => R k ∨ S k) w w' v (.slice A' nz c') zs → K (a.put o.dst (.slice A' nz c')) w') : if Region.wanted o (yielded ops a.tmps) = true then Oper.wp P o a w K Q else E := by
  subst hm
  subst hz
  subst hnz
  obtain ⟨v', w', hrun, ha⟩ := run_app I base o.type hown hR hS hr (by rw [← List.length_append]; exact hb) hbase
  have hw : Region.wanted o (yielded ops a.tmps) = true := by simp [Region.wanted, hgd]
  rw [if_pos hw]
  obtain ⟨A', c', hv', _⟩ := ha.own.row
  subst hv'
  exact wp_of_run s x ho hs hx hrun (h A' c' w' ha)
theorem wpList_appN {rest : List Oper} (I : Elem P t e d bytes) (base : Nat) (hgd : o.guard = none) (s x : Operand) (ho : o.op = .call { callee := .builtin .append, args := #[s, x], argTypes := #[t, t] })
    {R S : Nat → Prop} {v : Value} {xs ys zs : List α} {nz : Nat} (hz : xs ++ ys = zs) (hnz : zs.length = nz) (hs : a.eval s = v) (hown : Own d e base R w v xs) (hR : ∀ k, R k → v.ownBlock ≠ some k) (hS : ∀ k, S k → v.ownBlock ≠ some k) {A : Option Addr} {m c : Nat} (hx : a.eval x = .slice A m c) (hm : m = ys.length) (hr : Row d S w A ys)
    (hb : nz * bytes ≤ 140737488355328) (hbase : base ≤ w.heap.size)
    (h : ∀ A' c' w', Appended d e base (fun k => R k ∨ S k) w w' v (.slice A' nz c') zs → wpList P ops Q rest (a.put o.dst (.slice A' nz c')) w') : wpList P ops Q (o :: rest) a w := by
  subst hz
  subst hnz
  refine wpList_app I base hgd s x ho hs hown hR hS hx hm hr (by rw [← List.length_append]; exact hb) hbase fun A' c' w' ha => ?_
  rw [← List.length_append] at ha ⊢
  exact h A' c' w' ha
end
/-- behind the copy -/
structure CopyAt (base : Nat) (F : Nat → Prop) (w0 w1 : World) (v : Value) (es : List EntV) : Prop where
  own : Own kEnt 93 base (fun k => F k ∧ k < w1.heap.size ∧ v.ownBlock ≠ some k) w1 v es
  below : Below base w0 w1
theorem CopyAt.of {base : Nat} {F : Nat → Prop} {w0 w w1 : World} {A1 : Option Addr} {n c1 : Nat} {es : List EntV} (hb : Below base w0 w) (hw : base ≤ w.heap.size) (h : Appended kEnt 93 base (fun k => False ∨ (F k ∧ k < base)) w w1 (.slice none 0 0) (.slice A1 n c1) es) : CopyAt base F w0 w1 (.slice A1 n c1) es := by
  refine ⟨h.own.mono fun k hk => ?_, hb.grown h.grown hw (fun k hk => by cases hk)⟩
  rcases hk with hk | hk
  · exact hk.elim
  · have := h.grown.size
    refine ⟨hk.1, by omega, fun e => ?_⟩
    have := (h.own.block_lt k e).1
    omega
theorem CopyAt.then_ {base : Nat} {F : Nat → Prop} {w0 w1 w' : World} {v : Value} {es : List EntV} (h : CopyAt base F w0 w1 v es) (hb : Below w1.heap.size w1 w') (hw : base ≤ w1.heap.size) : CopyAt base F w0 w' v es :=
  ⟨(h.own.below hb).mono fun k hk => ⟨hk.1, Nat.lt_of_lt_of_le hk.2.1 hb.size, hk.2.2⟩, h.below.trans (hb.mono hw)⟩
theorem Row.drew {α : Type} {d : Kn α} {P : Nat → Prop} {w : World} {A : Option Addr} {xs : List α} (h : Row d P w A xs) : Row d P w.drew A xs := h.below (Below.refl _ _).drew
theorem rl_row {base n c : Nat} {F R : Nat → Prop} {w : World} {A : Option Addr} {es : List EntV} (h : Own kEnt 93 base R w (.slice A n c) es) (hN : ∀ k, base ≤ k → F k) (hR : ∀ k, R k → F k) : Row kEnt F w A es := by
  obtain ⟨A', c', hv, -, -, h3⟩ := h.row
  injection hv with hA _ _
  subst hA
  exact h3.mono fun k hk => hk.elim (hR k) (fun e => hN k (h.block_lt k e).1)
set_option maxRecDepth 100000 in
set_option maxHeartbeats 1000000 in
theorem rwith_any (g : Nat) (F : Nat → Prop) (es : List EntV) (n : Nat) (hn : es.length = n) (x : EntV) (n1 n2 n3 : Nat) (hn1 : x.line.length = n1) (hn2 : x.scopes.length = n2) (hn3 : x.uses.length = n3) (A1 : Option Addr) (k1 : Nat) (A2 : Option Addr) (k2 : Nat) (A3 : Option Addr) (k3 : Nat) (w : World)
    (k : IsRL w g F es) (hN : ∀ k, w.heap.size ≤ k → F k) (hx : EntOk x) (h1 : Row Kn.str F w A1 x.line) (h2 : Row kSc F w A2 x.scopes) (h3 : Row kAmt F w A3 x.uses) (hl : n + 1 ≤ 1073741823) (z : Int) (hz : Hid (judgeE (es ++ [x]) x = z)) :
    Calls Tryz.prog 67 #[.pointer (some ⟨g, 0, none⟩), .agg #[.slice A1 n1 k1, .slice A2 n2 k2, .slice A3 n3 k3, .int .i64 x.sign]] w fun e w' => e = .returned (.int .i64 z) ∧ IsRL w' g F (if z = 0 then es ++ [x] else es) ∧ Turn (fun k => k = g) w w' := by
  subst hn1; subst hn2; subst hn3
  have hb0 : Below w.heap.size w (w.alloc (.cells #[.slice A1 x.line.length k1, .slice A2 x.scopes.length k2, .slice A3 x.uses.length k3, .int .i64 x.sign] 93)) := (Below.refl _ _).alloc (Nat.le_refl _) _
  have hbx := eBox_new w (.slice A1 x.line.length k1) (.slice A2 x.scopes.length k2) (.slice A3 x.uses.length k3) (.int .i64 x.sign)
  obtain ⟨w0, hw0⟩ : ∃ w0, w.alloc (.cells #[.slice A1 x.line.length k1, .slice A2 x.scopes.length k2, .slice A3 x.uses.length k3, .int .i64 x.sign] 93) = w0 := ⟨_, rfl⟩
  rw [hw0] at hb0 hbx
  obtain ⟨hng, hok, A, c, hg, hr⟩ := k.below hb0
  rw [hn] at hg
  have HK := Lib.hid k
  have HG := Lib.hid hg
  have HNG := Lib.hid hng
  have HB0 := Lib.hid hb0
  have HBX := Lib.hid hbx
  have HR := Lib.hid (hr.lt.mono fun k hk => (show F k ∧ k < w0.heap.size from hk))
  have HRX := Lib.hid (show Row Kn.str (fun k => F k ∧ k < w0.heap.size) w0 A1 x.line ∧ Row kSc (fun k => F k ∧ k < w0.heap.size) w0 A2 x.scopes ∧ Row kAmt (fun k => F k ∧ k < w0.heap.size) w0 A3 x.uses from ⟨(h1.below hb0).lt, (h2.below hb0).lt, (h3.below hb0).lt⟩)
  have HNN := Lib.hid (show ∀ k, w0.heap.size ≤ k → F k from fun k hk => hN k (Nat.le_trans hb0.size hk))
  have HLEN := Lib.hid (show (es ++ [x]).length = n + 1 by rw [List.length_append, hn]; rfl)
  have HNL := Lib.hid hn
  have HOKX := Lib.hid (show ∀ e ∈ es ++ [x], EntOk e from fun e he => by
    rcases List.mem_append.1 he with he | he
    · exact hok e he
    · rw [List.mem_singleton.1 he]; exact hx)
  have HX := Lib.hid hx
  have g0 : w0.cell? ⟨g, 0, none⟩ = some (.slice A n c) := (cell_of_row _ _ _ _ _ _ hg).trans rfl
  obtain ⟨-, b0, b1, b2, b3⟩ := hbx
  have HC := Lib.hid (show ∀ W, Below w0.heap.size w0 W → W.cell? ⟨g, 0, none⟩ = some (.slice A n c) ∧ W.cell? ⟨w.heap.size, 0, none⟩ = some (.slice A1 x.line.length k1) ∧ W.cell? ⟨w.heap.size, 1, none⟩ = some (.slice A2 x.scopes.length k2) ∧ W.cell? ⟨w.heap.size, 2, none⟩ = some (.slice A3 x.uses.length k3) ∧ W.cell? ⟨w.heap.size, 3, none⟩ = some (.int .i64 x.sign) from fun W hb =>
    ⟨(hb.cell (World.block_lt_of_cell? _ _ g0)).trans g0, (hb.cell (World.block_lt_of_cell? _ _ b0)).trans b0, (hb.cell (World.block_lt_of_cell? _ _ b1)).trans b1, (hb.cell (World.block_lt_of_cell? _ _ b2)).trans b2, (hb.cell (World.block_lt_of_cell? _ _ b3)).trans b3⟩)
  have h80a : n * 80 ≤ 140737488355328 := by omega
  have h80 : (n + 1) * 80 ≤ 140737488355328 := by omega
  clear k hng hok hg hr hb0 h1 h2 h3 hx b0 b1 b2 b3 g0 hn
  go_enter Tryz.func67, Tryz.ntmps67
  go_upto_region 1 with fail
  clear hw0
  go_cut [5] (fun mv wx => ∃ A5 c5, mv = .slice A5 (n + 1) c5 ∧ Row kEnt F wx A5 (es ++ [x]) ∧ Below w0.heap.size w0 wx)
  case first =>
    go_region_held3 (fun w' => w'.cell? ⟨g, 0, none⟩ = some (.slice A n c) ∧ w'.cell? ⟨w.heap.size, 0, none⟩ = some (.slice A1 x.line.length k1) ∧ w'.cell? ⟨w.heap.size, 1, none⟩ = some (.slice A2 x.scopes.length k2) ∧ w'.cell? ⟨w.heap.size, 2, none⟩ = some (.slice A3 x.uses.length k3) ∧ w'.cell? ⟨w.heap.size, 3, none⟩ = some (.int .i64 x.sign)) (exact HC.out _ (by repeat (first | exact HB9.out | exact HC1.out.below | exact Below.refl _ _ | refine Below.drew ?_ | refine Below.alloc ?_ (by first | exact HC1.out.below.size | simp) _))) (first
      | (refine step_appN entElem w0.heap.size (by rfl) (.const (.slice none 0 0)) (.tmp 10) (by rfl) (v := .slice none 0 0) (xs := []) (ys := es) (zs := es) (nz := n) (R := fun _ => False) (S := fun k => F k ∧ k < w0.heap.size) (by rfl) HNL.out (by rfl) (by exact Own.nil _ _ _ _ _) (by exact fun _ h => h.elim) (by exact fun k _ => by simp [Value.ownBlock]) (by rfl) (by exact HNL.out.symm) (by exact HR.out.below (by repeat (first | exact Below.refl _ _ | refine Below.drew ?_ | refine Below.alloc ?_ (by simp) _))) h80a (by first | exact Nat.le_refl _ | simp) ?_
         intro A7 c7 w7 happ
         have HC1 := Lib.hid (show CopyAt w0.heap.size F w0 w7 (.slice A7 n c7) es from by first | exact CopyAt.of (Below.refl w0.heap.size w0).drew (Nat.le_refl w0.heap.size) happ | exact CopyAt.of ((Below.refl w0.heap.size w0).drew.alloc (Nat.le_refl w0.heap.size) _) (by simp) happ)
         have HG7 := Lib.hid happ.grown
         have HT7 := Lib.hid happ.at_
         clear happ)
      | (refine step_appN entElem w0.heap.size (by rfl) (.tmp 11) (.tmp 13) (by rfl) (v := .slice A7 n c7) (xs := es) (ys := [x]) (zs := es ++ [x]) (nz := n + 1) (R := fun k => F k ∧ k < w7.heap.size ∧ (Value.slice A7 n c7).ownBlock ≠ some k) (S := fun k => (F k ∧ k < w0.heap.size) ∨ k = w7.heap.size) (by rfl) HLEN.out (by rfl) (by exact HC1.out.own.alloc _) (by exact fun k hk => hk.2.2) (by exact fun k hk e => by have h1 := HC1.out.own.block_lt k e; omega) (by rfl) (by rfl)
           (by exact Row.newOne (cs := [.slice A1 x.line.length k1, .slice A2 x.scopes.length k2, .slice A3 x.uses.length k3, .int .i64 x.sign]) (kEnt_mk ((HRX.out.1.below HC1.out.below).alloc _) ((HRX.out.2.1.below HC1.out.below).alloc _) ((HRX.out.2.2.below HC1.out.below).alloc _))) h80 (by have := HC1.out.below.size; simp; omega) ?_
         intro A9 c9 w9 happ
         have HB9 := Lib.hid (happ.below (HC1.out.below.alloc HC1.out.below.size _) (by have := HC1.out.below.size; simp; omega) (fun k e => (HC1.out.own.block_lt k e).1))
         have HA9 := Lib.hid (rl_row happ.own HNN.out (fun k hk => by have h1 := HC1.out.below.size; rcases hk with hk | hk | hk; exact hk.1; exact hk.1; exact HNN.out k (by omega)))
         clear happ)
      | (refine step_appN entElem w0.heap.size (by rfl) (.tmp 11) (.tmp 13) (by rfl) (v := .slice A7 n c7) (xs := es) (ys := [x]) (zs := es ++ [x]) (nz := n + 1) (R := fun k => F k ∧ k < w7.heap.size ∧ (Value.slice A7 n c7).ownBlock ≠ some k) (S := fun k => (F k ∧ k < w0.heap.size) ∨ k = w0.heap.size) (by rfl) HLEN.out (by rfl) (by exact HC1.out.own) (by exact fun k hk => hk.2.2) (by exact fun k hk e => by have h1 := (HC1.out.own.block_lt k e).1; have h2 := HT7.out; rcases h2 with h2 | h2 <;> rw [h2] at e <;> simp [Value.ownBlock] at e <;> omega) (by rfl) (by rfl)
           (by exact Row.keep (Row.newOne (cs := [.slice A1 x.line.length k1, .slice A2 x.scopes.length k2, .slice A3 x.uses.length k3, .int .i64 x.sign]) (kEnt_mk (HRX.out.1.drew.alloc _) (HRX.out.2.1.drew.alloc _) (HRX.out.2.2.drew.alloc _))) (fun k _ hl => HG7.out.block k hl (by simp [Value.ownBlock]))) h80 (by exact HC1.out.below.size) ?_
         intro A9 c9 w9 happ
         have HB9 := Lib.hid (happ.below HC1.out.below HC1.out.below.size (fun k e => (HC1.out.own.block_lt k e).1))
         have HA9 := Lib.hid (rl_row happ.own HNN.out (fun k hk => by rcases hk with hk | hk | hk; exact hk.1; exact hk.1; exact HNN.out k (by omega)))
         clear happ))
    all_goals (go_wp2_with fail; go_meet; exact ⟨A9, c9, rfl, HA9.out, HB9.out⟩)
  case rest =>
    obtain ⟨A5, c5, rfl, hr5, hb5⟩ := hcut
    rename World => w1
    have HR5 := Lib.hid hr5
    have HB5 := Lib.hid hb5
    obtain ⟨-, b0, b1, b2, b3⟩ := HBX.out.below hb5
    have hl2 : n + 1 ≤ 1073741823 := hl
    clear hr5 hb5
    go_upto_region 3 with (go_at_call 95; have q := rjudge_any (es ++ [x]) (n + 1) HLEN.out A5 c5 _ _ x _ _ _ rfl rfl rfl A1 k1 A2 k2 A3 k3 w1 HR5.out HOKX.out hl2 HX.out (HRX.out.1.below HB5.out) (HRX.out.2.1.below HB5.out) (HRX.out.2.2.below HB5.out); refine q.mono ?_; clear q; rintro e w2 ⟨rfl, hb2⟩; rw [hz.out]; have HB2 := Lib.hid hb2; clear hb2)
    clear b0 b1 b2 b3
    have HBW := Lib.hid (HB0.out.trans ((HB5.out.trans (HB2.out.mono HB5.out.size)).mono HB0.out.size))
    have hgw : w2.heap[g]? = some (.cells #[.slice A n c] 90 (0, 0)) := ((HB5.out.trans (HB2.out.mono HB5.out.size)).block g (Array.getElem?_eq_some_iff.1 HG.out).1).trans HG.out
    have HGW := Lib.hid hgw
    by_cases hz0 : z = 0
    · subst hz0
      have g0 : w2.cell? ⟨g, 0, none⟩ = some (.slice A n c) := (cell_of_row _ _ _ _ _ _ hgw).trans rfl
      have gf : ∀ j, w2.frozen? ⟨g, j, none⟩ = false := fun j => frozen_of_row _ _ _ _ _ hgw
      clear hgw
      go_wp2
      go_ret
      refine ⟨rfl, ?_, Turn.setCell (S := fun k => k = g) (p := ⟨g, 0, none⟩) (Turn.of_below HBW.out) (.inl rfl) _⟩
      try rw [if_pos rfl]
      refine ⟨HNG.out, HOKX.out, A5, c5, ?_, ?_⟩
      · rw [HLEN.out]; exact (heap_setCell_same _ _ _ _ _ _ HGW.out).trans rfl
      · exact (HR5.out.below HB2.out).keep fun k hk _ => Below.heap_setCell _ _ _ _ (by rintro rfl; exact HNG.out hk)
    · have e1 : (z == 0) = false := by simpa using hz0
      have HZ := Lib.hid hz0
      clear hgw hz0
      go_wp2
      go_ret
      refine ⟨rfl, ?_, Turn.of_below HBW.out⟩
      first | exact HK.out.below HBW.out | (rw [if_neg HZ.out]; exact HK.out.below HBW.out)
end Go.Proofs.YtalkdddeiebfmaaGreatDoor
/- The document's ledger: New, Copy, Charge, Release, Change, Used, Count. -/
namespace Go.Proofs.YtalkdddeiebfmaaGreatDoor
open Go.RowKit

theorem rlnew_any (w : World) : Calls Tryz.prog 21 #[] w fun e w' => ∃ g, e = .returned (.pointer (some ⟨g, 0, none⟩)) ∧ w.heap.size ≤ g ∧ g < w'.heap.size ∧ w'.heap[g]? = some (.cells #[.slice none 0 0] 90 (0, 0)) ∧ Below w.heap.size w w' := by
  go_enter Tryz.func21, Tryz.ntmps21
  go_wp2
  go_ret
  exact ⟨w.heap.size, rfl, Nat.le_refl _, by simp, heap_alloc_new _ _, (Below.refl _ _).alloc (Nat.le_refl _) _⟩
theorem IsRL.start {w : World} {g : Nat} {F : Nat → Prop} (h : w.heap[g]? = some (.cells #[.slice none 0 0] 90 (0, 0))) (hF : ¬ F g) : IsRL w g F [] := ⟨hF, fun _ h => (List.not_mem_nil h).elim, none, 0, h, Row.nil _ _ _ _⟩
theorem entOk_of {o : ObjV} {sg : Int} (hu : UseOk o) (hr : rightV o = 0) (hs : sg = 1 ∨ sg = -1) : EntOk (entOf o sg) := by
  have hp : isPath o.path = true := by
    cases h : isPath o.path
    · unfold rightV at hr; rw [h] at hr; simp at hr
    · rfl
  have he : (usesV o.parts).2 = 0 := by unfold rightV at hr; rw [if_pos hp] at hr; exact hr
  refine ⟨hs, fun a ha => ?_, usesU_names he, ?_, ?_, ?_⟩
  · obtain ⟨p, hp, rfl⟩ := List.mem_map.1 ha
    exact uses_val he p hp
  · have := lineB_len o.path
    show (lineB o.path).length ≤ _
    omega
  · have := ofS_len6 o
    show (ofS o 6).length ≤ _
    omega
  · have h1 := usesV_len o.parts
    have h2 := hu.few
    show (usesU o).length ≤ _
    unfold usesU
    rw [List.length_map]; omega
def addE (sg : Int) (es : List EntV) (o : ObjV) : Int × List EntV :=
  (judgeE (es ++ [entOf o sg]) (entOf o sg), if judgeE (es ++ [entOf o sg]) (entOf o sg) = 0 then es ++ [entOf o sg] else es)
/-- one more, or one less -/
def radV (sg : Int) (es : List EntV) (o : ObjV) : Int × List EntV := if rightV o ≠ 0 then (rightV o, es) else addE sg es o

set_option maxRecDepth 100000 in
theorem rcharge_any (g : Nat) (F : Nat → Prop) (es : List EntV) (n : Nat) (hn : es.length = n) (o : ObjV) (L : Option Addr) (no mo : Nat) (B : Option Addr) (c : Nat) (P : Nat → Prop) (w : World) (h : RArg w o B P) (k : IsRL w g F es) (hN : ∀ k, w.heap.size ≤ k → F k) (hl : n + 1 ≤ 1073741823) (z : Int) (es' : List EntV) (hz : Hid (radV (1) es o = (z, es'))) :
    Calls Tryz.prog 30 #[.pointer (some ⟨g, 0, none⟩), .agg #[.string o.path, .string o.name, .slice L no mo, .int .i64 o.prio, .int .i64 o.dl, .slice B o.parts.length c, .int .i64 o.ver]] w fun e w' => e = .returned (.int .i64 z) ∧ IsRL w' g F es' ∧ Turn (fun k => k = g) w w' := by
  have hb0 : Below w.heap.size w (w.alloc (.cells #[.string o.path, .string o.name, .slice L no mo, .int .i64 o.prio, .int .i64 o.dl, .slice B o.parts.length c, .int .i64 o.ver] 26)) := (Below.refl _ _).alloc (Nat.le_refl _) _
  have hx := OBox.of (heap_alloc_new w (.cells #[.string o.path, .string o.name, .slice L no mo, .int .i64 o.prio, .int .i64 o.dl, .slice B o.parts.length c, .int .i64 o.ver] 26))
  obtain ⟨w0, hw0⟩ : ∃ w0, w.alloc (.cells #[.string o.path, .string o.name, .slice L no mo, .int .i64 o.prio, .int .i64 o.dl, .slice B o.parts.length c, .int .i64 o.ver] 26) = w0 := ⟨_, rfl⟩
  rw [hw0] at hb0 hx
  have HB0 := Lib.hid hb0
  have HX := Lib.hid hx
  have HA := Lib.hid (h.below hb0)
  have HK := Lib.hid k
  have HF := Lib.hid hN
  obtain ⟨-, x0, x1, x2, x3, x4, x5, x6, -⟩ := hx
  obtain ⟨r, hr⟩ : ∃ r, rightV o = r := ⟨_, rfl⟩
  have HRV := Lib.hid hr
  clear hb0 h k hN hr
  by_cases hr0 : r = 0
  · subst hr0
    have HZ := Lib.hid (show addE (1) es o = (z, es') by have := hz.out; unfold radV at this; rw [if_neg (by rw [HRV.out]; simp)] at this; exact this)
    have HEO := Lib.hid (entOk_of (sg := 1) HA.out.use HRV.out (by simp))
    have HZ1 := Lib.hid (show judgeE (es ++ [entOf o (1)]) (entOf o (1)) = z from congrArg Prod.fst HZ.out)
    have HES := Lib.hid (show (if z = 0 then es ++ [entOf o (1)] else es) = es' by have h1 := congrArg Prod.snd HZ.out; unfold addE at h1; rw [HZ1.out] at h1; exact h1)
    go_enter Tryz.func30, Tryz.ntmps30
    go_upto_region 4 with (go_at_call 66; have q := rright_any o 0 HRV L no mo B c P w0 HA.out; refine q.mono ?_; clear q; rintro e w1 ⟨rfl, hb1⟩; have HB1 := Lib.hid hb1; clear hb1)
    clear hw0 x0 x1 x2 x3 x4 x5 x6
    obtain ⟨-, x0, x1, x2, x3, x4, x5, x6, -⟩ := HX.out.below HB1.out
    go_wp2_with (first
      | (go_at_call 68; have q := rentry_any o (1) L no mo B c P w1 (HA.out.below HB1.out); refine q.mono ?_; clear q; rintro e w2 ⟨A1, k1, A2, k2, A3, k3, rfl, h1, h2, h3, hb2⟩; have HB2 := Lib.hid (HB1.out.trans (hb2.mono HB1.out.size)); have H123 := Lib.hid (And.intro h1 (And.intro h2 h3)); have HBW := Lib.hid (HB0.out.trans (HB2.out.mono HB0.out.size)); have HSZ := Lib.hid (Nat.le_trans HB0.out.size HB1.out.size); clear hb2 h1 h2 h3)
      | (go_at_call 67; have q := rwith_any g F es n hn (entOf o (1)) _ _ _ rfl rfl rfl A1 k1 A2 k2 A3 k3 w2 (HK.out.below HBW.out) (fun k hk => HF.out k (Nat.le_trans HBW.out.size hk)) HEO.out (H123.out.1.mono fun k hk => HF.out k (Nat.le_trans HSZ.out hk)) (H123.out.2.1.mono fun k hk => HF.out k (Nat.le_trans HSZ.out hk)) (H123.out.2.2.mono fun k hk => HF.out k (Nat.le_trans HSZ.out hk)) hl z HZ1; refine q.mono ?_; clear q; rintro e w3 ⟨rfl, hk3, ht3⟩; rw [HES.out] at hk3; have HK3 := Lib.hid hk3; have HT3 := Lib.hid ht3; clear hk3 ht3))
    go_ret
    exact ⟨rfl, HK3.out, (Turn.of_below HBW.out).trans (HT3.out.mono fun k _ e => .inl e)⟩
  · have HZ := Lib.hid (show (r, es) = (z, es') by have := hz.out; unfold radV at this; rw [if_pos (by rw [HRV.out]; exact hr0), HRV.out] at this; exact this)
    have HZ1 := Lib.hid (show r = z from congrArg Prod.fst HZ.out)
    have HES := Lib.hid (show es = es' from congrArg Prod.snd HZ.out)
    have e1 : (r != 0) = true := by simpa using hr0
    clear hr0
    go_enter Tryz.func30, Tryz.ntmps30
    go_wp2_with (go_at_call 66; have q := rright_any o r HRV L no mo B c P w0 HA.out; refine q.mono ?_; clear q; rintro e w1 ⟨rfl, hb1⟩; have HB1 := Lib.hid hb1; clear hb1)
    go_ret
    have HBW := HB0.out.trans (HB1.out.mono HB0.out.size)
    exact ⟨by rw [HZ1.out]; rfl, by rw [← HES.out]; exact HK.out.below HBW, Turn.of_below HBW⟩
set_option maxRecDepth 100000 in
theorem rrelease_any (g : Nat) (F : Nat → Prop) (es : List EntV) (n : Nat) (hn : es.length = n) (o : ObjV) (L : Option Addr) (no mo : Nat) (B : Option Addr) (c : Nat) (P : Nat → Prop) (w : World) (h : RArg w o B P) (k : IsRL w g F es) (hN : ∀ k, w.heap.size ≤ k → F k) (hl : n + 1 ≤ 1073741823) (z : Int) (es' : List EntV) (hz : Hid (radV (-1) es o = (z, es'))) :
    Calls Tryz.prog 47 #[.pointer (some ⟨g, 0, none⟩), .agg #[.string o.path, .string o.name, .slice L no mo, .int .i64 o.prio, .int .i64 o.dl, .slice B o.parts.length c, .int .i64 o.ver]] w fun e w' => e = .returned (.int .i64 z) ∧ IsRL w' g F es' ∧ Turn (fun k => k = g) w w' := by
  have hb0 : Below w.heap.size w (w.alloc (.cells #[.string o.path, .string o.name, .slice L no mo, .int .i64 o.prio, .int .i64 o.dl, .slice B o.parts.length c, .int .i64 o.ver] 26)) := (Below.refl _ _).alloc (Nat.le_refl _) _
  have hx := OBox.of (heap_alloc_new w (.cells #[.string o.path, .string o.name, .slice L no mo, .int .i64 o.prio, .int .i64 o.dl, .slice B o.parts.length c, .int .i64 o.ver] 26))
  obtain ⟨w0, hw0⟩ : ∃ w0, w.alloc (.cells #[.string o.path, .string o.name, .slice L no mo, .int .i64 o.prio, .int .i64 o.dl, .slice B o.parts.length c, .int .i64 o.ver] 26) = w0 := ⟨_, rfl⟩
  rw [hw0] at hb0 hx
  have HB0 := Lib.hid hb0
  have HX := Lib.hid hx
  have HA := Lib.hid (h.below hb0)
  have HK := Lib.hid k
  have HF := Lib.hid hN
  obtain ⟨-, x0, x1, x2, x3, x4, x5, x6, -⟩ := hx
  obtain ⟨r, hr⟩ : ∃ r, rightV o = r := ⟨_, rfl⟩
  have HRV := Lib.hid hr
  clear hb0 h k hN hr
  by_cases hr0 : r = 0
  · subst hr0
    have HZ := Lib.hid (show addE (-1) es o = (z, es') by have := hz.out; unfold radV at this; rw [if_neg (by rw [HRV.out]; simp)] at this; exact this)
    have HEO := Lib.hid (entOk_of (sg := -1) HA.out.use HRV.out (by simp))
    have HZ1 := Lib.hid (show judgeE (es ++ [entOf o (-1)]) (entOf o (-1)) = z from congrArg Prod.fst HZ.out)
    have HES := Lib.hid (show (if z = 0 then es ++ [entOf o (-1)] else es) = es' by have h1 := congrArg Prod.snd HZ.out; unfold addE at h1; rw [HZ1.out] at h1; exact h1)
    go_enter Tryz.func47, Tryz.ntmps47
    go_upto_region 4 with (go_at_call 66; have q := rright_any o 0 HRV L no mo B c P w0 HA.out; refine q.mono ?_; clear q; rintro e w1 ⟨rfl, hb1⟩; have HB1 := Lib.hid hb1; clear hb1)
    clear hw0 x0 x1 x2 x3 x4 x5 x6
    obtain ⟨-, x0, x1, x2, x3, x4, x5, x6, -⟩ := HX.out.below HB1.out
    go_wp2_with (first
      | (go_at_call 68; have q := rentry_any o (-1) L no mo B c P w1 (HA.out.below HB1.out); refine q.mono ?_; clear q; rintro e w2 ⟨A1, k1, A2, k2, A3, k3, rfl, h1, h2, h3, hb2⟩; have HB2 := Lib.hid (HB1.out.trans (hb2.mono HB1.out.size)); have H123 := Lib.hid (And.intro h1 (And.intro h2 h3)); have HBW := Lib.hid (HB0.out.trans (HB2.out.mono HB0.out.size)); have HSZ := Lib.hid (Nat.le_trans HB0.out.size HB1.out.size); clear hb2 h1 h2 h3)
      | (go_at_call 67; have q := rwith_any g F es n hn (entOf o (-1)) _ _ _ rfl rfl rfl A1 k1 A2 k2 A3 k3 w2 (HK.out.below HBW.out) (fun k hk => HF.out k (Nat.le_trans HBW.out.size hk)) HEO.out (H123.out.1.mono fun k hk => HF.out k (Nat.le_trans HSZ.out hk)) (H123.out.2.1.mono fun k hk => HF.out k (Nat.le_trans HSZ.out hk)) (H123.out.2.2.mono fun k hk => HF.out k (Nat.le_trans HSZ.out hk)) hl z HZ1; refine q.mono ?_; clear q; rintro e w3 ⟨rfl, hk3, ht3⟩; rw [HES.out] at hk3; have HK3 := Lib.hid hk3; have HT3 := Lib.hid ht3; clear hk3 ht3))
    go_ret
    exact ⟨rfl, HK3.out, (Turn.of_below HBW.out).trans (HT3.out.mono fun k _ e => .inl e)⟩
  · have HZ := Lib.hid (show (r, es) = (z, es') by have := hz.out; unfold radV at this; rw [if_pos (by rw [HRV.out]; exact hr0), HRV.out] at this; exact this)
    have HZ1 := Lib.hid (show r = z from congrArg Prod.fst HZ.out)
    have HES := Lib.hid (show es = es' from congrArg Prod.snd HZ.out)
    have e1 : (r != 0) = true := by simpa using hr0
    clear hr0
    go_enter Tryz.func47, Tryz.ntmps47
    go_wp2_with (go_at_call 66; have q := rright_any o r HRV L no mo B c P w0 HA.out; refine q.mono ?_; clear q; rintro e w1 ⟨rfl, hb1⟩; have HB1 := Lib.hid hb1; clear hb1)
    go_ret
    have HBW := HB0.out.trans (HB1.out.mono HB0.out.size)
    exact ⟨by rw [HZ1.out]; rfl, by rw [← HES.out]; exact HK.out.below HBW, Turn.of_below HBW⟩
end Go.Proofs.YtalkdddeiebfmaaGreatDoor
/- The document's ledger: Used, Count, Copy, Change. -/
namespace Go.Proofs.YtalkdddeiebfmaaGreatDoor
open Go.RowKit

set_option maxRecDepth 100000 in
theorem rcountM_any (g : Nat) (F : Nat → Prop) (es : List EntV) (p : ByteArray) (w : World) (k : IsRL w g F es) (hl : es.length ≤ 1073741823) (z : Int) (hz : Hid (cntE es p = z)) :
    Calls Tryz.prog 49 #[.pointer (some ⟨g, 0, none⟩), .string p] w fun e w' => e = .returned (.int .i64 z) ∧ Below w.heap.size w w' := by
  obtain ⟨hng, hok, A, c, hg, hr⟩ := k
  obtain ⟨n, hn⟩ : ∃ n, es.length = n := ⟨_, rfl⟩
  rw [hn] at hg hl
  have g0 : w.cell? ⟨g, 0, none⟩ = some (.slice A n c) := (cell_of_row _ _ _ _ _ _ hg).trans rfl
  have HC := Lib.hid (rcount_any es n hn A c F p w hr hok hl z hz)
  clear hng hok hg hr hn
  go_enter Tryz.func49, Tryz.ntmps49
  go_wp2_with (go_at_call 80; have q := HC.out; refine q.mono ?_; clear q; rintro e w1 ⟨rfl, hb1⟩; have HB1 := Lib.hid hb1; clear hb1)
  go_ret
  exact ⟨rfl, HB1.out⟩
set_option maxRecDepth 100000 in
set_option maxHeartbeats 1000000 in
theorem rusedM_any (g : Nat) (F : Nat → Prop) (es : List EntV) (p : ByteArray) (s : ScV) (r : ByteArray) (w : World) (k : IsRL w g F es) (hl : es.length ≤ 1073741823) (T : Int) (hT : Hid (totE es (p, (s.kind, s.arg), r) = T)) (h0 : 0 ≤ T) (h1 : T ≤ 9223372036854775807) :
    Calls Tryz.prog 40 #[.pointer (some ⟨g, 0, none⟩), .string p, .agg #[.int .i64 s.kind, .int .i64 s.arg], .string r] w fun e w' => e = .returned (.int .i64 T) ∧ Below w.heap.size w w' := by
  obtain ⟨hng, hok, A, c, hg, hr⟩ := k
  obtain ⟨n, hn⟩ : ∃ n, es.length = n := ⟨_, rfl⟩
  rw [hn] at hg hl
  have hb0 : Below w.heap.size w (w.alloc (.cells #[.int .i64 s.kind, .int .i64 s.arg] 47)) := (Below.refl _ _).alloc (Nat.le_refl _) _
  have hs := heap_alloc_new w (.cells #[.int .i64 s.kind, .int .i64 s.arg] 47)
  have hg1 := (hb0.block g (Array.getElem?_eq_some_iff.1 hg).1).trans hg
  obtain ⟨w0, hw0⟩ : ∃ w0, w.alloc (.cells #[.int .i64 s.kind, .int .i64 s.arg] 47) = w0 := ⟨_, rfl⟩
  rw [hw0] at hb0 hs hg1
  have g0 : w0.cell? ⟨g, 0, none⟩ = some (.slice A n c) := (cell_of_row _ _ _ _ _ _ hg1).trans rfl
  have s0 : w0.cell? ⟨w.heap.size, 0, none⟩ = some (.int .i64 s.kind) := (cell_of_row _ _ _ _ _ _ hs).trans rfl
  have s1 : w0.cell? ⟨w.heap.size, 1, none⟩ = some (.int .i64 s.arg) := (cell_of_row _ _ _ _ _ _ hs).trans rfl
  have HB0 := Lib.hid hb0
  have HZ := Lib.hid (show ∀ W, Below w0.heap.size w0 W → W.cell? ⟨g, 0, none⟩ = some (.slice A n c) ∧ W.cell? ⟨w.heap.size, 0, none⟩ = some (.int .i64 s.kind) ∧ W.cell? ⟨w.heap.size, 1, none⟩ = some (.int .i64 s.arg) from fun W hb =>
    ⟨(hb.cell (World.block_lt_of_cell? _ _ g0)).trans g0, (hb.cell (World.block_lt_of_cell? _ _ s0)).trans s0, (hb.cell (World.block_lt_of_cell? _ _ s1)).trans s1⟩)
  have HCU := Lib.hid (fun W (hb : Below w0.heap.size w0 W) => rused_any es n hn A c F p s r W ((hr.below hb0).below hb) hok hl T hT)
  clear hng hok hg hr hn hb0 hs hg1 g0 s0 s1
  go_enter Tryz.func40, Tryz.ntmps40
  go_upto_region 1 with fail
  clear hw0
  go_cut [9] (fun sv wx => ∃ q, sv = .pointer (some ⟨q, 0, none⟩) ∧ wx.heap[q]? = some (.cells #[.int .i64 (T / 4294967296), .int .i64 (T % 4294967296)] 134 (0, 0)) ∧ Below w0.heap.size w0 wx)
  case first =>
    go_region_held3 (fun w' => w'.cell? ⟨g, 0, none⟩ = some (.slice A n c) ∧ w'.cell? ⟨w.heap.size, 0, none⟩ = some (.int .i64 s.kind) ∧ w'.cell? ⟨w.heap.size, 1, none⟩ = some (.int .i64 s.arg)) (exact HZ.out _ (by repeat (first | exact HB5.out | exact Below.refl _ _ | refine Below.drew ?_ | refine Below.setCell ?_ (Nat.le_refl w0.heap.size) _ | refine Below.alloc ?_ (by first | exact HB5.out.size | simp) _))) (first
      | (go_at_call 76; refine (HCU.out _ ?_).mono ?_; (repeat (first | exact Below.refl _ _ | refine Below.drew ?_ | refine Below.alloc ?_ (by simp) _)); rintro e w5 ⟨rfl, hb5⟩; have HB5 := Lib.hid (show Below w0.heap.size w0 w5 from (show Below w0.heap.size w0 _ from by (repeat (first | exact Below.refl _ _ | refine Below.drew ?_ | refine Below.alloc ?_ (by simp) _))).trans (hb5.mono (by simp))); (first | (have gg := (hb5.block w0.heap.size (by simp)).trans (heap_alloc_new _ _); have g0 : w5.cell? ⟨w0.heap.size, 0, none⟩ = some (.int .i64 0) := (cell_of_row _ _ _ _ _ _ gg).trans rfl; have g1 : w5.cell? ⟨w0.heap.size, 1, none⟩ = some (.int .i64 0) := (cell_of_row _ _ _ _ _ _ gg).trans rfl; have gf : ∀ j, w5.frozen? ⟨w0.heap.size, j, none⟩ = false := fun j => frozen_of_row _ _ _ _ _ gg; have G := Lib.hid gg; clear gg) | skip); clear hb5))
    all_goals (go_wp2_with fail; go_meet; first
      | exact ⟨_, rfl, heap_alloc_new _ _, HB5.out.alloc HB5.out.size _⟩
      | exact ⟨_, rfl, (heap_setCell_same _ _ _ _ _ _ ((heap_setCell_same _ _ _ _ _ _ G.out).trans rfl)).trans rfl, Below.setCell (Below.setCell HB5.out (Nat.le_refl w0.heap.size) _) (Nat.le_refl w0.heap.size) _⟩)
  case rest =>
    obtain ⟨q, rfl, hbox, hbx⟩ := hcut
    rename World => wx
    have HBX := Lib.hid (HB0.out.trans (hbx.mono HB0.out.size))
    have c0 : wx.cell? ⟨q, 0, none⟩ = some (.int .i64 (T / 4294967296)) := (cell_of_row _ _ _ _ _ _ hbox).trans rfl
    have c1 : wx.cell? ⟨q, 1, none⟩ = some (.int .i64 (T % 4294967296)) := (cell_of_row _ _ _ _ _ _ hbox).trans rfl
    have wa : wrap64 (T / 4294967296 * 4294967296) = T / 4294967296 * 4294967296 := wrap_in (by omega) (by omega)
    have wb : wrap64 (T / 4294967296 * 4294967296 + T % 4294967296) = T / 4294967296 * 4294967296 + T % 4294967296 := wrap_in (by omega) (by omega)
    have HTT := Lib.hid (show T / 4294967296 * 4294967296 + T % 4294967296 = T from by omega)
    clear hbox hbx HZ HCU
    go_wp2
    go_ret
    exact ⟨by rw [HTT.out]; rfl, HBX.out⟩
end Go.Proofs.YtalkdddeiebfmaaGreatDoor
