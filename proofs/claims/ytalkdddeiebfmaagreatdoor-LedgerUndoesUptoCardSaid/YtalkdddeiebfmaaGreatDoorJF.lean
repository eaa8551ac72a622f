/- Laid together: J34 J35. -/
import Derived.Test.YtalkdddeiebfmaaGreatDoorJE
import Derived.Test.YtalkdddeiebfmaaGreatDoorBG
/- What the rows of the ledger laws want: objects and numbers read in step with what is read; the row's list; the witness's world. -/
namespace Go.Proofs.YtalkdddeiebfmaaGreatDoor
open Go.ChangeShapes Go.WideShapes Go.ChangeAt Go.RowKit Go.Deep

def rInt (H : Type) (y : Int) (D : DataW H) : Prop := D = .lit (.int .i64 y) ∧ -9223372036854775808 ≤ y ∧ y ≤ 9223372036854775807
theorem dec_int : TRel Tryz.prog 3 (Kn.int .i64) rInt := by
  refine ⟨by kernel_rfl, ?_⟩
  intro H enc w base sp held fuel cs x h hl
  have hl : cs.length = 1 := hl
  match cs, hl with
  | [v0], _ =>
    obtain ⟨n, e, z, wf⟩ := DataW.trod_int Tryz.underlying3 h
    cases e; subst z
    exact ⟨n, rfl, rfl, i64_of_wf wf⟩
theorem dec_ints : TRel Tryz.prog 51 (Kn.slice (Kn.int .i64)) (RL rInt) := dec_int.slice Tryz.underlying51 (by kernel_rfl)
def rObj (H : Type) (y : ObjM) (D : DataW H) : Prop :=
  ∃ D2 D5, D = .agg [.lit (.string y.path.data.toList), .lit (.string y.name.data.toList), D2, .lit (.int .i64 y.prio), .lit (.int .i64 y.dl), D5, .lit (.int .i64 y.ver)] ∧ RL rLab H y.ls D2 ∧ RL rPart H y.parts D5 ∧
    (-9223372036854775808 ≤ y.prio ∧ y.prio ≤ 9223372036854775807) ∧ -9223372036854775808 ≤ y.dl ∧ y.dl ≤ 9223372036854775807
set_option maxRecDepth 100000 in
theorem dec_obj : TRel Tryz.prog 26 kObj rObj := by
  refine ⟨by kernel_rfl, ?_⟩
  intro H enc w base sp held fuel cs x h hl
  obtain ⟨xs, n, rfl, hxl, hf⟩ := trod_ones Tryz.underlying26 (by kernel_rfl) h
  obtain ⟨v0, v1, v2, v3, v4, v5, v6, rfl⟩ := list7 (show cs.length = 7 from hl)
  obtain ⟨a0, a1, a2, a3, a4, a5, a6, rfl⟩ := list7 (show xs.length = 7 from hxl)
  have g0 : DataW.trod enc Tryz.prog w base sp held n 9 [v0] = some a0 := hf 0 _ rfl v0 a0 rfl rfl
  have g1 : DataW.trod enc Tryz.prog w base sp held n 9 [v1] = some a1 := hf 1 _ rfl v1 a1 rfl rfl
  have g2 : DataW.trod enc Tryz.prog w base sp held n 23 [v2] = some a2 := hf 2 _ rfl v2 a2 rfl rfl
  have g3 : DataW.trod enc Tryz.prog w base sp held n 3 [v3] = some a3 := hf 3 _ rfl v3 a3 rfl rfl
  have g4 : DataW.trod enc Tryz.prog w base sp held n 2 [v4] = some a4 := hf 4 _ rfl v4 a4 rfl rfl
  have g5 : DataW.trod enc Tryz.prog w base sp held n 24 [v5] = some a5 := hf 5 _ rfl v5 a5 rfl rfl
  have g6 : DataW.trod enc Tryz.prog w base sp held n 2 [v6] = some a6 := hf 6 _ rfl v6 a6 rfl rfl
  obtain ⟨s0, e0, z0, _⟩ := DataW.trod_string Tryz.underlying9 g0
  obtain ⟨s1, e1, z1, _⟩ := DataW.trod_string Tryz.underlying9 g1
  obtain ⟨ls, ⟨v2', e2, B, m, rfl, k1, k2, hr2⟩, r2⟩ := dec_labs.dec g2 rfl
  obtain ⟨n3, e3, z3, w3⟩ := DataW.trod_int Tryz.underlying3 g3
  obtain ⟨n4, e4, z4, w4⟩ := DataW.trod_int Tryz.underlying2 g4
  obtain ⟨ps, hps, r5⟩ := dec_parts.dec g5 rfl
  obtain ⟨n6, e6, z6, w6⟩ := DataW.trod_int Tryz.underlying2 g6
  cases e0; cases e1; cases e2; cases e3; cases e4; cases e6
  subst z0; subst z1; subst z3; subst z4; subst z6
  exact ⟨⟨s0, s1, ls, n3, n4, ps, n6⟩, ⟨[_], _, rfl, rfl, [_], _, rfl, rfl, [_], _, rfl, ⟨B, m, rfl, hr2⟩, [_], _, rfl, rfl, [_], _, rfl, rfl, [_], _, rfl, hps, rfl⟩, _, _, rfl, r2, r5, i64_of_wf w3, i64_of_wf w4⟩
theorem dec_objs : TRel Tryz.prog 22 (Kn.slice kObj) (RL rObj) := dec_obj.slice Tryz.underlying22 (by kernel_rfl)
theorem open_kr {α : Type} {P : Program} {t e : TypeId} {d : Kn α} {r : ∀ H : Type, α → DataW H → Prop} (ht : P.underlying t = some (.slice e)) (hd : TRel P t (Kn.slice d) (RL r)) {H : Type} {enc : TypeId × Value → H} {w : World} {base b0 : Nat} {rr : Reach} {sp : Nat → Bool} {held : Bool} {v : Value} {x : DataW H} {p : List MemPlace}
    (hv : Value.okWide P w rr b0 t v) (h : DataW.Trod enc P w base sp held t v x p) : ∃ (ys : List α) (A : Option Addr) (c : Nat), v = .slice A ys.length c ∧ ys.length ≤ 9223372036854775807 ∧ Row d (fun _ => True) w A ys ∧ RL r H ys x := by
  obtain ⟨fuel, hf⟩ := h
  obtain ⟨A, n, c, rfl⟩ := okWide_slice ht hv
  obtain ⟨ys, ⟨v', hR, A', c', hv', h1, h2, h3⟩, hr⟩ := hd.dec hf rfl
  cases hR
  cases hv'
  exact ⟨ys, A, c, rfl, Nat.le_trans h1 (by unfold maxLen at h2; omega), h3, hr⟩
set_option maxRecDepth 100000 in
/-- an object that is read: it can be laid anew, and is small -/
theorem rObj_fit {H : Type} {y : ObjM} {D : DataW H} (h : rObj H y D) (hs : Small Tryz.prog 26 D) (hk : Rows.uptoBulk D ≤ 1048576) : ObjMFit y := by
  have b24 : Tryz.prog.bytesOf 45 = 24 := by kernel_rfl
  have b64 : Tryz.prog.bytesOf 43 = 64 := by kernel_rfl
  have b32 : Tryz.prog.bytesOf 217 = 32 := by kernel_rfl
  have hr : reachBytes = 140737488351232 := by decide
  obtain ⟨D2, D5, rfl, rl, rp, wp, wd⟩ := h
  unfold Small DataW.weights at hs
  rw [Tryz.underlying26] at hs
  have hE := small_each hs
  have s2 : Small Tryz.prog 23 D2 := hE 2 (by simp) (by simp)
  have s5 : Small Tryz.prog 24 D5 := hE 5 (by simp) (by simp)
  obtain ⟨k2, _⟩ := rl.small Tryz.underlying23 s2
  obtain ⟨k5, p5⟩ := rp.small Tryz.underlying24 s5
  rw [b32, hr] at k2
  rw [b64, hr] at k5
  have n24 : ∀ p ∈ y.parts, p.req.length * 24 ≤ 140737488351232 ∧ p.lim.length * 24 ≤ 140737488351232 := fun p hp => by
    obtain ⟨d, ⟨D1, D3, rfl, r1, r3⟩, hd⟩ := p5 p hp
    unfold Small DataW.weights at hd
    rw [Tryz.underlying43] at hd
    have hF := small_each hd
    have t1 : Small Tryz.prog 41 D1 := hF 1 (by simp) (by simp)
    have t2 : Small Tryz.prog 41 D3 := hF 2 (by simp) (by simp)
    obtain ⟨l1, _⟩ := r1.small Tryz.underlying41 t1
    obtain ⟨l2, _⟩ := r3.small Tryz.underlying41 t2
    rw [b24, hr] at l1 l2
    exact ⟨l1, l2⟩
  have h5 : Rows.uptoBulk D5 ≤ 1048576 := by
    simp only [Rows.uptoBulk, Rows.uptoBulkAll] at hk
    omega
  have hn : NamesOk y.parts := fun p hp => by
    obtain ⟨d, ⟨D1, D3, rfl, h1, h3⟩, hd⟩ := rp.mem p hp
    simp only [Rows.uptoBulk, Rows.uptoBulkAll] at hd
    refine ⟨fun a ha => ?_, fun a ha => ?_⟩
    · obtain ⟨e, he, hb⟩ := h1.mem a ha
      have := rAmt_bulk a e he
      unfold wtA at this
      exact ⟨by omega, he.2.1, he.2.2⟩
    · obtain ⟨e, he, hb⟩ := h3.mem a ha
      have := rAmt_bulk a e he
      unfold wtA at this
      exact ⟨by omega, he.2.1, he.2.2⟩
  exact ⟨⟨⟨hn, Nat.le_trans (Nat.le_trans (allB_len_le _) (Nat.le_trans (rp.bulk wtP rPart_bulk) h5)) (by omega)⟩, by omega, fun p hp => by have := n24 p hp; omega⟩, k5, n24, k2⟩
set_option maxRecDepth 100000 in
/-- objects that are read -/
theorem rObjs_fit {H : Type} {ys : List ObjM} {D : DataW H} (h : RL rObj H ys D) (hs : Small Tryz.prog 22 D) (hk : Rows.uptoBulk D ≤ 1048576) : (∀ y ∈ ys, ObjMFit y) ∧ ys.length ≤ 1048576 := by
  have hl : ys.length ≤ 1048576 := by
    have := h.bulk (fun _ => 1) (fun y d hd => by obtain ⟨D2, D5, rfl, _⟩ := hd; simp only [Rows.uptoBulk]; omega)
    have h2 := len_le_sum (wt := fun (_ : ObjM) => 1) (fun _ => Nat.le_refl _) ys
    omega
  refine ⟨fun y hy => ?_, hl⟩
  rcases h with ⟨_, rfl⟩ | ⟨es, rest, rfl, hle, hr⟩
  · cases hy
  · unfold Small DataW.weights at hs
    rw [Tryz.underlying22] at hs
    simp only [List.mem_cons, List.mem_append] at hs
    obtain ⟨i, hi, rfl⟩ := List.getElem_of_mem hy
    have hie : i < es.length := by omega
    refine rObj_fit (hr i hi hie) (small_all (fun n hn => hs n (.inr (.inl hn))) _ (List.getElem_mem _)) ?_
    have := bulk_mem (List.getElem_mem (l := es) (n := i) hie)
    simp only [Rows.uptoBulk] at hk; omega
theorem rInts_few {H : Type} {ys : List Int} {D : DataW H} (h : RL rInt H ys D) (hk : Rows.uptoBulk D ≤ 1048576) : ys.length ≤ 1048576 := by
  have := h.bulk (fun _ => 1) (fun y d hd => by obtain ⟨rfl, _⟩ := hd; simp only [Rows.uptoBulk]; omega)
  have h2 := len_le_sum (wt := fun (_ : Int) => 1) (fun _ => Nat.le_refl _) ys
  omega
/-- what the world's shape gives -/
theorem int_of_shape {P : Program} {w : World} {g : Nat} {t : TypeId} {zero : Array Value} (h : w.ShapedOpen P) (hg : g < P.globals.size)
    (h0 : ((begin P (fun _ _ => 0) default).world.heap[g]?).bind Obj.row? = some (zero, t)) (hz : zero.size = 1)
    (hb : P.buildable t = true) (hc : P.cellTypes P.depth t = some [t]) (hu : P.underlying t = some (.int .i64)) : ∃ m, w.cell? ⟨g, 0, none⟩ = some (.int .i64 m) := by
  obtain ⟨cs, hh, hs, hr⟩ := h.1 g zero t hg h0
  obtain ⟨ts, hts, _, hall⟩ := hr hb
  rw [hc] at hts
  cases hts
  have h1 : 0 < cs.size := by omega
  obtain ⟨u, hu', hok⟩ := hall 0 cs[0] (by simp [h1])
  have : u = t := by simpa using hu'.symm
  subst this
  have hcell : w.cell? ⟨g, 0, none⟩ = some cs[0] := by simp [World.cell?, hh, h1]
  rw [hcell]
  unfold Cell.ok at hok
  rw [hu] at hok
  cases hv : cs[0] with
  | int k n =>
    rw [hv] at hok
    cases k <;> first | exact ⟨_, rfl⟩ | simp at hok
  | _ => rw [hv] at hok; simp at hok
set_option maxRecDepth 100000 in
theorem ml_of_shape {W : World} (h : W.ShapedOpen Tryz.prog) : Ml W :=
  int_of_shape h (of_decide_eq_true (by kernel_rfl)) (show _ = some (#[.int .i64 0], 3) by kernel_rfl) rfl (by kernel_rfl) (by kernel_rfl) Tryz.underlying3
set_option maxRecDepth 100000 in
theorem texts_of_laid3 {W : World} (h : laidMet Tryz.prog [("unicode/utf8.acceptRanges", Rows.laid_unicode_utf8_acceptRanges), ("bursar/scope.texts", Rows.laid_bursar_scope_texts), ("unicode/utf8.first", Rows.laid_unicode_utf8_first)] W) : TextsAt W := by
  obtain ⟨ps, ⟨_, _, _, _, _, _, _, _, _, _, ⟨g, t, cs, fuel, p, q, hg, ht, hvar, hd, _, _⟩, _⟩, _⟩ := h
  have hg0 : Tryz.prog.globalNamed "bursar/scope.texts" = some 0 := by kernel_rfl
  have ht0 : (Tryz.prog.globals[0]?).map (·.type) = some 141 := by kernel_rfl
  obtain rfl := Option.some.inj (hg0.symm.trans hg)
  obtain rfl := Option.some.inj (ht0.symm.trans ht)
  obtain ⟨xs, n, _, hx, hl, hxl, hf⟩ := DataW.trod_array Tryz.underlying141 hd
  have c1 : Tryz.prog.cellsOf 9 = 1 := by kernel_rfl
  have c6 : Tryz.prog.cellsOf 141 = 6 := by kernel_rfl
  rw [c6] at hl
  obtain ⟨v0, v1, v2, v3, v4, v5, rfl⟩ := array6 hl
  obtain ⟨a0, a1, a2, a3, a4, a5, rfl⟩ := list6 hxl
  rw [c1] at hf
  have g0 : DataW.trod _ Tryz.prog W _ _ _ n 9 [v0] = some a0 := hf 0 (by omega)
  have g1 : DataW.trod _ Tryz.prog W _ _ _ n 9 [v1] = some a1 := hf 1 (by omega)
  have g2 : DataW.trod _ Tryz.prog W _ _ _ n 9 [v2] = some a2 := hf 2 (by omega)
  have g3 : DataW.trod _ Tryz.prog W _ _ _ n 9 [v3] = some a3 := hf 3 (by omega)
  have g4 : DataW.trod _ Tryz.prog W _ _ _ n 9 [v4] = some a4 := hf 4 (by omega)
  have g5 : DataW.trod _ Tryz.prog W _ _ _ n 9 [v5] = some a5 := hf 5 (by omega)
  obtain ⟨s0, e0, z0, _⟩ := DataW.trod_string Tryz.underlying9 g0
  obtain ⟨s1, e1, z1, _⟩ := DataW.trod_string Tryz.underlying9 g1
  obtain ⟨s2, e2, z2, _⟩ := DataW.trod_string Tryz.underlying9 g2
  obtain ⟨s3, e3, z3, _⟩ := DataW.trod_string Tryz.underlying9 g3
  obtain ⟨s4, e4, z4, _⟩ := DataW.trod_string Tryz.underlying9 g4
  obtain ⟨s5, e5, z5, _⟩ := DataW.trod_string Tryz.underlying9 g5
  cases e0; cases e1; cases e2; cases e3; cases e4; cases e5
  subst z0; subst z1; subst z2; subst z3; subst z4; subst z5
  have hx' : (Rows.laid_bursar_scope_texts : DataW Unit) = _ := congrArg Prod.fst hx
  unfold Rows.laid_bursar_scope_texts at hx'
  simp only [List.map_cons, List.map_nil, DataW.agg.injEq, List.cons.injEq, DataW.lit.injEq, Lit.string.injEq, and_true] at hx'
  obtain ⟨h0, h1, h2, h3, h4, h5⟩ := hx'
  have q0 : s0 = ⟨#[97, 108, 108]⟩ := bytes_inj h0.symm
  have q1 : s1 = ⟨#[98, 101, 115, 116]⟩ := bytes_inj h1.symm
  have q2 : s2 = ⟨#[110, 111, 116, 98, 101, 115, 116]⟩ := bytes_inj h2.symm
  have q3 : s3 = ⟨#[101, 110, 100, 115]⟩ := bytes_inj h3.symm
  have q4 : s4 = ⟨#[110, 111, 116, 101, 110, 100, 115]⟩ := bytes_inj h4.symm
  have q5 : s5 = ⟨#[112, 114, 105, 111, 114, 105, 116, 121, 61]⟩ := bytes_inj h5.symm
  subst q0; subst q1; subst q2; subst q3; subst q4; subst q5
  have hcell := fun i => World.var?_cell hg0 hvar i
  exact ⟨hcell 0, hcell 1, hcell 2, hcell 3, hcell 4, hcell 5⟩
/-- the settled world, the three variables holding what their initialisers lay -/
noncomputable def laidWorld (os : Os) : World :=
  let w0 := World.holding Tryz.prog os ⟨#[], #[], []⟩
  let put (h : Array Obj) (g : Nat) (cs : Array Value) : Array Obj := h.modify g fun
    | .cells _ t frozen => .cells cs t frozen
    | o => o
  let h1 := put w0.heap 2 (Go.Pinned.utf8FirstZ.map fun z => Value.int .u8 (z : Nat)).toArray
  let h2 := put h1 3 (([128, 191, 160, 191, 128, 159, 144, 191, 128, 143, 0, 0, 0, 0, 0, 0, 0, 0, 0, 0, 0, 0, 0, 0, 0, 0, 0, 0, 0, 0, 0, 0] : List Nat).map fun z => Value.int .u8 (z : Nat)).toArray
  let h3 := put h2 0 #[.string ⟨#[97, 108, 108]⟩, .string ⟨#[98, 101, 115, 116]⟩, .string ⟨#[110, 111, 116, 98, 101, 115, 116]⟩, .string ⟨#[101, 110, 100, 115]⟩, .string ⟨#[110, 111, 116, 101, 110, 100, 115]⟩, .string ⟨#[112, 114, 105, 111, 114, 105, 116, 121, 61]⟩]
  { w0 with heap := h3 }
theorem laid_met (os : Os) (args : Array Value) : laidMet Tryz.prog [("unicode/utf8.acceptRanges", Rows.laid_unicode_utf8_acceptRanges), ("bursar/scope.texts", Rows.laid_bursar_scope_texts), ("unicode/utf8.first", Rows.laid_unicode_utf8_first)] ((laidWorld os).forCall (fun _ _ => 0) ⟨#[], args, []⟩).memory :=
  laidMet_of_run' 8 (by kernel_rfl) (by kernel_rfl)
end Go.Proofs.YtalkdddeiebfmaaGreatDoor
/- What is read of objects: their paths are short, together they are few. -/
namespace Go.Proofs.YtalkdddeiebfmaaGreatDoor
open Go.ChangeShapes Go.WideShapes Go.ChangeAt Go.RowKit Go.Deep

def wtO (o : ObjM) : Nat := (allB o.parts).length + 1
theorem rObj_bulk {H : Type} (y : ObjM) (d : DataW H) (h : rObj H y d) : wtO y ≤ Rows.uptoBulk d ∧ y.path.size ≤ Rows.uptoBulk d := by
  obtain ⟨D2, D5, rfl, rl, rp, _⟩ := h
  have h1 := Nat.le_trans (allB_len_le _) (rp.bulk wtP rPart_bulk)
  simp only [Rows.uptoBulk, Rows.uptoBulkAll, wtO, data_len]
  omega
theorem wt_sums : ∀ os : List ObjM, (os.map objWt).sum ≤ 64 * (os.map wtO).sum ∧ (os.map fun o => (usesU o.v).length).sum ≤ (os.map wtO).sum ∧ os.length ≤ (os.map wtO).sum
  | [] => by simp
  | o :: os => by
    obtain ⟨h1, h2, h3⟩ := wt_sums os
    have h4 := objWt_amts o
    have h5 : (usesU o.v).length ≤ (allB o.parts).length + 1 := by
      unfold usesU
      rw [List.length_map]
      exact usesV_len o.v.parts
    simp only [List.map_cons, List.sum_cons, List.length_cons]
    have h6 : wtO o = (allB o.parts).length + 1 := rfl
    exact ⟨by omega, by omega, by omega⟩
theorem rObjs_more {H : Type} {ys : List ObjM} {D : DataW H} (h : RL rObj H ys D) (hk : Rows.uptoBulk D ≤ 1048576) : (∀ y ∈ ys, y.path.size ≤ 1073741824) ∧ (ys.map objWt).sum ≤ 1099511627776 ∧ (ys.map fun o => (usesU o.v).length).sum ≤ 1073741823 ∧ ys.length ≤ 1048576 := by
  have h1 := h.bulk wtO (fun y d hd => (rObj_bulk y d hd).1)
  obtain ⟨h2, h3, h4⟩ := wt_sums ys
  refine ⟨fun y hy => ?_, by omega, by omega, by omega⟩
  obtain ⟨d, hd, hb⟩ := h.mem y hy
  have := (rObj_bulk y d hd).2
  omega
theorem rObjs_all {H : Type} {ys : List ObjM} {D : DataW H} (h : RL rObj H ys D) (hs : Small Tryz.prog 22 D) (hk : Rows.uptoBulk D ≤ 1048576) : ∀ y ∈ ys, ObjMFit y ∧ y.path.size ≤ 1073741824 := fun y hy => ⟨(rObjs_fit h hs hk).1 y hy, (rObjs_more h hk).1 y hy⟩
end Go.Proofs.YtalkdddeiebfmaaGreatDoor
