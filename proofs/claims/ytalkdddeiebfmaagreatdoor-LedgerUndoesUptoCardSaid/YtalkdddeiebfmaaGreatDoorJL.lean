/- Laid together: J59 J60. -/
import Derived.Test.YtalkdddeiebfmaaGreatDoorJK
import Derived.Deep.WholeRow
import Derived.Test.YtalkdddeiebfmaaGreatDoorJF
/- LedgerPlays: the walk (printed by a script, turned by hand). -/
namespace Go.Proofs.YtalkdddeiebfmaaGreatDoor
open Go.RowKit

theorem OpCells.below {w w' : World} {a : Addr} {x : OpM} {d : OpAd} (h : OpCells w a x d) (hb : Below w.heap.size w w') : OpCells w' a x d :=
  ⟨(hb.cell (World.block_lt_of_cell? _ _ h.c0)).trans h.c0, (hb.cell (p := ⟨_, _, none⟩) (World.block_lt_of_cell? _ _ h.c1)).trans h.c1, (hb.cell (p := ⟨_, _, none⟩) (World.block_lt_of_cell? _ _ h.c2)).trans h.c2, (hb.cell (p := ⟨_, _, none⟩) (World.block_lt_of_cell? _ _ h.c3)).trans h.c3, (hb.cell (p := ⟨_, _, none⟩) (World.block_lt_of_cell? _ _ h.c4)).trans h.c4, (hb.cell (p := ⟨_, _, none⟩) (World.block_lt_of_cell? _ _ h.c5)).trans h.c5, (hb.cell (p := ⟨_, _, none⟩) (World.block_lt_of_cell? _ _ h.c6)).trans h.c6, (hb.cell (p := ⟨_, _, none⟩) (World.block_lt_of_cell? _ _ h.c7)).trans h.c7, (hb.cell (p := ⟨_, _, none⟩) (World.block_lt_of_cell? _ _ h.c8)).trans h.c8, (hb.cell (p := ⟨_, _, none⟩) (World.block_lt_of_cell? _ _ h.c9)).trans h.c9, (hb.cell (p := ⟨_, _, none⟩) (World.block_lt_of_cell? _ _ h.c10)).trans h.c10, (hb.cell (p := ⟨_, _, none⟩) (World.block_lt_of_cell? _ _ h.c11)).trans h.c11, (hb.cell (p := ⟨_, _, none⟩) (World.block_lt_of_cell? _ _ h.c12)).trans h.c12, (hb.cell (p := ⟨_, _, none⟩) (World.block_lt_of_cell? _ _ h.c13)).trans h.c13, (hb.cell (p := ⟨_, _, none⟩) (World.block_lt_of_cell? _ _ h.c14)).trans h.c14, (hb.cell (p := ⟨_, _, none⟩) (World.block_lt_of_cell? _ _ h.c15)).trans h.c15, (hb.cell (p := ⟨_, _, none⟩) (World.block_lt_of_cell? _ _ h.c16)).trans h.c16, (hb.cell (p := ⟨_, _, none⟩) (World.block_lt_of_cell? _ _ h.c17)).trans h.c17, (hb.cell (p := ⟨_, _, none⟩) (World.block_lt_of_cell? _ _ h.c18)).trans h.c18⟩
section
variable {P : Program} {ops : Array Oper} {rest : List Oper} {o : Oper} {a : Act} {w : World} {K : Act → World → Prop} {Q : Exit → Act → World → Prop}
theorem run_loadVar_list (w : World) (p : Addr) (ty : TypeId) (cs : List Value) (d : TypeDesc) (hc : ∀ j v, cs[j]? = some v → w.cell? (p.add j) = some v)
    (hu : P.underlying ty = some d) (hd : (match d with | .struct _ | .array _ _ => true | _ => false) = true) (hi : (P.info? ty).map (·.size) = some cs.length) :
    (loadVar ty p).run P w = .ok (.agg cs.toArray) w := by
  have hl := run_loadCells_list (P := P) w p cs hc
  cases hq : P.info? ty with
  | none => simp [hq] at hi
  | some i =>
    have hs : i.size = cs.length := by simpa [hq] using hi
    have hagg : (isAgg ty).run P w = .ok true w := by
      unfold isAgg
      rw [Sem.run_bind, run_underlying hu w]
      cases d <;> simp_all
    simp [loadVar, Sem.run_bind, hagg, sizeOf, typeInfo, hq, hs, hl]
theorem wp_load_list (ty : TypeId) (x : Operand) (ho : o.op = .load ty x) (p : Addr) (hx : a.eval x = .pointer (some p)) (cs : List Value) (d : TypeDesc) (hc : ∀ j v, cs[j]? = some v → w.cell? (p.add j) = some v)
    (hu : P.underlying ty = some d) (hd : (match d with | .struct _ | .array _ _ => true | _ => false) = true) (n : Nat) (hn : cs.length = n) (hi : (P.info? ty).map (·.size) = some n)
    (h : K (a.put o.dst (.agg cs.toArray)) w) : o.wp P a w K Q := by
  subst hn
  unfold Oper.wp execOp
  simp only [ho, hx, Instr.loadAt, Instr.sureAddr, Sem.run_bind, Sem.run_pure, Result.andThen_ok, run_loadVar_list w p ty cs d hc hu hd hi]
  exact h
theorem wpList_load_list (hgd : o.guard = none) (ty : TypeId) (x : Operand) (ho : o.op = .load ty x) (p : Addr) (hx : a.eval x = .pointer (some p)) (cs : List Value) (d : TypeDesc) (hc : ∀ j v, cs[j]? = some v → w.cell? (p.add j) = some v)
    (hu : P.underlying ty = some d) (hd : (match d with | .struct _ | .array _ _ => true | _ => false) = true) (n : Nat) (hn : cs.length = n) (hi : (P.info? ty).map (·.size) = some n)
    (h : wpList P ops Q rest (a.put o.dst (.agg cs.toArray)) w) : wpList P ops Q (o :: rest) a w :=
  wpList_plain hgd fun _ hK => wp_load_list ty x ho p hx cs d hc hu hd n hn hi (hK _ _ h)
theorem wpList_load_want (hw : Region.wanted o (yielded ops a.tmps) = true) (ty : TypeId) (x : Operand) (ho : o.op = .load ty x) (p : Addr) (hx : a.eval x = .pointer (some p)) (cs : List Value) (d : TypeDesc) (hc : ∀ j v, cs[j]? = some v → w.cell? (p.add j) = some v)
    (hu : P.underlying ty = some d) (hd : (match d with | .struct _ | .array _ _ => true | _ => false) = true) (n : Nat) (hn : cs.length = n) (hi : (P.info? ty).map (·.size) = some n)
    (h : wpList P ops Q rest (a.put o.dst (.agg cs.toArray)) w) : wpList P ops Q (o :: rest) a w :=
  wpList_step fun K hK => by rw [if_pos hw]; exact wp_load_list ty x ho p hx cs d hc hu hd n hn hi (hK _ _ h)
theorem wpList_store_new (hgd : o.guard = none) (ty : TypeId) (x y : Operand) (ho : o.op = .store ty x y) (c c' : Array Value) (hx : a.eval x = .pointer (some ⟨w.heap.size, 0, none⟩)) (hy : a.eval y = .agg c')
    (n : Nat) (hn : c'.size = n) (hi : (P.info? ty).map (·.size) = some n) (hs : c.size = n) (h1 : c'.all (·.oneCell') = true) (hds : o.dst = none)
    (h : wpList P ops Q rest a (w.alloc (.cells c' ty))) : wpList P ops Q (o :: rest) a (w.alloc (.cells c ty)) := by
  subst hn
  refine wpList_plain hgd fun K hK => ?_
  unfold Oper.wp execOp
  simp only [ho, hx, hy, Instr.storeAt, Instr.sureAddr, Sem.run_bind, Sem.run_pure, Result.andThen_ok, run_storeVar_new w ty c c' hi hs h1]
  have hp : a.put o.dst undef = a := by rw [hds]; rfl
  show K (a.put o.dst undef) (w.alloc (.cells c' ty))
  rw [hp]
  exact hK _ _ h
end
def opL (x : OpM) (d : OpAd) : List Value := [.bool x.two, .int .i64 x.kind, .string x.o.path, .string x.o.name, .slice d.L x.o.ls.length d.m, .int .i64 x.o.prio, .int .i64 x.o.dl, .slice d.B x.o.parts.length d.c, .int .i64 x.o.ver, .string x.p.path, .string x.p.name, .slice d.L' x.p.ls.length d.m', .int .i64 x.p.prio, .int .i64 x.p.dl, .slice d.B' x.p.parts.length d.c', .int .i64 x.p.ver, .int .i64 x.s.kind, .int .i64 x.s.arg, .string x.r]
theorem opL_one (x : OpM) (d : OpAd) : (#[.bool x.two, .int .i64 x.kind, .string x.o.path, .string x.o.name, .slice d.L x.o.ls.length d.m, .int .i64 x.o.prio, .int .i64 x.o.dl, .slice d.B x.o.parts.length d.c, .int .i64 x.o.ver, .string x.p.path, .string x.p.name, .slice d.L' x.p.ls.length d.m', .int .i64 x.p.prio, .int .i64 x.p.dl, .slice d.B' x.p.parts.length d.c', .int .i64 x.p.ver, .int .i64 x.s.kind, .int .i64 x.s.arg, .string x.r] : Array Value).all (·.oneCell') = true := by
  refine Array.all_eq_true_iff_forall_mem.2 fun v hv => ?_
  simp only [List.mem_toArray, List.mem_cons, List.not_mem_nil, or_false] at hv
  rcases hv with rfl | rfl | rfl | rfl | rfl | rfl | rfl | rfl | rfl | rfl | rfl | rfl | rfl | rfl | rfl | rfl | rfl | rfl | rfl <;> rfl
theorem op_boxed {w : World} {b : Nat} {x : OpM} {d : OpAd} (h : OpBox w b x d) : ∀ j v, ([.bool x.two, .int .i64 x.kind, .string x.o.path, .string x.o.name, .slice d.L x.o.ls.length d.m, .int .i64 x.o.prio, .int .i64 x.o.dl, .slice d.B x.o.parts.length d.c, .int .i64 x.o.ver, .string x.p.path, .string x.p.name, .slice d.L' x.p.ls.length d.m', .int .i64 x.p.prio, .int .i64 x.p.dl, .slice d.B' x.p.parts.length d.c', .int .i64 x.p.ver, .int .i64 x.s.kind, .int .i64 x.s.arg, .string x.r] : List Value)[j]? = some v → w.cell? ((⟨b, 0, none⟩ : Addr).add j) = some v := fun j v hj => by
  rw [add_new]
  exact (cell_of_row _ _ _ _ _ _ h.blk).trans (by simpa using hj)
theorem op_cells {w : World} {a : Addr} {x : OpM} {d : OpAd} (h : OpCells w a x d) : ∀ j v, (opL x d)[j]? = some v → w.cell? (a.add j) = some v := by
  have hz : a.add 0 = a := by rw [show (0 : Nat) = 0 + 0 from rfl, ← add_add']; unfold Addr.add; simp
  have hk : ∀ j, 0 < j → a.add j = ⟨a.block, a.off + j, none⟩ := fun j hj => by
    unfold Addr.add; simp; omega
  intro j v hj
  have hlt : j < 19 := (List.getElem?_eq_some_iff.1 hj).1
  rcases j with _ | j
  · rw [hz]; obtain rfl : Value.bool x.two = v := Option.some.inj hj; exact h.c0
  · rw [hk _ (by omega)]
    match j, hlt with
    | 0, _ => obtain rfl : .int .i64 x.kind = v := Option.some.inj hj; exact h.c1
    | 1, _ => obtain rfl : .string x.o.path = v := Option.some.inj hj; exact h.c2
    | 2, _ => obtain rfl : .string x.o.name = v := Option.some.inj hj; exact h.c3
    | 3, _ => obtain rfl : .slice d.L x.o.ls.length d.m = v := Option.some.inj hj; exact h.c4
    | 4, _ => obtain rfl : .int .i64 x.o.prio = v := Option.some.inj hj; exact h.c5
    | 5, _ => obtain rfl : .int .i64 x.o.dl = v := Option.some.inj hj; exact h.c6
    | 6, _ => obtain rfl : .slice d.B x.o.parts.length d.c = v := Option.some.inj hj; exact h.c7
    | 7, _ => obtain rfl : .int .i64 x.o.ver = v := Option.some.inj hj; exact h.c8
    | 8, _ => obtain rfl : .string x.p.path = v := Option.some.inj hj; exact h.c9
    | 9, _ => obtain rfl : .string x.p.name = v := Option.some.inj hj; exact h.c10
    | 10, _ => obtain rfl : .slice d.L' x.p.ls.length d.m' = v := Option.some.inj hj; exact h.c11
    | 11, _ => obtain rfl : .int .i64 x.p.prio = v := Option.some.inj hj; exact h.c12
    | 12, _ => obtain rfl : .int .i64 x.p.dl = v := Option.some.inj hj; exact h.c13
    | 13, _ => obtain rfl : .slice d.B' x.p.parts.length d.c' = v := Option.some.inj hj; exact h.c14
    | 14, _ => obtain rfl : .int .i64 x.p.ver = v := Option.some.inj hj; exact h.c15
    | 15, _ => obtain rfl : .int .i64 x.s.kind = v := Option.some.inj hj; exact h.c16
    | 16, _ => obtain rfl : .int .i64 x.s.arg = v := Option.some.inj hj; exact h.c17
    | 17, _ => obtain rfl : .string x.r = v := Option.some.inj hj; exact h.c18
    | n + 18, h => omega
/-- two ledgers in two ways, apart -/
structure Far (B0 N ga q1 q2 gx gb p1 p2 gy : Nat) : Prop where
  la : ∀ j, bothB ga q1 q2 gx j → B0 ≤ j ∧ j < N
  lb : ∀ j, bothB gb p1 p2 gy j → B0 ≤ j ∧ j < N
  ne : ∀ j, bothB ga q1 q2 gx j → ¬ bothB gb p1 p2 gy j
theorem Far.swap {B0 N ga q1 q2 gx gb p1 p2 gy : Nat} (h : Far B0 N ga q1 q2 gx gb p1 p2 gy) : Far B0 N gb p1 p2 gy ga q1 q2 gx := ⟨h.lb, h.la, fun j h1 h2 => h.ne j h2 h1⟩
theorem Far.out {B0 N ga q1 q2 gx gb p1 p2 gy : Nat} (h : Far B0 N ga q1 q2 gx gb p1 p2 gy) {k : Nat} (hk : k < B0 ∨ N ≤ k) : ¬ bothB ga q1 q2 gx k := fun e => by
  have := h.la k e
  omega
theorem Both.new {w0 w1 w2 w : World} {N g b1 b2 gr : Nat} (k : IsLed w1 g b1 b2 0 (fun _ => 0) (fun _ => 0)) (h : w2.heap[gr]? = some (.cells #[.slice none 0 0] 90 (0, 0))) (hb1 : Below w1.heap.size w1 w) (hb2 : Below w2.heap.size w2 w) (hN : gr < N) (hl : ∀ i, ledB g b1 b2 i → i < N ∧ i ≠ gr) :
    Both w N g b1 b2 gr 0 0 0 (fun _ => 0) (fun _ => 0) [] :=
  ⟨k.below hb1, ledOk_zero, (IsRL.start h (F := fun k => N ≤ k) (by omega)).below hb2, rel_nil, esz_nil, hN, hl⟩
end Go.Proofs.YtalkdddeiebfmaaGreatDoor
/- What the rows of the scripts want: steps read in step with what is read. -/
namespace Go.Proofs.YtalkdddeiebfmaaGreatDoor
open Go.ChangeShapes Go.WideShapes Go.ChangeAt Go.RowKit Go.Deep

def rSc (H : Type) (y : ScV) (D : DataW H) : Prop := D = .agg [.lit (.int .i64 y.kind), .lit (.int .i64 y.arg)] ∧ in64 y.kind ∧ in64 y.arg
theorem dec_sc : TRel Tryz.prog 47 kSc rSc := by
  refine ⟨by kernel_rfl, ?_⟩
  intro H enc w base sp held fuel cs x h hl
  obtain ⟨xs, n, rfl, hxl, hf⟩ := trod_ones Tryz.underlying47 (by kernel_rfl) h
  have hl : cs.length = 2 := hl
  have hxl : xs.length = 2 := hxl
  match cs, xs, hl, hxl with
  | [v0, v1], [a0, a1], _, _ =>
    have g0 : DataW.trod enc Tryz.prog w base sp held n 3 [v0] = some a0 := hf 0 _ rfl v0 a0 rfl rfl
    have g1 : DataW.trod enc Tryz.prog w base sp held n 3 [v1] = some a1 := hf 1 _ rfl v1 a1 rfl rfl
    obtain ⟨n0, e0, z0, w0⟩ := DataW.trod_int Tryz.underlying3 g0
    obtain ⟨n1, e1, z1, w1⟩ := DataW.trod_int Tryz.underlying3 g1
    cases e0; cases e1; subst z0; subst z1
    exact ⟨⟨n0, n1⟩, rfl, rfl, i64_of_wf w0, i64_of_wf w1⟩
def rOp17 (H : Type) (y : OpM) (D : DataW H) : Prop :=
  ∃ DO DP DS, D = .agg [.lit (.bool y.two), .lit (.int .i64 y.kind), DO, DP, DS, .lit (.string y.r.data.toList)] ∧ rObj H y.o DO ∧ rObj H y.p DP ∧ rSc H y.s DS
set_option maxRecDepth 100000 in
theorem dec_op17 : TRel Tryz.prog 58 kOp17 rOp17 := by
  refine ⟨by kernel_rfl, ?_⟩
  intro H enc w base sp held fuel cs x h hl
  obtain ⟨xs, n, -, rfl, -, hxl, hf⟩ := DataW.trod_struct Tryz.underlying58 h
  have hl : cs.length = 19 := hl
  obtain ⟨a0, a1, a2, a3, a4, a5, rfl⟩ := list6 (show xs.length = 6 from hxl)
  have kb : Tryz.prog.cellsOf 4 = 1 := by kernel_rfl
  have ki : Tryz.prog.cellsOf 3 = 1 := by kernel_rfl
  have k7 : Tryz.prog.cellsOf 26 = 7 := by kernel_rfl
  have k2 : Tryz.prog.cellsOf 47 = 2 := by kernel_rfl
  have ks : Tryz.prog.cellsOf 9 = 1 := by kernel_rfl
  have g0 : DataW.trod enc Tryz.prog w base sp held n 4 ((cs.drop 0).take (Tryz.prog.cellsOf 4)) = some a0 := hf 0 _ rfl
  have g1 : DataW.trod enc Tryz.prog w base sp held n 3 ((cs.drop 1).take (Tryz.prog.cellsOf 3)) = some a1 := hf 1 _ rfl
  have g2 : DataW.trod enc Tryz.prog w base sp held n 26 ((cs.drop 2).take (Tryz.prog.cellsOf 26)) = some a2 := hf 2 _ rfl
  have g3 : DataW.trod enc Tryz.prog w base sp held n 26 ((cs.drop 9).take (Tryz.prog.cellsOf 26)) = some a3 := hf 3 _ rfl
  have g4 : DataW.trod enc Tryz.prog w base sp held n 47 ((cs.drop 16).take (Tryz.prog.cellsOf 47)) = some a4 := hf 4 _ rfl
  have g5 : DataW.trod enc Tryz.prog w base sp held n 9 ((cs.drop 18).take (Tryz.prog.cellsOf 9)) = some a5 := hf 5 _ rfl
  rw [kb] at g0
  rw [ki] at g1
  rw [k7] at g2 g3
  rw [k2] at g4
  rw [ks] at g5
  have t : ∀ k m, cs.drop k = (cs.drop k).take m ++ cs.drop (k + m) := fun k m => by
    rw [← List.drop_drop]; exact (List.take_append_drop m (cs.drop k)).symm
  have h18 : cs.drop 18 = (cs.drop 18).take 1 := (List.take_of_length_le (by rw [List.length_drop, hl]; exact Nat.le_refl _)).symm
  have hcs : cs = (cs.drop 0).take 1 ++ ((cs.drop 1).take 1 ++ ((cs.drop 2).take 7 ++ ((cs.drop 9).take 7 ++ ((cs.drop 16).take 2 ++ (cs.drop 18).take 1)))) :=
    (t 0 1).trans (congrArg _ ((t 1 1).trans (congrArg _ ((t 2 7).trans (congrArg _ ((t 9 7).trans (congrArg _ ((t 16 2).trans (congrArg _ h18)))))))))
  obtain ⟨b0, e0, z0⟩ := DataW.trod_bool Tryz.underlying4 g0
  obtain ⟨n1, e1, z1, _⟩ := DataW.trod_int Tryz.underlying3 g1
  obtain ⟨o, ho, ro⟩ := dec_obj.dec g2 (by rw [List.length_take, List.length_drop, hl]; rfl)
  obtain ⟨p, hp, rp⟩ := dec_obj.dec g3 (by rw [List.length_take, List.length_drop, hl]; rfl)
  obtain ⟨s, hs, rs⟩ := dec_sc.dec g4 (by rw [List.length_take, List.length_drop, hl]; rfl)
  obtain ⟨r, e5, z5, _⟩ := DataW.trod_string Tryz.underlying9 g5
  subst z0; subst z1; subst z5
  exact ⟨⟨b0, n1, o, p, s, r⟩, ⟨_, _, hcs, e0, _, _, rfl, e1, _, _, rfl, ho, _, _, rfl, hp, _, _, rfl, hs, e5⟩, _, _, _, rfl, ro, rp, rs⟩
theorem dec_ops17 : TRel Tryz.prog 55 (Kn.slice kOp17) (RL rOp17) := dec_op17.slice Tryz.underlying55 (by kernel_rfl)
def wtOp (x : OpM) : Nat := wtO x.o + wtO x.p
theorem rOp_bulk {H : Type} (y : OpM) (d : DataW H) (h : rOp17 H y d) : wtOp y ≤ Rows.uptoBulk d ∧ y.o.path.size ≤ Rows.uptoBulk d ∧ y.p.path.size ≤ Rows.uptoBulk d ∧ y.r.size ≤ Rows.uptoBulk d := by
  obtain ⟨DO, DP, DS, rfl, ro, rp, _⟩ := h
  have h1 := rObj_bulk _ _ ro
  have h2 := rObj_bulk _ _ rp
  simp only [Rows.uptoBulk, Rows.uptoBulkAll, wtOp, data_len]
  omega
set_option maxRecDepth 100000 in
theorem rOp_fit {H : Type} {y : OpM} {D : DataW H} (h : rOp17 H y D) (hs : Small Tryz.prog 58 D) (hk : Rows.uptoBulk D ≤ 1048576) : OpFit y := by
  obtain ⟨_, b1, b2, b3⟩ := rOp_bulk y D h
  obtain ⟨DO, DP, DS, rfl, ro, rp, rs⟩ := h
  unfold Small DataW.weights at hs
  rw [Tryz.underlying58] at hs
  have hE := small_each hs
  have s2 : Small Tryz.prog 26 DO := hE 2 (by simp) (by simp)
  have s3 : Small Tryz.prog 26 DP := hE 3 (by simp) (by simp)
  have hb : Rows.uptoBulk DO ≤ 1048576 ∧ Rows.uptoBulk DP ≤ 1048576 := by
    simp only [Rows.uptoBulk, Rows.uptoBulkAll] at hk
    omega
  exact ⟨rObj_fit ro s2 hb.1, rObj_fit rp s3 hb.2, by omega, by omega, rs.2.1, rs.2.2, by unfold StOk maxLen; omega⟩
set_option maxRecDepth 100000 in
theorem rOps_all {H : Type} {ys : List OpM} {D : DataW H} (h : RL rOp17 H ys D) (hs : Small Tryz.prog 55 D) (hk : Rows.uptoBulk D ≤ 1048576) : ∀ y ∈ ys, OpFit y := fun y hy => by
  rcases h with ⟨_, rfl⟩ | ⟨es, rest, rfl, hle, hr⟩
  · cases hy
  · unfold Small DataW.weights at hs
    rw [Tryz.underlying55] at hs
    simp only [List.mem_cons, List.mem_append] at hs
    obtain ⟨i, hi, rfl⟩ := List.getElem_of_mem hy
    have hie : i < es.length := by omega
    refine rOp_fit (hr i hi hie) (small_all (fun n hn => hs n (.inr (.inl hn))) _ (List.getElem_mem _)) ?_
    have := bulk_mem (List.getElem_mem (l := es) (n := i) hie)
    simp only [Rows.uptoBulk] at hk; omega
theorem wtOp_sums : ∀ os : List OpM, (os.map opWt).sum ≤ 64 * (os.map wtOp).sum ∧ (os.map opUs).sum ≤ (os.map wtOp).sum ∧ os.length ≤ (os.map wtOp).sum
  | [] => by simp
  | x :: os => by
    obtain ⟨h1, h2, h3⟩ := wtOp_sums os
    have h4 := (wt_sums [x.o]).1
    have h5 := (wt_sums [x.p]).1
    have h6 := (wt_sums [x.o]).2.1
    have h7 := (wt_sums [x.p]).2.1
    have h8 : 1 ≤ wtO x.o := by unfold wtO; omega
    simp only [List.map_cons, List.map_nil, List.sum_cons, List.sum_nil, Nat.add_zero, List.length_cons, opWt, opUs, wtOp] at h1 h2 h3 h4 h5 h6 h7 ⊢
    exact ⟨by omega, by omega, by omega⟩
theorem rOps_more {H : Type} {ys : List OpM} {D : DataW H} (h : RL rOp17 H ys D) (hk : Rows.uptoBulk D ≤ 1048576) : ys.length ≤ 1048576 ∧ (ys.map opWt).sum ≤ 1099511627776 ∧ (ys.map opUs).sum ≤ 1073741823 := by
  have h1 := h.bulk wtOp (fun y d hd => (rOp_bulk y d hd).1)
  obtain ⟨h2, h3, h4⟩ := wtOp_sums ys
  exact ⟨by omega, by omega, by omega⟩
end Go.Proofs.YtalkdddeiebfmaaGreatDoor
