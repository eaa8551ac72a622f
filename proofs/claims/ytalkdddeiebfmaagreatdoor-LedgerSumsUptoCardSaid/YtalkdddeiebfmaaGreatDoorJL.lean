/- Laid together: J59 J60. -/
import Derived.Test.YtalkdddeiebfmaaGreatDoorJK
import Derived.Deep.WholeRow
import Derived.Test.YtalkdddeiebfmaaGreatDoorJF
/- LedgerPlays: the walk (printed by a script, turned by hand). -/
namespace Go.Proofs.YtalkdddeiebfmaaGreatDoor
open Go.RowKit

theorem OpCells.below {w w' : World} {a : Addr} {x : OpM} {d : OpAd} (h : OpCells w a x d) (hb : Below w.heap.size w w') : OpCells w' a x d :=
  ⟨(hb.cell (World.block_lt_of_cell? _ _ h.c0)).trans h.c0, (hb.cell (p := ⟨_, _, none⟩) (World.block_lt_of_cell? _ _ h.c1)).trans h.c1, (hb.cell (p := ⟨_, _, none⟩) (World.block_lt_of_cell? _ _ h.c2)).trans h.c2, (hb.cell (p := ⟨_, _, none⟩) (World.block_lt_of_cell? _ _ h.c3)).trans h.c3, (hb.cell (p := ⟨_, _, none⟩) (World.block_lt_of_cell? _ _ h.c4)).trans h.c4, (hb.cell (p := ⟨_, _, none⟩) (World.block_lt_of_cell? _ _ h.c5)).trans h.c5, (hb.cell (p := ⟨_, _, none⟩) (World.block_lt_of_cell? _ _ h.c6)).trans h.c6, (hb.cell (p := ⟨_, _, none⟩) (World.block_lt_of_cell? _ _ h.c7)).trans h.c7, (hb.cell (p := ⟨_, _, none⟩) (World.block_lt_of_cell? _ _ h.c8)).trans h.c8, (hb.cell (p := ⟨_, _, none⟩) (World.block_lt_of_cell? _ _ h.c9)).trans h.c9, (hb.cell (p := ⟨_, _, none⟩) (World.block_lt_of_cell? _ _ h.c10)).trans h.c10, (hb.cell (p := ⟨_, _, none⟩) (World.block_lt_of_cell? _ _ h.c11)).trans h.c11, (hb.cell (p := ⟨_, _, none⟩) (World.block_lt_of_cell? _ _ h.c12)).trans h.c12, (hb.cell (p := ⟨_, _, none⟩) (World.block_lt_of_cell? _ _ h.c13)).trans h.c13, (hb.cell (p := ⟨_, _, none⟩) (World.block_lt_of_cell? _ _ h.c14)).trans h.c14, (hb.cell (p := ⟨_, _, none⟩) (World.block_lt_of_cell? _ _ h.c15)).trans h.c15, (hb.cell (p := ⟨_, _, none⟩) (World.block_lt_of_cell? _ _ h.c16)).trans h.c16, (hb.cell (p := ⟨_, _, none⟩) (World.block_lt_of_cell? _ _ h.c17)).trans h.c17, (hb.cell (p := ⟨_, _, none⟩) (World.block_lt_of_cell? _ _ h.c18)).trans h.c18⟩
section
variable {P : Program} {ops : Array Oper} {rest : List Oper} {o : Oper} {a : Act} {w : World} {K : Act → World → Prop} {Q : Exit → Act → World → Prop}
theorem run_loadVar_list (w : World) (p : Addr) (ty : TypeId) (cs : List Value) (d : TypeDesc) (hc : ∀ j v, cs[j]? = some v → w.cell? (p.add j) = some v)
    (hu : P.underlying ty = some d) (hd : (match d with | .struct _ | .array _ _ => true | _ => false) = true) (hi : (P.info? ty).map (·.size) = some cs.length) :
    (loadVar ty p).run P w = .ok (.agg cs.toArray) w := by
  have hl := run_loadCells_list (P := P) w p cs hc
  cases hq : P.info? ty with
  | none => simp [hq] at hi
  | some i =>
    have hs : i.size = cs.length := by simpa [hq] using hi
    have hagg : (isAgg ty).run P w = .ok true w := by
      unfold isAgg
      rw [Sem.run_bind, run_underlying hu w]
      cases d <;> simp_all
    simp [loadVar, Sem.run_bind, hagg, sizeOf, typeInfo, hq, hs, hl]
theorem wp_load_list (ty : TypeId) (x : Operand) (ho : o.op = .load ty x) (p : Addr) (hx : a.eval x = .pointer (some p)) (cs : List Value) (d : TypeDesc) (hc : ∀ j v, cs[j]? = some v → w.cell? (p.add j) = some v)
    (hu : P.underlying ty = some d) (hd : (match d with | .struct _ | .array _ _ => true | _ => false) = true) (n : Nat) (hn : cs.length = n) (hi : (P.info? ty).map (·.size) = some n)
    (h : K (a.put o.dst (.agg cs.toArray)) w) : o.wp P a w K Q := by
  subst hn
  unfold Oper.wp execOp
  simp only [ho, hx, Instr.loadAt, Instr.sureAddr, Sem.run_bind, Sem.run_pure, Result.andThen_ok, run_loadVar_list w p ty cs d hc hu hd hi]
  exact h
theorem wpList_load_list (hgd : o.guard = none) (ty : TypeId) (x : Operand) (ho : o.op = .load ty x) (p : Addr) (hx : a.eval x = .pointer (some p)) (cs : List Value) (d : TypeDesc) (hc : ∀ j v, cs[j]? = some v → w.cell? (p.add j) = some v)
    (hu : P.underlying ty = some d) (hd : (match d with | .struct _ | .array _ _ => true | _ => false) = true) (n : Nat) (hn : cs.length = n) (hi : (P.info? ty).map (·.size) = some n)
    (h : wpList P ops Q rest (a.put o.dst (.agg cs.toArray)) w) : wpList P ops Q (o :: rest) a w :=
  wpList_plain hgd fun _ hK => wp_load_list ty x ho p hx cs d hc hu hd n hn hi (hK _ _ h)
theorem wpList_load_want (hw : Region.wanted o (yielded ops a.tmps) = true) (ty : TypeId) (x : Operand) (ho : o.op = .load ty x) (p : Addr) (hx : a.eval x = .pointer (some p)) (cs : List Value) (d : TypeDesc) (hc : ∀ j v, cs[j]? = some v → w.cell? (p.add j) = some v)
    (hu : P.underlying ty = some d) (hd : (match d with | .struct _ | .array _ _ => true | _ => false) = true) (n : Nat) (hn : cs.length = n) (hi : (P.info? ty).map (·.size) = some n)
    (h : wpList P ops Q rest (a.put o.dst (.agg cs.toArray)) w) : wpList P ops Q (o :: rest) a w :=
  wpList_step fun K hK => by rw [if_pos hw]; exact wp_load_list ty x ho p hx cs d hc hu hd n hn hi (hK _ _ h)
theorem wpList_store_new (hgd : o.guard = none) (ty : TypeId) (x y : Operand) (ho : o.op = .store ty x y) (c c' : Array Value) (hx : a.eval x = .pointer (some ⟨w.heap.size, 0, none⟩)) (hy : a.eval y = .agg c')
    (n : Nat) (hn : c'.size = n) (hi : (P.info? ty).map (·.size) = some n) (hs : c.size = n) (h1 : c'.all (·.oneCell') = true) (hds : o.dst = none)
    (h : wpList P ops Q rest a (w.alloc (.cells c' ty))) : wpList P ops Q (o :: rest) a (w.alloc (.cells c ty)) := by
  subst hn
  refine wpList_plain hgd fun K hK => ?_
  unfold Oper.wp execOp
  simp only [ho, hx, hy, Instr.storeAt, Instr.sureAddr, Sem.run_bind, Sem.run_pure, Result.andThen_ok, run_storeVar_new w ty c c' hi hs h1]
  have hp : a.put o.dst undef = a := by rw [hds]; rfl
  show K (a.put o.dst undef) (w.alloc (.cells c' ty))
  rw [hp]
  exact hK _ _ h
end
def opL (x : OpM) (d : OpAd) : List Value := [.bool x.two, .int .i64 x.kind, .string x.o.path, .string x.o.name, .slice d.L x.o.ls.length d.m, .int .i64 x.o.prio, .int .i64 x.o.dl, .slice d.B x.o.parts.length d.c, .int .i64 x.o.ver, .string x.p.path, .string x.p.name, .slice d.L' x.p.ls.length d.m', .int .i64 x.p.prio, .int .i64 x.p.dl, .slice d.B' x.p.parts.length d.c', .int .i64 x.p.ver, .int .i64 x.s.kind, .int .i64 x.s.arg, .string x.r]
theorem opL_one (x : OpM) (d : OpAd) : (#[.bool x.two, .int .i64 x.kind, .string x.o.path, .string x.o.name, .slice d.L x.o.ls.length d.m, .int .i64 x.o.prio, .int .i64 x.o.dl, .slice d.B x.o.parts.length d.c, .int .i64 x.o.ver, .string x.p.path, .string x.p.name, .slice d.L' x.p.ls.length d.m', .int .i64 x.p.prio, .int .i64 x.p.dl, .slice d.B' x.p.parts.length d.c', .int .i64 x.p.ver, .int .i64 x.s.kind, .int .i64 x.s.arg, .string x.r] : Array Value).all (·.oneCell') = true := by
  refine Array.all_eq_true_iff_forall_mem.2 fun v hv => ?_
  simp only [List.mem_toArray, List.mem_cons, List.not_mem_nil, or_false] at hv
  rcases hv with rfl | rfl | rfl | rfl | rfl | rfl | rfl | rfl | rfl | rfl | rfl | rfl | rfl | rfl | rfl | rfl | rfl | rfl | rfl <;> rfl
theorem op_boxed {w : World} {b : Nat} {x : OpM} {d : OpAd} (h : OpBox w b x d) : ∀ j v, ([.bool x.two, .int .i64 x.kind, .string x.o.path, .string x.o.name, .slice d.L x.o.ls.length d.m, .int .i64 x.o.prio, .int .i64 x.o.dl, .slice d.B x.o.parts.length d.c, .int .i64 x.o.ver, .string x.p.path, .string x.p.name, .slice d.L' x.p.ls.length d.m', .int .i64 x.p.prio, .int .i64 x.p.dl, .slice d.B' x.p.parts.length d.c', .int .i64 x.p.ver, .int .i64 x.s.kind, .int .i64 x.s.arg, .string x.r] : List Value)[j]? = some v → w.cell? ((⟨b, 0, none⟩ : Addr).add j) = some v := fun j v hj => by
  rw [add_new]
  exact (cell_of_row _ _ _ _ _ _ h.blk).trans (by simpa using hj)
theorem op_cells {w : World} {a : Addr} {x : OpM} {d : OpAd} (h : OpCells w a x d) : ∀ j v, (opL x d)[j]? = some v → w.cell? (a.add j) = some v := by
  have hz : a.add 0 = a := by rw [show (0 : Nat) = 0 + 0 from rfl, ← add_add']; unfold Addr.add; simp
  have hk : ∀ j, 0 < j → a.add j = ⟨a.block, a.off + j, none⟩ := fun j hj => by
    unfold Addr.add; simp; omega
  intro j v hj
  have hlt : j < 19 := (List.getElem?_eq_some_iff.1 hj).1
  rcases j with _ | j
  · rw [hz]; obtain rfl : Value.bool x.two = v := Option.some.inj hj; exact h.c0
  · rw [hk _ (by omega)]
    match j, hlt with
    | 0, _ => obtain rfl : .int .i64 x.kind = v := Option.some.inj hj; exact h.c1
    | 1, _ => obtain rfl : .string x.o.path = v := Option.some.inj hj; exact h.c2
    | 2, _ => obtain rfl : .string x.o.name = v := Option.some.inj hj; exact h.c3
    | 3, _ => obtain rfl : .slice d.L x.o.ls.length d.m = v := Option.some.inj hj; exact h.c4
    | 4, _ => obtain rfl : .int .i64 x.o.prio = v := Option.some.inj hj; exact h.c5
    | 5, _ => obtain rfl : .int .i64 x.o.dl = v := Option.some.inj hj; exact h.c6
    | 6, _ => obtain rfl : .slice d.B x.o.parts.length d.c = v := Option.some.inj hj; exact h.c7
    | 7, _ => obtain rfl : .int .i64 x.o.ver = v := Option.some.inj hj; exact h.c8
    | 8, _ => obtain rfl : .string x.p.path = v := Option.some.inj hj; exact h.c9
    | 9, _ => obtain rfl : .string x.p.name = v := Option.some.inj hj; exact h.c10
    | 10, _ => obtain rfl : .slice d.L' x.p.ls.length d.m' = v := Option.some.inj hj; exact h.c11
    | 11, _ => obtain rfl : .int .i64 x.p.prio = v := Option.some.inj hj; exact h.c12
    | 12, _ => obtain rfl : .int .i64 x.p.dl = v := Option.some.inj hj; exact h.c13
    | 13, _ => obtain rfl : .slice d.B' x.p.parts.length d.c' = v := Option.some.inj hj; exact h.c14
    | 14, _ => obtain rfl : .int .i64 x.p.ver = v := Option.some.inj hj; exact h.c15
    | 15, _ => obtain rfl : .int .i64 x.s.kind = v := Option.some.inj hj; exact h.c16
    | 16, _ => obtain rfl : .int .i64 x.s.arg = v := Option.some.inj hj; exact h.c17
    | 17, _ => obtain rfl : .string x.r = v := Option.some.inj hj; exact h.c18
    | n + 18, h => omega
/-- two ledgers in two ways, apart -/
structure Far (B0 N ga q1 q2 gx gb p1 p2 gy : Nat) : Prop where
  la : ∀ j, bothB ga q1 q2 gx j → B0 ≤ j ∧ j < N
  lb : ∀ j, bothB gb p1 p2 gy j → B0 ≤ j ∧ j < N
  ne : ∀ j, bothB ga q1 q2 gx j → ¬ bothB gb p1 p2 gy j
theorem Far.swap {B0 N ga q1 q2 gx gb p1 p2 gy : Nat} (h : Far B0 N ga q1 q2 gx gb p1 p2 gy) : Far B0 N gb p1 p2 gy ga q1 q2 gx := ⟨h.lb, h.la, fun j h1 h2 => h.ne j h2 h1⟩
theorem Far.out {B0 N ga q1 q2 gx gb p1 p2 gy : Nat} (h : Far B0 N ga q1 q2 gx gb p1 p2 gy) {k : Nat} (hk : k < B0 ∨ N ≤ k) : ¬ bothB ga q1 q2 gx k := fun e => by
  have := h.la k e
  omega
theorem Both.new {w0 w1 w2 w : World} {N g b1 b2 gr : Nat} (k : IsLed w1 g b1 b2 0 (fun _ => 0) (fun _ => 0)) (h : w2.heap[gr]? = some (.cells #[.slice none 0 0] 90 (0, 0))) (hb1 : Below w1.heap.size w1 w) (hb2 : Below w2.heap.size w2 w) (hN : gr < N) (hl : ∀ i, ledB g b1 b2 i → i < N ∧ i ≠ gr) :
    Both w N g b1 b2 gr 0 0 0 (fun _ => 0) (fun _ => 0) [] :=
  ⟨k.below hb1, ledOk_zero, (IsRL.start h (F := fun k => N ≤ k) (by omega)).below hb2, rel_nil, esz_nil, hN, hl⟩
set_option maxRecDepth 100000 in
set_option maxHeartbeats 2000000 in
theorem ledgerPlays_any (ops : List OpM) (n : Nat) (hn : ops.length = n) (A : Option Addr) (c : Nat) (P : Nat → Prop) (w : World) (hm : Ml w) (ht : TextsAt w) (hr : Row kOp17 P w A ops) (hok : ∀ o ∈ ops, OpFit o) (hlen : n ≤ 1048576)
    (hw : (ops.map opWt).sum ≤ 1099511627776) (hu : (ops.map opUs).sum ≤ 1073741823) :
    Calls Tryz.prog 6 #[.slice A n c] w fun e w' => e = .returned (.bool true) ∧ Below w.heap.size w w' := by
  have HM := Lib.hid hm
  have HT := Lib.hid ht
  have HR := Lib.hid hr.lt
  have HOK := Lib.hid hok
  have HNL := Lib.hid hn
  have HW := Lib.hid hw
  have HU := Lib.hid hu
  clear hm ht hr hok hn hw hu
  have HML := Lib.hid (show 1 < w.heap.size from let ⟨_, hc⟩ := HM.out; World.block_lt_of_cell? w _ hc)
  go_enter Tryz.func6, Tryz.ntmps6
  go_upto_region 2 with (go_at_call 20; refine (new_led _).mono ?_; rintro e w1 ⟨ga, q1, q2, rfl, hka, hla, hb1⟩; have HB1 := Lib.hid hb1; have HKA := Lib.hid hka; have HLA := Lib.hid hla; clear hka hla hb1)
  go_upto_region 3 with (go_at_call 20; refine (new_led _).mono ?_; rintro e w2 ⟨gb, p1, p2, rfl, hkb, hlb, hb2⟩; have HB2 := Lib.hid hb2; have HKB := Lib.hid hkb; have HLB := Lib.hid hlb; clear hkb hlb hb2)
  go_upto_region 4 with (go_at_call 21; refine (rlnew_any _).mono ?_; rintro e w3 ⟨gx, rfl, hx1, hx2, hx3, hb3⟩; have HB3 := Lib.hid hb3; have HX1 := Lib.hid hx1; have HX2 := Lib.hid hx2; have HX3 := Lib.hid hx3; clear hx1 hx2 hx3 hb3)
  go_upto_region 5 with (go_at_call 21; refine (rlnew_any _).mono ?_; rintro e w4 ⟨gy, rfl, hy1, hy2, hy3, hb4⟩; have HB4 := Lib.hid hb4; have HY1 := Lib.hid hy1; have HY2 := Lib.hid hy2; have HY3 := Lib.hid hy3; clear hy1 hy2 hy3 hb4)
  obtain ⟨N, hN⟩ : ∃ N, w4.heap.size = N := ⟨_, rfl⟩
  have HFAR := Lib.hid (show Far w.heap.size N ga q1 q2 gx gb p1 p2 gy from by
    have s1 := HB1.out.size; have s2 := HB2.out.size; have s3 := HB3.out.size; have s4 := HB4.out.size
    have x1 := HX1.out; have x2 := HX2.out; have y1 := HY1.out; have y2 := HY2.out
    refine ⟨fun j hj => ?_, fun j hj => ?_, fun j hj hj2 => ?_⟩
    · rcases hj with hj | hj
      · have := HLA.out j hj; have := HKA.out.lt j hj; omega
      · omega
    · rcases hj with hj | hj
      · have := HLB.out j hj; have := HKB.out.lt j hj; omega
      · omega
    · rcases hj with hj | hj
      · have := HLA.out j hj; have := HKA.out.lt j hj
        rcases hj2 with hk | hk
        · have := HLB.out j hk; omega
        · omega
      · rcases hj2 with hk | hk
        · have := HKB.out.lt j hk; omega
        · omega)
  have HBA0 := Lib.hid (show Both w4 N ga q1 q2 gx 0 0 0 (fun _ => 0) (fun _ => 0) [] from by
    have s1 := HB1.out.size; have s2 := HB2.out.size; have s3 := HB3.out.size; have s4 := HB4.out.size; have x1 := HX1.out; have x2 := HX2.out
    refine Both.new (w0 := w) HKA.out HX3.out (HB2.out.trans ((HB3.out.trans (HB4.out.mono s3)).mono s2)) HB4.out (by omega) fun j hj => ?_
    have := HKA.out.lt j hj; omega)
  have HBB0 := Lib.hid (show Both w4 N gb p1 p2 gy 0 0 0 (fun _ => 0) (fun _ => 0) [] from by
    have s1 := HB1.out.size; have s2 := HB2.out.size; have s3 := HB3.out.size; have s4 := HB4.out.size; have y1 := HY1.out; have y2 := HY2.out
    refine Both.new (w0 := w) HKB.out HY3.out (HB3.out.trans (HB4.out.mono s3)) (Below.refl _ _) (by omega) fun j hj => ?_
    have := HKB.out.lt j hj; omega)
  have HBW0 := Lib.hid (show Below w.heap.size w w4 from HB1.out.trans ((HB2.out.trans ((HB3.out.trans (HB4.out.mono HB3.out.size)).mono HB2.out.size)).mono HB1.out.size))
  have HNW0 := Lib.hid (show N ≤ w4.heap.size from by omega)
  clear HKA HKB HLA HLB HX1 HX2 HX3 HY1 HY2 HY3 HB1 HB2 HB3 HB4 hN
  go_wp2_with fail
  go_loopw [7] (fun iv wr => ∃ (i : Nat) (SA : Pl → Int) (CA : ByteArray → Int) (esA : List EntV) (SB : Pl → Int) (CB : ByteArray → Int) (esB : List EntV), iv = .int .i64 i ∧ i ≤ n ∧ Hid (Both wr N ga q1 q2 gx ((ops.take i).map opWt).sum (2 * i) ((ops.take i).map opUs).sum SA CA esA) ∧ Hid (Both wr N gb p1 p2 gy ((ops.take i).map opWt).sum (2 * i) ((ops.take i).map opUs).sum SB CB esB) ∧ Hid (Below w.heap.size w wr) ∧ Hid (N ≤ wr.heap.size)) (fun iv _ => n - (intOf iv).toNat)
  case atStart => exact ⟨0, _, _, _, _, _, _, rfl, Nat.zero_le _, HBA0.out, HBB0.out, HBW0.out, HNW0.out⟩
  case round =>
    obtain ⟨i, SA, CA, esA, SB, CB, esB, rfl, hi, hka, hkb, hb, hnw⟩ := hrel
    obtain ⟨wq, rfl⟩ : ∃ wq, wq = wr := ⟨_, rfl⟩
    have HKA := Lib.hid hka.out
    have HKB := Lib.hid hkb.out
    have HB := Lib.hid hb.out
    have HNW := Lib.hid hnw.out
    clear hka hkb hb hnw HBA0 HBB0 HBW0 HNW0
    by_cases hlt : i < n
    · have hil : i < ops.length := by rw [HNL.out]; exact hlt
      obtain ⟨a, d, rfl, hPa, hcl, hrw⟩ := op_at HR.out i hil
      have hfx := HOK.out _ (List.getElem_mem hil)
      have htk := List.take_succ_eq_append_getElem hil
      have hm1 := sum_room opWt hil
      have hm2 := sum_room opUs hil
      obtain ⟨x, hx⟩ : ∃ x, ops[i] = x := ⟨_, rfl⟩
      rw [hx] at hcl hrw hfx htk hm1 hm2
      have hs1 : ((ops.take (i + 1)).map opWt).sum = ((ops.take i).map opWt).sum + opWt x := by rw [htk, List.map_append, List.sum_append]; simp
      have hs2 : ((ops.take (i + 1)).map opUs).sum = ((ops.take i).map opUs).sum + opUs x := by rw [htk, List.map_append, List.sum_append]; simp
      obtain ⟨W1, hW1⟩ : ∃ W1, ((ops.take i).map opWt).sum = W1 := ⟨_, rfl⟩
      obtain ⟨U1, hU1⟩ : ∃ U1, ((ops.take i).map opUs).sum = U1 := ⟨_, rfl⟩
      rw [hW1] at hs1 hm1 HKA HKB
      rw [hU1] at hs2 hm2 HKA HKB
      have HS1 := Lib.hid hs1
      have HS2 := Lib.hid hs2
      have HM1 := Lib.hid (show W1 ≤ 1099511627776 from by have := HW.out; omega)
      have HM2 := Lib.hid (show U1 ≤ 1073741823 from by have := HU.out; omega)
      have HRW := Lib.hid hrw
      have HFX := Lib.hid hfx
      have HCL := Lib.hid (show ∀ j v, ([.bool x.two, .int .i64 x.kind, .string x.o.path, .string x.o.name, .slice d.L x.o.ls.length d.m, .int .i64 x.o.prio, .int .i64 x.o.dl, .slice d.B x.o.parts.length d.c, .int .i64 x.o.ver, .string x.p.path, .string x.p.name, .slice d.L' x.p.ls.length d.m', .int .i64 x.p.prio, .int .i64 x.p.dl, .slice d.B' x.p.parts.length d.c', .int .i64 x.p.ver, .int .i64 x.s.kind, .int .i64 x.s.arg, .string x.r] : List Value)[j]? = some v → wq.cell? ((a.add (i * 19)).add j) = some v from op_cells (hcl.below HB.out))
      have hlti : (i : Int) < (n : Int) := by omega
      have hi0 : (0 : Int) ≤ (i : Int) := by omega
      clear hcl hrw hfx htk hm1 hm2 hx hs1 hs2 hW1 hU1
      go_upto_region 10 with fail
      iterate 10 go_step
      refine wpList_load_list rfl 58 (.tmp 27) rfl (a.add (i * 19)) rfl [.bool x.two, .int .i64 x.kind, .string x.o.path, .string x.o.name, .slice d.L x.o.ls.length d.m, .int .i64 x.o.prio, .int .i64 x.o.dl, .slice d.B x.o.parts.length d.c, .int .i64 x.o.ver, .string x.p.path, .string x.p.name, .slice d.L' x.p.ls.length d.m', .int .i64 x.p.prio, .int .i64 x.p.dl, .slice d.B' x.p.parts.length d.c', .int .i64 x.p.ver, .int .i64 x.s.kind, .int .i64 x.s.arg, .string x.r] _ HCL.out Tryz.underlying58 rfl 19 rfl (by kernel_rfl) ?_
      iterate 3 go_step
      refine wpList_store_new rfl 58 (.tmp 8) (.tmp 28) rfl _ #[.bool x.two, .int .i64 x.kind, .string x.o.path, .string x.o.name, .slice d.L x.o.ls.length d.m, .int .i64 x.o.prio, .int .i64 x.o.dl, .slice d.B x.o.parts.length d.c, .int .i64 x.o.ver, .string x.p.path, .string x.p.name, .slice d.L' x.p.ls.length d.m', .int .i64 x.p.prio, .int .i64 x.p.dl, .slice d.B' x.p.parts.length d.c', .int .i64 x.p.ver, .int .i64 x.s.kind, .int .i64 x.s.arg, .string x.r] rfl rfl 19 rfl (by kernel_rfl) rfl (opL_one x d) rfl ?_
      go_upto_region 11 with fail
      have hx2 := OpBox.mk (heap_alloc_new wq (.cells #[.bool x.two, .int .i64 x.kind, .string x.o.path, .string x.o.name, .slice d.L x.o.ls.length d.m, .int .i64 x.o.prio, .int .i64 x.o.dl, .slice d.B x.o.parts.length d.c, .int .i64 x.o.ver, .string x.p.path, .string x.p.name, .slice d.L' x.p.ls.length d.m', .int .i64 x.p.prio, .int .i64 x.p.dl, .slice d.B' x.p.parts.length d.c', .int .i64 x.p.ver, .int .i64 x.s.kind, .int .i64 x.s.arg, .string x.r] 58))
      have hb2 := (Below.refl wq.heap.size wq).alloc (Nat.le_refl _) (.cells #[.bool x.two, .int .i64 x.kind, .string x.o.path, .string x.o.name, .slice d.L x.o.ls.length d.m, .int .i64 x.o.prio, .int .i64 x.o.dl, .slice d.B x.o.parts.length d.c, .int .i64 x.o.ver, .string x.p.path, .string x.p.name, .slice d.L' x.p.ls.length d.m', .int .i64 x.p.prio, .int .i64 x.p.dl, .slice d.B' x.p.parts.length d.c', .int .i64 x.p.ver, .int .i64 x.s.kind, .int .i64 x.s.arg, .string x.r] 58)
      have hbw2 := HB.out.alloc HB.out.size (.cells #[.bool x.two, .int .i64 x.kind, .string x.o.path, .string x.o.name, .slice d.L x.o.ls.length d.m, .int .i64 x.o.prio, .int .i64 x.o.dl, .slice d.B x.o.parts.length d.c, .int .i64 x.o.ver, .string x.p.path, .string x.p.name, .slice d.L' x.p.ls.length d.m', .int .i64 x.p.prio, .int .i64 x.p.dl, .slice d.B' x.p.parts.length d.c', .int .i64 x.p.ver, .int .i64 x.s.kind, .int .i64 x.s.arg, .string x.r] 58)
      obtain ⟨t8, ht8⟩ : ∃ t, wq.heap.size = t := ⟨_, rfl⟩
      rw [ht8] at hx2 ⊢
      generalize hw2 : wq.alloc (.cells #[.bool x.two, .int .i64 x.kind, .string x.o.path, .string x.o.name, .slice d.L x.o.ls.length d.m, .int .i64 x.o.prio, .int .i64 x.o.dl, .slice d.B x.o.parts.length d.c, .int .i64 x.o.ver, .string x.p.path, .string x.p.name, .slice d.L' x.p.ls.length d.m', .int .i64 x.p.prio, .int .i64 x.p.dl, .slice d.B' x.p.parts.length d.c', .int .i64 x.p.ver, .int .i64 x.s.kind, .int .i64 x.s.arg, .string x.r] 58) = w2 at hx2 hb2 hbw2 ⊢
      have HT8 := Lib.hid (show N ≤ t8 from by rw [← ht8]; exact HNW.out)
      have HNW2 := Lib.hid (Nat.le_trans HNW.out hb2.size)
      have HBW2 := Lib.hid hbw2
      have HKA2 := Lib.hid (HKA.out.below hb2)
      have HKB2 := Lib.hid (HKB.out.below hb2)
      have z0 := hx2.lit.1
      have hbx := op_boxed hx2
      have hin : ∀ {g b1 b2 gr : Nat} {S : Pl → Int} {C : ByteArray → Int} {es : List EntV}, (∀ k, bothB g b1 b2 gr k → w.heap.size ≤ k) → Both w2 N g b1 b2 gr W1 (2 * i) U1 S C es → PlayIn w2 x d _ N g b1 b2 gr W1 (2 * i) U1 S C es := fun hfar hk =>
        ⟨HM.out.below hbw2, HT.out.below hbw2, HRW.out.below hbw2, HFX.out, hk, fun k hk2 e => by have := hfar k e; have := hk2.2; omega, HNW2.out, fun e => by have := hfar _ e; have := HML.out; omega, fun e => by have := hfar _ e; have := HT.out.low; omega, HM1.out, by omega, HM2.out⟩
      have HPCA := plays17_any (hin (fun k hk => (HFAR.out.la k hk).1) HKA2.out)
      have HPCB := plays17_any (hin (fun k hk => (HFAR.out.lb k hk).1) HKB2.out)
      clear hx2 hb2 hbw2 hw2 ht8 hin HKA HKB HNW HM1 HM2 HFX HRW
      cases htw : x.two
      · rw [htw] at z0 HPCA hbx
        have HPX := Lib.hid HPCA
        have HBX := Lib.hid hbx
        clear HPCA HPCB htw hbx
        go_upto_region 13 with fail
        iterate 17 go_step
        refine wpList_load_want rfl 58 (.tmp 8) rfl ⟨t8, 0, none⟩ rfl [.bool false, .int .i64 x.kind, .string x.o.path, .string x.o.name, .slice d.L x.o.ls.length d.m, .int .i64 x.o.prio, .int .i64 x.o.dl, .slice d.B x.o.parts.length d.c, .int .i64 x.o.ver, .string x.p.path, .string x.p.name, .slice d.L' x.p.ls.length d.m', .int .i64 x.p.prio, .int .i64 x.p.dl, .slice d.B' x.p.parts.length d.c', .int .i64 x.p.ver, .int .i64 x.s.kind, .int .i64 x.s.arg, .string x.r] _ HBX.out Tryz.underlying58 rfl 19 rfl (by kernel_rfl) ?_
        go_wp2_with (go_at_call 22; refine HPX.out.mono ?_; rintro e w5 ⟨rfl, ⟨S5, C5, es5, hk5⟩, ht5⟩
                     have HK5 := Lib.hid hk5
                     have HO5 := Lib.hid ((HKB2.out.turn ht5 fun j hj => ⟨(HFAR.out.la j hj).2, HFAR.out.ne j hj⟩).mono (show W1 ≤ W1 + opWt x from by omega) (show 2 * i ≤ 2 * i + 2 from by omega) (show U1 ≤ U1 + opUs x from by omega))
                     have HT5 := Lib.hid ht5
                     have HB5 := Lib.hid (HBW2.out.trans (ht5.below (B := w.heap.size) HBW2.out.size fun j hj => (HFAR.out.la j hj).1))
                     have z0 : w5.cell? ⟨t8, 0, none⟩ = some (.bool false) := ht5.cell z0 (HFAR.out.out (.inr HT8.out))
                     clear hk5 ht5)
        go_roundw
        case rel =>
          rw [← HS1.out, ← HS2.out] at HK5 HO5
          exact ⟨i + 1, _, _, _, _, _, _, by go_num, hlt, HK5.out, HO5.out, HB5.out, Nat.le_trans HNW2.out HT5.out.size⟩
        case measure => simp [intOf]; omega
      · rw [htw] at z0 HPCB hbx
        have HPX := Lib.hid HPCB
        have HBX := Lib.hid hbx
        clear HPCA HPCB htw hbx
        iterate 14 go_step
        refine wpList_load_want rfl 58 (.tmp 8) rfl ⟨t8, 0, none⟩ rfl [.bool true, .int .i64 x.kind, .string x.o.path, .string x.o.name, .slice d.L x.o.ls.length d.m, .int .i64 x.o.prio, .int .i64 x.o.dl, .slice d.B x.o.parts.length d.c, .int .i64 x.o.ver, .string x.p.path, .string x.p.name, .slice d.L' x.p.ls.length d.m', .int .i64 x.p.prio, .int .i64 x.p.dl, .slice d.B' x.p.parts.length d.c', .int .i64 x.p.ver, .int .i64 x.s.kind, .int .i64 x.s.arg, .string x.r] _ HBX.out Tryz.underlying58 rfl 19 rfl (by kernel_rfl) ?_
        go_wp2_with (go_at_call 22; refine HPX.out.mono ?_; rintro e w5 ⟨rfl, ⟨S5, C5, es5, hk5⟩, ht5⟩
                     have HK5 := Lib.hid hk5
                     have HO5 := Lib.hid ((HKA2.out.turn ht5 fun j hj => ⟨(HFAR.out.swap.la j hj).2, HFAR.out.swap.ne j hj⟩).mono (show W1 ≤ W1 + opWt x from by omega) (show 2 * i ≤ 2 * i + 2 from by omega) (show U1 ≤ U1 + opUs x from by omega))
                     have HT5 := Lib.hid ht5
                     have HB5 := Lib.hid (HBW2.out.trans (ht5.below (B := w.heap.size) HBW2.out.size fun j hj => (HFAR.out.swap.la j hj).1))
                     have z0 : w5.cell? ⟨t8, 0, none⟩ = some (.bool true) := ht5.cell z0 (HFAR.out.swap.out (.inr HT8.out))
                     clear hk5 ht5)
        go_roundw
        case rel =>
          rw [← HS1.out, ← HS2.out] at HK5 HO5
          exact ⟨i + 1, _, _, _, _, _, _, by go_num, hlt, HO5.out, HK5.out, HB5.out, Nat.le_trans HNW2.out HT5.out.size⟩
        case measure => simp [intOf]; omega
    · have hge : ¬ ((i : Int) < (n : Int)) := by omega
      obtain rfl : i = n := by omega
      have hos : ops.take i = ops := List.take_of_length_le (by rw [HNL.out]; exact Nat.le_refl _)
      rw [hos] at HKA HKB
      obtain ⟨M, hM⟩ : ∃ M, (ops.map opWt).sum = M := ⟨_, rfl⟩
      obtain ⟨U, hU⟩ : ∃ U, (ops.map opUs).sum = U := ⟨_, rfl⟩
      rw [hM] at HW HKA HKB
      rw [hU] at HU HKA HKB
      have HLA := Lib.hid (show ∀ W, Below wq.heap.size wq W → Calls Tryz.prog 14 #[.pointer (some ⟨ga, 0, none⟩)] W _ from fun W hb => lrows_any W (HM.out.below (HB.out.trans (hb.mono HB.out.size))) (HKA.out.led.below hb) HKA.out.ok (by have := HW.out; omega))
      have HLB := Lib.hid (show ∀ W, Below wq.heap.size wq W → Calls Tryz.prog 14 #[.pointer (some ⟨gb, 0, none⟩)] W _ from fun W hb => lrows_any W (HM.out.below (HB.out.trans (hb.mono HB.out.size))) (HKB.out.led.below hb) HKB.out.ok (by have := HW.out; omega))
      have HDA := Lib.hid (show ∀ W, Below wq.heap.size wq W → Calls Tryz.prog 15 #[.pointer (some ⟨gx, 0, none⟩)] W (RRowsPost SA W) from fun W hb => rrows_any gx _ esA SA CA M W (HKA.out.rl.below hb) HKA.out.rel HKA.out.ok (by have := HKA.out.esz.len; omega) (by have := HKA.out.esz.line; omega) (by have := HKA.out.esz.uses; have := HU.out; omega) (by have := HW.out; omega))
      have HDB := Lib.hid (show ∀ W, Below wq.heap.size wq W → Calls Tryz.prog 15 #[.pointer (some ⟨gy, 0, none⟩)] W (RRowsPost SB W) from fun W hb => rrows_any gy _ esB SB CB M W (HKB.out.rl.below hb) HKB.out.rel HKB.out.ok (by have := HKB.out.esz.len; omega) (by have := HKB.out.esz.line; omega) (by have := HKB.out.esz.uses; have := HU.out; omega) (by have := HW.out; omega))
      clear hos hM hU HKA HKB
      go_wp2_with (first
        | (go_at_call 14; have q := HLA.out wq (Below.refl wq.heap.size wq); clear HLA; refine q.mono ?_; clear q; rintro e w6 ⟨A6, c6, R6, rfl, ho, hr, hb⟩; have HR6 := Lib.hid hr; have HB6 := Lib.hid (((Below.refl wq.heap.size wq)).trans (hb.mono ((Below.refl wq.heap.size wq)).size)); have HO6 := Lib.hid ho.row'.2.1; have HLE6 := Lib.hid (show R6.length ≤ 9223372036854775807 by have h1 := ho.row'.2.2.1; have h2 := ho.row'.2.2.2; unfold maxLen at h2; omega); clear ho hr hb)
        | (go_at_call 15; have q := HDA.out w6 HB6.out; clear HDA; refine q.mono ?_; clear q; rintro e w7 ⟨A7, c7, R7, rfl, hr, hs, hb⟩; have h7 := rowsOf_unique hs HR6.out; have HB67 := Lib.hid hb; have HO7 := Lib.hid (h7 ▸ hr); rw [h7]; clear hr hs hb h7)
        | (go_at_call 13; have q := sameRows_val A6 A7 _ c6 c7 _ _ R6 w7 (HO6.out.below HB67.out) HO7.out rfl HLE6.out; clear HO7; refine q.mono ?_; clear q; rintro e w8 ⟨rfl, hb⟩; have HB8 := Lib.hid (HB6.out.trans ((HB67.out.trans (hb.mono HB67.out.size)).mono HB6.out.size)); clear hb)
        | (go_at_call 14; have q := HLB.out w8 HB8.out; clear HLB; refine q.mono ?_; clear q; rintro e w9 ⟨A9, c9, R9, rfl, ho, hr, hb⟩; have HR9 := Lib.hid hr; have HB9 := Lib.hid ((HB8.out).trans (hb.mono (HB8.out).size)); have HO9 := Lib.hid ho.row'.2.1; have HLE9 := Lib.hid (show R9.length ≤ 9223372036854775807 by have h1 := ho.row'.2.2.1; have h2 := ho.row'.2.2.2; unfold maxLen at h2; omega); clear ho hr hb)
        | (go_at_call 15; have q := HDB.out w9 HB9.out; clear HDB; refine q.mono ?_; clear q; rintro e w10 ⟨A10, c10, R10, rfl, hr, hs, hb⟩; have h7 := rowsOf_unique hs HR9.out; have HB910 := Lib.hid hb; have HO10 := Lib.hid (h7 ▸ hr); rw [h7]; clear hr hs hb h7)
        | (go_at_call 13; have q := sameRows_val A9 A10 _ c9 c10 _ _ R9 w10 (HO9.out.below HB910.out) HO10.out rfl HLE9.out; clear HO10; refine q.mono ?_; clear q; rintro e w11 ⟨rfl, hb⟩; have HB11 := Lib.hid (HB9.out.trans ((HB910.out.trans (hb.mono HB910.out.size)).mono HB9.out.size)); clear hb)
        | fail)
      go_ret
      exact ⟨rfl, HB.out.trans (HB11.out.mono HB.out.size)⟩
end Go.Proofs.YtalkdddeiebfmaaGreatDoor
/- What the rows of the scripts want: steps read in step with what is read. -/
namespace Go.Proofs.YtalkdddeiebfmaaGreatDoor
open Go.ChangeShapes Go.WideShapes Go.ChangeAt Go.RowKit Go.Deep

def rSc (H : Type) (y : ScV) (D : DataW H) : Prop := D = .agg [.lit (.int .i64 y.kind), .lit (.int .i64 y.arg)] ∧ in64 y.kind ∧ in64 y.arg
theorem dec_sc : TRel Tryz.prog 47 kSc rSc := by
  refine ⟨by kernel_rfl, ?_⟩
  intro H enc w base sp held fuel cs x h hl
  obtain ⟨xs, n, rfl, hxl, hf⟩ := trod_ones Tryz.underlying47 (by kernel_rfl) h
  have hl : cs.length = 2 := hl
  have hxl : xs.length = 2 := hxl
  match cs, xs, hl, hxl with
  | [v0, v1], [a0, a1], _, _ =>
    have g0 : DataW.trod enc Tryz.prog w base sp held n 3 [v0] = some a0 := hf 0 _ rfl v0 a0 rfl rfl
    have g1 : DataW.trod enc Tryz.prog w base sp held n 3 [v1] = some a1 := hf 1 _ rfl v1 a1 rfl rfl
    obtain ⟨n0, e0, z0, w0⟩ := DataW.trod_int Tryz.underlying3 g0
    obtain ⟨n1, e1, z1, w1⟩ := DataW.trod_int Tryz.underlying3 g1
    cases e0; cases e1; subst z0; subst z1
    exact ⟨⟨n0, n1⟩, rfl, rfl, i64_of_wf w0, i64_of_wf w1⟩
def rOp17 (H : Type) (y : OpM) (D : DataW H) : Prop :=
  ∃ DO DP DS, D = .agg [.lit (.bool y.two), .lit (.int .i64 y.kind), DO, DP, DS, .lit (.string y.r.data.toList)] ∧ rObj H y.o DO ∧ rObj H y.p DP ∧ rSc H y.s DS
set_option maxRecDepth 100000 in
theorem dec_op17 : TRel Tryz.prog 58 kOp17 rOp17 := by
  refine ⟨by kernel_rfl, ?_⟩
  intro H enc w base sp held fuel cs x h hl
  obtain ⟨xs, n, -, rfl, -, hxl, hf⟩ := DataW.trod_struct Tryz.underlying58 h
  have hl : cs.length = 19 := hl
  obtain ⟨a0, a1, a2, a3, a4, a5, rfl⟩ := list6 (show xs.length = 6 from hxl)
  have kb : Tryz.prog.cellsOf 4 = 1 := by kernel_rfl
  have ki : Tryz.prog.cellsOf 3 = 1 := by kernel_rfl
  have k7 : Tryz.prog.cellsOf 26 = 7 := by kernel_rfl
  have k2 : Tryz.prog.cellsOf 47 = 2 := by kernel_rfl
  have ks : Tryz.prog.cellsOf 9 = 1 := by kernel_rfl
  have g0 : DataW.trod enc Tryz.prog w base sp held n 4 ((cs.drop 0).take (Tryz.prog.cellsOf 4)) = some a0 := hf 0 _ rfl
  have g1 : DataW.trod enc Tryz.prog w base sp held n 3 ((cs.drop 1).take (Tryz.prog.cellsOf 3)) = some a1 := hf 1 _ rfl
  have g2 : DataW.trod enc Tryz.prog w base sp held n 26 ((cs.drop 2).take (Tryz.prog.cellsOf 26)) = some a2 := hf 2 _ rfl
  have g3 : DataW.trod enc Tryz.prog w base sp held n 26 ((cs.drop 9).take (Tryz.prog.cellsOf 26)) = some a3 := hf 3 _ rfl
  have g4 : DataW.trod enc Tryz.prog w base sp held n 47 ((cs.drop 16).take (Tryz.prog.cellsOf 47)) = some a4 := hf 4 _ rfl
  have g5 : DataW.trod enc Tryz.prog w base sp held n 9 ((cs.drop 18).take (Tryz.prog.cellsOf 9)) = some a5 := hf 5 _ rfl
  rw [kb] at g0
  rw [ki] at g1
  rw [k7] at g2 g3
  rw [k2] at g4
  rw [ks] at g5
  have t : ∀ k m, cs.drop k = (cs.drop k).take m ++ cs.drop (k + m) := fun k m => by
    rw [← List.drop_drop]; exact (List.take_append_drop m (cs.drop k)).symm
  have h18 : cs.drop 18 = (cs.drop 18).take 1 := (List.take_of_length_le (by rw [List.length_drop, hl]; exact Nat.le_refl _)).symm
  have hcs : cs = (cs.drop 0).take 1 ++ ((cs.drop 1).take 1 ++ ((cs.drop 2).take 7 ++ ((cs.drop 9).take 7 ++ ((cs.drop 16).take 2 ++ (cs.drop 18).take 1)))) :=
    (t 0 1).trans (congrArg _ ((t 1 1).trans (congrArg _ ((t 2 7).trans (congrArg _ ((t 9 7).trans (congrArg _ ((t 16 2).trans (congrArg _ h18)))))))))
  obtain ⟨b0, e0, z0⟩ := DataW.trod_bool Tryz.underlying4 g0
  obtain ⟨n1, e1, z1, _⟩ := DataW.trod_int Tryz.underlying3 g1
  obtain ⟨o, ho, ro⟩ := dec_obj.dec g2 (by rw [List.length_take, List.length_drop, hl]; rfl)
  obtain ⟨p, hp, rp⟩ := dec_obj.dec g3 (by rw [List.length_take, List.length_drop, hl]; rfl)
  obtain ⟨s, hs, rs⟩ := dec_sc.dec g4 (by rw [List.length_take, List.length_drop, hl]; rfl)
  obtain ⟨r, e5, z5, _⟩ := DataW.trod_string Tryz.underlying9 g5
  subst z0; subst z1; subst z5
  exact ⟨⟨b0, n1, o, p, s, r⟩, ⟨_, _, hcs, e0, _, _, rfl, e1, _, _, rfl, ho, _, _, rfl, hp, _, _, rfl, hs, e5⟩, _, _, _, rfl, ro, rp, rs⟩
theorem dec_ops17 : TRel Tryz.prog 55 (Kn.slice kOp17) (RL rOp17) := dec_op17.slice Tryz.underlying55 (by kernel_rfl)
def wtOp (x : OpM) : Nat := wtO x.o + wtO x.p
theorem rOp_bulk {H : Type} (y : OpM) (d : DataW H) (h : rOp17 H y d) : wtOp y ≤ Rows.uptoBulk d ∧ y.o.path.size ≤ Rows.uptoBulk d ∧ y.p.path.size ≤ Rows.uptoBulk d ∧ y.r.size ≤ Rows.uptoBulk d := by
  obtain ⟨DO, DP, DS, rfl, ro, rp, _⟩ := h
  have h1 := rObj_bulk _ _ ro
  have h2 := rObj_bulk _ _ rp
  simp only [Rows.uptoBulk, Rows.uptoBulkAll, wtOp, data_len]
  omega
set_option maxRecDepth 100000 in
theorem rOp_fit {H : Type} {y : OpM} {D : DataW H} (h : rOp17 H y D) (hs : Small Tryz.prog 58 D) (hk : Rows.uptoBulk D ≤ 1048576) : OpFit y := by
  obtain ⟨_, b1, b2, b3⟩ := rOp_bulk y D h
  obtain ⟨DO, DP, DS, rfl, ro, rp, rs⟩ := h
  unfold Small DataW.weights at hs
  rw [Tryz.underlying58] at hs
  have hE := small_each hs
  have s2 : Small Tryz.prog 26 DO := hE 2 (by simp) (by simp)
  have s3 : Small Tryz.prog 26 DP := hE 3 (by simp) (by simp)
  have hb : Rows.uptoBulk DO ≤ 1048576 ∧ Rows.uptoBulk DP ≤ 1048576 := by
    simp only [Rows.uptoBulk, Rows.uptoBulkAll] at hk
    omega
  exact ⟨rObj_fit ro s2 hb.1, rObj_fit rp s3 hb.2, by omega, by omega, rs.2.1, rs.2.2, by unfold StOk maxLen; omega⟩
set_option maxRecDepth 100000 in
theorem rOps_all {H : Type} {ys : List OpM} {D : DataW H} (h : RL rOp17 H ys D) (hs : Small Tryz.prog 55 D) (hk : Rows.uptoBulk D ≤ 1048576) : ∀ y ∈ ys, OpFit y := fun y hy => by
  rcases h with ⟨_, rfl⟩ | ⟨es, rest, rfl, hle, hr⟩
  · cases hy
  · unfold Small DataW.weights at hs
    rw [Tryz.underlying55] at hs
    simp only [List.mem_cons, List.mem_append] at hs
    obtain ⟨i, hi, rfl⟩ := List.getElem_of_mem hy
    have hie : i < es.length := by omega
    refine rOp_fit (hr i hi hie) (small_all (fun n hn => hs n (.inr (.inl hn))) _ (List.getElem_mem _)) ?_
    have := bulk_mem (List.getElem_mem (l := es) (n := i) hie)
    simp only [Rows.uptoBulk] at hk; omega
theorem wtOp_sums : ∀ os : List OpM, (os.map opWt).sum ≤ 64 * (os.map wtOp).sum ∧ (os.map opUs).sum ≤ (os.map wtOp).sum ∧ os.length ≤ (os.map wtOp).sum
  | [] => by simp
  | x :: os => by
    obtain ⟨h1, h2, h3⟩ := wtOp_sums os
    have h4 := (wt_sums [x.o]).1
    have h5 := (wt_sums [x.p]).1
    have h6 := (wt_sums [x.o]).2.1
    have h7 := (wt_sums [x.p]).2.1
    have h8 : 1 ≤ wtO x.o := by unfold wtO; omega
    simp only [List.map_cons, List.map_nil, List.sum_cons, List.sum_nil, Nat.add_zero, List.length_cons, opWt, opUs, wtOp] at h1 h2 h3 h4 h5 h6 h7 ⊢
    exact ⟨by omega, by omega, by omega⟩
theorem rOps_more {H : Type} {ys : List OpM} {D : DataW H} (h : RL rOp17 H ys D) (hk : Rows.uptoBulk D ≤ 1048576) : ys.length ≤ 1048576 ∧ (ys.map opWt).sum ≤ 1099511627776 ∧ (ys.map opUs).sum ≤ 1073741823 := by
  have h1 := h.bulk wtOp (fun y d hd => (rOp_bulk y d hd).1)
  obtain ⟨h2, h3, h4⟩ := wtOp_sums ys
  exact ⟨by omega, by omega, by omega⟩
end Go.Proofs.YtalkdddeiebfmaaGreatDoor
