/- scope.Uses: the walk. -/
import Derived.Test.YtdchffghgajbfaaU9
import Derived.Test.YtdchffghgajbfaaV2
import Derived.Test.YtdchffghgajbfaaV4
import Derived.Maps.RangeWalk
import Derived.Maps.StringElems
import Derived.Sort.KeysCollected
import Derived.Sort.OwnSorted
namespace Go.Proofs.Ytdchffghgajbfaa
open Go.RowKit Go.Maps Go.WideMaps

def reqB : ByteArray := ⟨#[114, 101, 113, 117, 101, 115, 116, 115, 46]⟩
def limB : ByteArray := ⟨#[108, 105, 109, 105, 116, 115, 46]⟩
def preB (s : ByteArray) (a : Amt) : Amt := ⟨s ++ a.name, a.val⟩
theorem kv_pre (s : ByteArray) (a : Amt) : kvOf (preB s a) = preA s.data.toList a := by simp [kvOf, preB, preA]
/-- all amounts, as the program lays them -/
def allB (ps : List PartV) : List Amt := ps.flatMap fun p => p.req.map (preB reqB) ++ p.lim.map (preB limB)
theorem allB_kv (ps : List PartV) : (allB ps).map kvOf = allA ps := by
  unfold allB allA
  rw [List.map_flatMap]
  congr 1
  funext p
  rw [List.map_append, List.map_map, List.map_map]
  congr 1 <;> exact List.map_congr_left fun a _ => kv_pre _ a
/-- no name is too long to stand behind another word; an amount is one of 64 bits -/
structure AmtOk (a : Amt) : Prop where
  name : a.name.size ≤ 1152921504606846976
  lo : -9223372036854775808 ≤ a.val
  hi : a.val ≤ 9223372036854775807
def NamesOk (ps : List PartV) : Prop := ∀ p ∈ ps, (∀ a ∈ p.req, AmtOk a) ∧ ∀ a ∈ p.lim, AmtOk a
structure PreOk (a : Amt) : Prop where
  name : a.name.size ≤ maxLen
  lo : -9223372036854775808 ≤ a.val
  hi : a.val ≤ 9223372036854775807
theorem preOk {s : ByteArray} {a : Amt} (hs : s.size ≤ 9) (h : AmtOk a) : PreOk (preB s a) := ⟨by have := h.name; simp only [preB, ByteArray.size_append]; unfold maxLen; omega, h.lo, h.hi⟩
theorem allB_ok {ps : List PartV} (h : NamesOk ps) : ∀ a ∈ allB ps, PreOk a := by
  intro a ha
  obtain ⟨p, hp, hap⟩ := List.mem_flatMap.1 ha
  rcases List.mem_append.1 hap with hap | hap
  · obtain ⟨b, hb, rfl⟩ := List.mem_map.1 hap
    exact preOk (by decide) ((h p hp).1 b hb)
  · obtain ⟨b, hb, rfl⟩ := List.mem_map.1 hap
    exact preOk (by decide) ((h p hp).2 b hb)
theorem any_neg (L : List Amt) : (L.map kvOf).any (fun a => decide (a.2 < 0)) = L.any negA := by rw [List.any_map]; rfl
theorem usesV_neg {ps : List PartV} (h : (allB ps).any negA = true) : usesV ps = ([], 1) := by unfold usesV; rw [← allB_kv, any_neg, if_pos h]
theorem usesV_over {ps : List PartV} (h : (allB ps).any negA = false) (h2 : sumsA sums0 ((allB ps).map kvOf) = none) : usesV ps = ([], 7) := by
  unfold usesV; rw [← allB_kv, any_neg, if_neg (by rw [h]; simp)]
  unfold sums0 at h2; rw [h2]
theorem usesV_ok {ps : List PartV} {S : List (Key × Int)} (h : (allB ps).any negA = false) (h2 : sumsA sums0 ((allB ps).map kvOf) = some S) : usesV ps = (S, 0) := by
  unfold usesV; rw [← allB_kv, any_neg, if_neg (by rw [h]; simp)]
  unfold sums0 at h2; rw [h2]
def UsesPost (ps : List PartV) (w : World) (e : Ending) (w' : World) : Prop :=
  ∃ A c, e = .returned (.tuple #[.slice A (usesV ps).1.length c, .int .i64 (usesV ps).2]) ∧ Own kAmt 36 w.heap.size (fun _ => True) w' (.slice A (usesV ps).1.length c) ((usesV ps).1.map amtOf) ∧ Below w.heap.size w w'
theorem UsesPost.none {ps : List PartV} {w w' : World} {x : Int} (h : usesV ps = ([], x)) (hb : Below w.heap.size w w') : UsesPost ps w (.returned (.tuple #[.slice none 0 0, .int .i64 x])) w' := by
  unfold UsesPost
  rw [h]
  exact ⟨_, _, rfl, Own.nil _ _ _ _ _, hb⟩
theorem zeroI64 (w : World) : (zeroValue 2).run Try.prog w = .ok (.int .i64 0) w := by kernel_rfl
theorem wf64 {x : Int} (h1 : -9223372036854775808 ≤ x) (h2 : x ≤ 9223372036854775807) : (Lit.int .i64 x).wf = true := by simp [Lit.wf, IntKind.min, IntKind.max, IntKind.bits, IntKind.signed]; omega
theorem allB_take {ps : List PartV} {k : Nat} (h : k < ps.length) : allB (ps.take (k + 1)) = allB (ps.take k) ++ (ps[k].req.map (preB reqB) ++ ps[k].lim.map (preB limB)) := by
  rw [List.take_succ_eq_append_getElem h]
  unfold allB
  rw [List.flatMap_append]
  simp
theorem allB_len_take {ps : List PartV} (k : Nat) : (allB (ps.take k)).length ≤ (allB ps).length := by
  have h : allB ps = allB (ps.take k) ++ allB (ps.drop k) := by
    unfold allB
    rw [← List.flatMap_append, List.take_append_drop]
  rw [h, List.length_append]; omega
/-- up to which amount all are laid -/
structure AllAt (o : ObjV) (b0 : Nat) (w0 wr : World) (lv : Value) (L : List Amt) : Prop where
  own : Own kAmt 36 b0 (fun _ => True) wr lv L
  below : Below b0 w0 wr
theorem AllAt.mono_below {o : ObjV} {b0 : Nat} {w0 wr w' : World} {lv : Value} {L : List Amt} (h : AllAt o b0 w0 wr lv L) (hb : Below wr.heap.size wr w') (h0 : b0 ≤ wr.heap.size) : AllAt o b0 w0 w' lv L := ⟨h.own.below hb, h.below.trans (hb.mono h0)⟩
/-- the box of a part, beside the list that grows -/
structure BoxAt (q : Nat) (wr : World) (lv u : Value) : Prop where
  lt : q < wr.heap.size
  c2 : wr.cell? ⟨q, 2, none⟩ = some u
  ne : lv.ownBlock ≠ some q
theorem BoxAt.below {q : Nat} {wr w' : World} {lv u : Value} (h : BoxAt q wr lv u) (hb : Below wr.heap.size wr w') : BoxAt q w' lv u := ⟨Nat.lt_of_lt_of_le h.lt hb.size, (hb.cell (p := ⟨q, 2, none⟩) h.lt).trans h.c2, h.ne⟩
theorem cell_grown {w w' : World} {v : Value} (hg : w.grownBy w' v.ownBlock) (p : Addr) (hl : p.block < w.heap.size) (hn : v.ownBlock ≠ some p.block) : w'.cell? p = w.cell? p := by
  unfold World.cell?
  rw [hg.block p.block hl (fun e => hn e.symm)]
theorem BoxAt.app {q base e : Nat} {R : Nat → Prop} {wr w' : World} {lv lv' u : Value} {zs : List Amt} (h : BoxAt q wr lv u) (ha : Appended kAmt e base R wr w' lv lv' zs) : BoxAt q w' lv' u := by
  refine ⟨Nat.lt_of_lt_of_le h.lt ha.grown.size, (cell_grown ha.grown ⟨q, 2, none⟩ h.lt h.ne).trans h.c2, ?_⟩
  rcases ha.at_ with h1 | h1
  · rw [h1]; exact h.ne
  · rw [h1]; intro h2
    have := Option.some.inj h2
    have := h.lt
    omega
theorem PartAt.below {P : Nat → Prop} {w w' : World} {a : Addr} {x : PartV} {R M : Option Addr} {cr cm : Nat} (h : PartAt P w a x R M cr cm) (hb : Below w.heap.size w w') : PartAt P w' a x R M cr cm :=
  ⟨(hb.cell (World.block_lt_of_cell? _ _ h.c0)).trans h.c0, (hb.cell (p := ⟨a.block, a.off + 1, none⟩) (World.block_lt_of_cell? _ _ h.c1)).trans h.c1, (hb.cell (p := ⟨a.block, a.off + 2, none⟩) (World.block_lt_of_cell? _ _ h.c2)).trans h.c2, h.r1.below hb, h.r2.below hb, h.l1, h.l2⟩
theorem AllAt.app {o : ObjV} {b0 : Nat} {w0 wr wx w' : World} {lv lv' : Value} {L zs : List Amt} (h : AllAt o b0 w0 wr lv L) (hx : Below wr.heap.size wr wx) (h0 : b0 ≤ wr.heap.size) (ha : Appended kAmt 36 b0 (fun _ => True) wx w' lv lv' zs) : AllAt o b0 w0 w' lv' zs :=
  ⟨ha.own, ha.below (h.below.trans (hx.mono h0)) (Nat.le_trans h0 hx.size) (fun q hq => (h.own.block_lt q hq).1)⟩
/-- the step of a range over a map: keys are strings, elements are of an int's kind -/
theorem wpList_next_ranges_si {H : Type} {P : Program} (w : World) {ops : Array Oper} {rest : List Oper} {o : Oper} {a : Act} {Q : Exit → Act → World → Prop}
    (hg : o.guard = none) (it : Operand) (hop : o.op = Op.next it false) (k e : TypeId) (qe : IntKind) (K : Keyed P k) (hk : P.underlying k = some .string) (he : P.underlying e = some (.int qe))
    (b r n : Nat) (D : DataW H) (left : Lit → Bool) (cnt : Nat) (hit : a.eval it = .pointer (some ⟨r, 0, none⟩)) (h : w.ranges P k (plainElem P e) b r n D left cnt)
    (hDone : cnt = 0 → (∀ kl, left kl = false) → wpList P ops Q rest (a.put o.dst (.tuple #[.bool false])) w)
    (hMore : ∀ (x : List UInt8) (c : Int) (w' : World) (cnt' : Nat), left (.string x) = true → (∀ zd, D.atKey (.string x) zd = .lit (.int qe c)) → w'.ranges P k (plainElem P e) b r n D (fun z => left z && !z.sameKey (.string x)) cnt' → cnt' < cnt →
      w.grownBy w' (some r) → w'.heap.size = w.heap.size → (Instr.entry (.pointer (some ⟨r, 0, none⟩))).run P w' = .ok (.tuple #[.string (mkB x), .int qe c]) w' → wpList P ops Q rest (a.put o.dst (.tuple #[.bool true, .string (mkB x), .int qe c])) w') :
    wpList P ops Q (o :: rest) a w :=
  wpList_next_ranges w hg it hop k K (plainElem P e) (fun x => .string (mkB x)) (Value.int qe) (fun key kl hkey => by obtain ⟨x, rfl, _⟩ := Maps.keyOf_str hk hkey; exact ⟨x, rfl⟩) (fun v y hv => by obtain ⟨c, rfl, _⟩ := plainElem_int_inv he hv; exact ⟨c, rfl⟩)
    b r n D left cnt hit h hDone (fun x c kl y w' cnt' hkey hlk hv hat hrg hlt hgr hsz hen => by
      obtain ⟨x', ex, rfl, hwx⟩ := Maps.keyOf_str hk hkey
      obtain rfl : x = x' := by
        have h1 := congrArg (fun v => match v with | .string s => s.data.toList | _ => []) ex
        simpa [mkB, encStr] using h1
      obtain ⟨c', ec, rfl, hwc⟩ := plainElem_int_inv he hv
      cases ec
      exact hMore x c w' cnt' hlk hat hrg hlt hgr hsz hen)

set_option maxRecDepth 100000 in
set_option maxHeartbeats 1000000 in
theorem uses_any (o : ObjV) (A : Option Addr) (c : Nat) (P : Nat → Prop) (w : World) (ho : ObjOk w o A P) (hN : NamesOk o.parts) (hT : (allB o.parts).length ≤ 1099511627776) : Calls Try.prog 5 #[o.val A c] w (UsesPost o.parts w) := by
  obtain ⟨B0, n0, m0, hlab⟩ := ho.lab
  have hb0 : Below w.heap.size w (w.alloc (.cells (o.cells A c) 25)) := (Below.refl _ _).alloc (Nat.le_refl _) _
  have hob := objAt_new w o A c
  have hok := ho.below hb0
  unfold ObjV.val
  obtain ⟨w0, hw0⟩ : ∃ w0, w.alloc (.cells (o.cells A c) 25) = w0 := ⟨_, rfl⟩
  rw [hw0] at hb0 hob hok
  unfold ObjV.cells at hw0
  rw [hlab] at hw0 ⊢
  obtain ⟨p0, p1, p2, p3, p4, p5, p6⟩ := hob
  rw [hlab] at p2
  have HB0 := Lib.hid hb0
  have OK := Lib.hid hok
  have HT := Lib.hid hT
  have HN := Lib.hid hN
  have hlen := ho.len
  clear hb0 hok hlab hT hN
  go_enter Try.func5, Try.ntmps5
  go_wp2
  clear p0 p1 p2 p3 p4 p5 p6
  clear hw0
  go_loopw [4, 22] (fun lv iv wr => ∃ (k n : Nat) (B : Option Addr), iv = .int .i64 k ∧ lv = .slice B (allB (o.parts.take k)).length n ∧ k ≤ o.parts.length ∧ Hid (AllAt o w0.heap.size w0 wr lv (allB (o.parts.take k)))) (fun _ iv _ => o.parts.length - (intOf iv).toNat)
  case atStart => exact ⟨0, 0, none, rfl, rfl, Nat.zero_le _, ⟨Own.nil _ _ _ _ _, Below.refl _ _⟩⟩
  case round =>
    obtain ⟨k, n, B, rfl, rfl, hk, hall⟩ := hrel
    obtain ⟨wo, rfl⟩ : ∃ wo, wo = wr := ⟨_, rfl⟩
    by_cases hlt : k < o.parts.length
    · obtain ⟨a, R, M, cr, cm, rfl, hpa⟩ := part_at OK.out.row k hlt
      obtain ⟨x, hx⟩ : ∃ x, o.parts[k] = x := ⟨_, rfl⟩
      obtain ⟨L0, hL0⟩ : ∃ L0, allB (o.parts.take k) = L0 := ⟨_, rfl⟩
      have HSTEP := Lib.hid (show allB (o.parts.take (k + 1)) = L0 ++ (x.req.map (preB reqB) ++ x.lim.map (preB limB)) by rw [allB_take hlt, hx, hL0])
      have hsize : L0.length + (x.req.length + x.lim.length) ≤ 1099511627776 := by
        have h1 := allB_len_take (ps := o.parts) (k + 1)
        rw [HSTEP.out] at h1
        simp only [List.length_append, List.length_map] at h1
        exact Nat.le_trans h1 HT.out
      have HNX := Lib.hid (show (∀ a ∈ x.req, AmtOk a) ∧ ∀ a ∈ x.lim, AmtOk a by rw [← hx]; exact HN.out _ (List.getElem_mem _))
      rw [hx] at hpa
      rw [hL0] at hall ⊢
      clear hx hL0
      have R1 := Lib.hid hpa.r1
      have R2 := Lib.hid hpa.r2
      obtain ⟨e0, e1, e2, -, -, -, -⟩ := hpa.below hall.out.below
      clear hpa
      obtain ⟨nr, hnr⟩ : ∃ nr, x.req.length = nr := ⟨_, rfl⟩
      obtain ⟨nm, hnm⟩ : ∃ nm, x.lim.length = nm := ⟨_, rfl⟩
      rw [hnr] at e1 hsize
      rw [hnm] at e2 hsize
      have HNR := Lib.hid hnr
      have HNM := Lib.hid hnm
      have hsz := hall.out.below.size
      have HB1 := Lib.hid ((Below.refl wo.heap.size wo).alloc (Nat.le_refl _) (.cells #[.string x.name, .slice R nr cr, .slice M nm cm] 33))
      have hbb := heap_alloc_new wo (.cells #[.string x.name, .slice R nr cr, .slice M nm cm] 33)
      have HBX := Lib.hid (show BoxAt wo.heap.size (wo.alloc (.cells #[.string x.name, .slice R nr cr, .slice M nm cm] 33)) (.slice B L0.length n) (.slice M nm cm) from
        ⟨by simp, (cell_of_row _ _ _ _ _ _ hbb).trans rfl, fun e => by have := (hall.out.own.block_lt _ e).2; omega⟩)
      clear hnr hnm hbb
      go_wp2
      go_loopw [4, 29] (fun lv iv wr => ∃ (j n : Nat) (B : Option Addr) (L : List Amt), iv = .int .i64 j ∧ lv = .slice B L.length n ∧ j ≤ nr ∧ Hid (AllAt o w0.heap.size w0 wr lv L) ∧ Hid (BoxAt wo.heap.size wr lv (.slice M nm cm)) ∧ Hid (L.length = L0.length + j) ∧ Hid (L = L0 ++ (x.req.take j).map (preB reqB))) (fun _ iv _ => nr - (intOf iv).toNat)
      case atStart => exact ⟨0, n, B, L0, rfl, rfl, Nat.zero_le _, hall.out.mono_below HB1.out hsz, HBX.out, rfl, by simp [Hid]⟩
      case round =>
        obtain ⟨j, n2, B2, L, rfl, rfl, hj, hall2, hbx, hL, HL⟩ := hrel
        obtain ⟨wp, rfl⟩ : ∃ wp, wp = wr := ⟨_, rfl⟩
        by_cases hlt2 : j < nr
        · have hltx : j < x.req.length := by rw [HNR.out]; exact hlt2
          obtain ⟨a2, rfl, _, m0, m1⟩ := amt_at (R1.out.below hall2.out.below) j hltx
          obtain ⟨y, hy⟩ : ∃ y, x.req[j] = y := ⟨_, rfl⟩
          have hny : y.name.size ≤ 1152921504606846976 := by rw [← hy]; exact (HNX.out.1 _ (List.getElem_mem _)).name
          have HL2 := Lib.hid (show (x.req.take (j + 1)).map (preB reqB) = (x.req.take j).map (preB reqB) ++ [preB reqB y] by rw [List.take_succ_eq_append_getElem hltx, List.map_append, hy]; rfl)
          rw [hy] at m0 m1
          have hcat : 9 + y.name.size ≤ 9223372036854775807 := by omega
          have hsz2 := hall2.out.below.size
          have h24 : (L.length + 1) * 24 ≤ 140737488355328 := by have := hL.out; omega
          have HB2 := Lib.hid ((Below.refl wp.heap.size wp).alloc (Nat.le_refl _) (.cells #[.string y.name, .int .i64 y.val] 36))
          have HB3 := Lib.hid (HB2.out.alloc HB2.out.size (.cells #[.string (reqB ++ y.name), .int .i64 y.val] 36))
          have HC := Lib.hid (show Row kAmt (fun _ => True) ((wp.alloc (.cells #[.string y.name, .int .i64 y.val] 36)).alloc (.cells #[.string (reqB ++ y.name), .int .i64 y.val] 36)) (some ⟨wp.heap.size + 1, 0, none⟩) [preB reqB y] by
            have := Row.newOnePlain (w := wp.alloc (.cells #[.string y.name, .int .i64 y.val] 36)) (e := 36) (cs := Amt.cells (preB reqB y)) kAmt_plain (x := preB reqB y) rfl
            simpa [Amt.cells, preB] using this)
          unfold reqB at HB3 HC
          clear hy
          go_wp2_with (at_builtin; refine wpList_app_plain amtElem kAmt_plain w0.heap.size rfl (.tmp 33) (.tmp 40) rfl (v := .slice B2 L.length n2) (xs := L) (ys := [preB reqB y]) rfl (hall2.out.own.below HB3.out) rfl rfl HC.out (by exact h24) (by have := HB3.out.size; omega) ?_; intro A7 c7 w7 happ; have HA7 := Lib.hid happ; clear happ)
          go_roundw
          case rel =>
            have hl1 : (L ++ [preB reqB y]).length = L.length + 1 := by rw [List.length_append]; rfl
            exact ⟨j + 1, c7, A7, L ++ [preB reqB y], by go_num, by rw [hl1], hlt2, hall2.out.app HB3.out hsz2 HA7.out, (hbx.out.below HB3.out).app HA7.out, by unfold Hid; rw [hl1, hL.out]; omega, by unfold Hid; rw [HL2.out, HL.out, List.append_assoc]⟩
          case measure => simp [intOf]; omega
        · have hge2 : ¬ ((j : Int) < (nr : Int)) := by omega
          have hjr : j = nr := by omega
          have HLL := Lib.hid (show L = L0 ++ x.req.map (preB reqB) by rw [HL.out, List.take_of_length_le (by rw [HNR.out]; omega)])
          have hb2 := hbx.out.c2
          clear hjr
          go_wp2
          clear hb2
          go_loopw [4, 46] (fun lv iv wr => ∃ (j n : Nat) (B : Option Addr) (L : List Amt), iv = .int .i64 j ∧ lv = .slice B L.length n ∧ j ≤ nm ∧ Hid (AllAt o w0.heap.size w0 wr lv L) ∧ Hid (L.length = L0.length + nr + j) ∧ Hid (L = L0 ++ (x.req.map (preB reqB) ++ (x.lim.take j).map (preB limB)))) (fun _ iv _ => nm - (intOf iv).toNat)
          case atStart => exact ⟨0, n2, B2, L, rfl, rfl, Nat.zero_le _, hall2, by unfold Hid; have := hL.out; omega, by unfold Hid; rw [HLL.out]; simp⟩
          case round =>
            clear HLL hL HL hbx hall2 hge2
            obtain ⟨i, n3, B3, L3, rfl, rfl, hi, hall3, hL3, HL3⟩ := hrel
            obtain ⟨wq, rfl⟩ : ∃ wq, wq = wr := ⟨_, rfl⟩
            by_cases hlt3 : i < nm
            · have hltx : i < x.lim.length := by rw [HNM.out]; exact hlt3
              obtain ⟨a2, rfl, _, m0, m1⟩ := amt_at (R2.out.below hall3.out.below) i hltx
              obtain ⟨y, hy⟩ : ∃ y, x.lim[i] = y := ⟨_, rfl⟩
              have hny : y.name.size ≤ 1152921504606846976 := by rw [← hy]; exact (HNX.out.2 _ (List.getElem_mem _)).name
              have HL2 := Lib.hid (show (x.lim.take (i + 1)).map (preB limB) = (x.lim.take i).map (preB limB) ++ [preB limB y] by rw [List.take_succ_eq_append_getElem hltx, List.map_append, hy]; rfl)
              rw [hy] at m0 m1
              have hcat : 7 + y.name.size ≤ 9223372036854775807 := by omega
              have hsz2 := hall3.out.below.size
              have h24 : (L3.length + 1) * 24 ≤ 140737488355328 := by have := hL3.out; omega
              have HB2 := Lib.hid ((Below.refl wq.heap.size wq).alloc (Nat.le_refl _) (.cells #[.string y.name, .int .i64 y.val] 36))
              have HB3 := Lib.hid (HB2.out.alloc HB2.out.size (.cells #[.string (limB ++ y.name), .int .i64 y.val] 36))
              have HC := Lib.hid (show Row kAmt (fun _ => True) ((wq.alloc (.cells #[.string y.name, .int .i64 y.val] 36)).alloc (.cells #[.string (limB ++ y.name), .int .i64 y.val] 36)) (some ⟨wq.heap.size + 1, 0, none⟩) [preB limB y] by
                have := Row.newOnePlain (w := wq.alloc (.cells #[.string y.name, .int .i64 y.val] 36)) (e := 36) (cs := Amt.cells (preB limB y)) kAmt_plain (x := preB limB y) rfl
                simpa [Amt.cells, preB] using this)
              unfold limB at HB3 HC
              clear hy
              go_wp2_with (at_builtin; refine wpList_app_plain amtElem kAmt_plain w0.heap.size rfl (.tmp 50) (.tmp 57) rfl (v := .slice B3 L3.length n3) (xs := L3) (ys := [preB limB y]) rfl (hall3.out.own.below HB3.out) rfl rfl HC.out (by exact h24) (by have := HB3.out.size; omega) ?_; intro A7 c7 w7 happ; have HA7 := Lib.hid happ; clear happ)
              go_roundw
              case rel =>
                have hl1 : (L3 ++ [preB limB y]).length = L3.length + 1 := by rw [List.length_append]; rfl
                exact ⟨i + 1, c7, A7, L3 ++ [preB limB y], by go_num, by rw [hl1], hlt3, hall3.out.app HB3.out hsz2 HA7.out, by unfold Hid; rw [hl1, hL3.out]; omega, by unfold Hid; rw [HL2.out, HL3.out, List.append_assoc, List.append_assoc]⟩
              case measure => simp [intOf]; omega
            · have hge3 : ¬ ((i : Int) < (nm : Int)) := by omega
              have HLL := Lib.hid (show L3 = allB (o.parts.take (k + 1)) by rw [HSTEP.out, HL3.out, List.take_of_length_le (by rw [HNM.out]; omega)])
              go_wp2
              go_roundw
              case rel => exact ⟨k + 1, n3, B3, by go_num, by rw [← HLL.out], hlt, by rw [← HLL.out]; exact hall3⟩
              case measure => simp [intOf]; omega
    · have hge : ¬ ((k : Int) < (o.parts.length : Int)) := by omega
      have hall9 := hall.out
      rw [List.take_of_length_le (by omega)] at hall9 ⊢
      clear hall
      have HAO := Lib.hid (allB_ok HN.out)
      have HNEG := Lib.hid (fun h => usesV_neg (ps := o.parts) h)
      have HOVER := Lib.hid (fun h h2 => usesV_over (ps := o.parts) h h2)
      have HOKV := Lib.hid (fun h S h2 => usesV_ok (ps := o.parts) (S := S) h h2)
      obtain ⟨L, hL⟩ : ∃ L, allB o.parts = L := ⟨_, rfl⟩
      rw [hL] at hall9 HAO HNEG HOVER HOKV HT ⊢
      have HALL := Lib.hid hall9
      have HL := Lib.hid hL
      obtain ⟨-, hrow, -, -⟩ := hall9.own.row'
      have hLT := HT.out
      have HC := Lib.hid (amtContains_any B n (fun _ => True) L wo hrow (by omega))
      clear hall9 hL hrow hlen
      obtain ⟨N, hNe⟩ : ∃ N, L.length = N := ⟨_, rfl⟩
      have HNE := Lib.hid hNe
      rw [hNe] at hLT HC ⊢
      cases hn : L.any negA
      · have HV := Lib.hid hn
        clear hn hNe
        have hmm := @run_makeMap Try.prog
        go_upto_region 18 with (go_at_call 11; refine HC.out.mono ?_; rintro e w4 ⟨rfl, hb4⟩; rw [HV.out]; have HB4 := Lib.hid hb4; clear hb4)
        obtain ⟨w5, hrun5, hown5, hgrow5⟩ := World.ownsMap.update (World.ownsMap_made (H := Unit) w4 Try.prog 9 (plainElem Try.prog 2)) strLaw Try.underlying45 (by unfold maxLen; omega) (key_of countK ⟨#[99, 111, 117, 110, 116]⟩ rfl (by decide)) (plainElem_int Try.underlying2 (wf64 (x := 1000) (by omega) (by omega)))
        have HO5 := Lib.hid hown5
        have HG5 := Lib.hid hgrow5
        clear hown5 hgrow5
        go_wp2
        clear hrun5
        clear hmm
        have HB := Lib.hid (HALL.out.below.trans (HB4.out.mono HALL.out.below.size))
        have HROW := Lib.hid (show Row kAmt (fun _ => True) w4 B L from (HALL.out.own.below HB4.out).row'.2.1)
        have HB5 := Lib.hid (grown_below ((Below.refl w4.heap.size w4).alloc (Nat.le_refl _) (.map #[] 0)) HG5.out)
        go_loopw [67] (fun iv wr => ∃ (j : Nat) (D : DataW Unit) (S : List (Key × Int)), iv = .int .i64 j ∧ j ≤ N ∧ Hid (wr.ownsMap Try.prog 9 (plainElem Try.prog 2) w4.heap.size (j + 1) D) ∧ Hid (SumAt (L.map kvOf) j D S) ∧ Hid (Below w4.heap.size w4 wr)) (fun iv _ => N - (intOf iv).toNat)
        case atStart => exact ⟨0, _, sums0, rfl, Nat.zero_le _, HO5.out, SumAt.start _, HB5.out⟩
        case round =>
          obtain ⟨j, D, S, rfl, hj, hown, hsum, hbr⟩ := hrel
          obtain ⟨wp, rfl⟩ : ∃ wp, wp = wr := ⟨_, rfl⟩
          have hsz4 := hbr.out.size
          by_cases hlt : j < N
          · have hltx : j < L.length := by rw [HNE.out]; exact hlt
            obtain ⟨a2, rfl, _, m0, m1⟩ := amt_at (HROW.out.below hbr.out) j hltx
            obtain ⟨y, hy⟩ : ∃ y, L[j] = y := ⟨_, rfl⟩
            have hyo : PreOk y := by rw [← hy]; exact HAO.out _ (List.getElem_mem _)
            have hyn : 0 ≤ y.val := by
              have h1 := List.any_eq_false.1 HV.out y (by rw [← hy]; exact List.getElem_mem _)
              simpa [negA] using h1
            have hltk : j < (L.map kvOf).length := by simpa using hltx
            have hkj : (L.map kvOf)[j] = (y.name.data.toList, y.val) := by rw [List.getElem_map, hy]; rfl
            rw [hy] at m0 m1
            have hkey := key_of y.name.data.toList y.name (by simp [mkB]) (by rw [Array.length_toList]; exact hyo.name)
            obtain ⟨key, hkeye⟩ : ∃ key, y.name.data.toList = key := ⟨_, rfl⟩
            rw [hkeye] at hkj hkey
            obtain ⟨g, hg⟩ : ∃ g, getK key S = g := ⟨_, rfl⟩
            have hpos := hsum.out.pos key
            rw [hg] at hpos
            have HKJ := Lib.hid hkj
            have HGE := Lib.hid hg
            have HW1 := Lib.hid ((Below.refl wp.heap.size wp).alloc (Nat.le_refl _) (.cells #[.string y.name, .int .i64 y.val] 36))
            have HOB := Lib.hid (ownsMap_move hown.out (HW1.out.block _ (ownsMap_lt hown.out)))
            obtain ⟨hg1, hg2⟩ := hpos
            have hy2 := hyo.hi
            clear hy hkj hkeye hg
            by_cases hov : g > 9223372036854775807 - y.val
            · have HQ := Lib.hid (show ∀ W, Calls Try.prog 13 #[.int .i64 g, .int .i64 y.val] W fun e w' => e = .returned (.tuple #[.int .i64 0, .int .i64 7]) ∧ W = w' from fun W => by
                have h := qAdd_any g y.val W hg2 ⟨hyo.lo, hyo.hi⟩
                rw [show addQ g y.val = (0, 7) by unfold addQ; rw [if_neg (by omega), if_pos hov]] at h
                exact h)
              have HF := Lib.hid (show usesV o.parts = ([], 7) from HOVER.out HV.out (hsum.out.over hltk (by rw [HKJ.out]; show getK key S > _; rw [HGE.out]; exact hov)))
              clear hov hyo hyn hg1 hg2 hy2
              go_wp2_with (first
                | (at_lookup; refine wpList_lookup_own_int _ rfl _ _ 45 rfl 9 2 .i64 strLaw Try.underlying45 Try.underlying2 (zeroI64 _) w4.heap.size (j + 1) _ rfl HOB.out _ _ rfl hkey ?_; intro cnt hat hwc; obtain rfl : cnt = g := (hsum.out.look _ hat).trans HGE.out; clear hat hwc)
                | (go_at_call 13; refine (HQ.out _).mono ?_; rintro e w2 ⟨rfl, rfl⟩))
              go_ret2
              exact .none HF.out (HB0.out.trans ((HB.out.trans ((hbr.out.trans (HW1.out.mono hsz4)).mono HB.out.size)).mono HB0.out.size))
            · have HQ := Lib.hid (show ∀ W, Calls Try.prog 13 #[.int .i64 g, .int .i64 y.val] W fun e w' => e = .returned (.tuple #[.int .i64 (g + y.val), .int .i64 0]) ∧ W = w' from fun W => by
                have h := qAdd_any g y.val W hg2 ⟨hyo.lo, hyo.hi⟩
                rw [show addQ g y.val = (g + y.val, 0) by unfold addQ; rw [if_neg (by omega), if_neg hov]] at h
                exact h)
              have HS2 := Lib.hid (hsum.out.step hltk HKJ.out hyn (by rw [HGE.out]; exact hov))
              have hwf : (Lit.int .i64 (g + y.val)).wf = true := wf64 (by omega) (by omega)
              rw [HGE.out] at HS2
              clear hov hyo hyn hg1 hg2 hy2
              go_wp2_with (first
                | (at_lookup; refine wpList_lookup_own_int _ rfl _ _ 45 rfl 9 2 .i64 strLaw Try.underlying45 Try.underlying2 (zeroI64 _) w4.heap.size (j + 1) _ rfl HOB.out _ _ rfl hkey ?_; intro cnt hat hwc; obtain rfl : cnt = g := (hsum.out.look _ hat).trans HGE.out; clear hat hwc)
                | (go_at_call 13; refine (HQ.out _).mono ?_; rintro e w2 ⟨rfl, rfl⟩)
                | (at_mapUpdate; refine wpList_mapUpdate_own _ rfl _ _ _ 45 rfl 9 2 strLaw Try.underlying45 _ w4.heap.size (j + 1) _ rfl HOB.out (by unfold maxLen; omega) _ _ _ rfl rfl hkey _ [] (plainElem_int Try.underlying2 hwf) ?_; intro w9 hown9 hgrow9; have HO9 := Lib.hid hown9; have HG9 := Lib.hid hgrow9; clear hown9 hgrow9))
              go_roundw
              case rel => exact ⟨j + 1, _, _, by go_num, hlt, HO9.out, HS2.out, grown_below (hbr.out.trans (HW1.out.mono hsz4)) HG9.out⟩
              case measure => simp [intOf]; omega
          · have hge : ¬ ((j : Int) < (N : Int)) := by omega
            have HSUM := Lib.hid (show sumsA sums0 (L.map kvOf) = some S by have := hsum.out.sum; rwa [List.take_of_length_le (by rw [List.length_map, HNE.out]; omega)] at this)
            have HUV := Lib.hid (show usesV o.parts = (S, 0) from HOKV.out HV.out S HSUM.out)
            have hltm := ownsMap_lt hown.out
            have hds := ownsMap_size hown.out
            go_wp2_with (first
              | (at_range; refine wpList_range_own _ rfl _ 45 rfl 9 2 strLaw Try.underlying45 _ w4.heap.size (j + 1) _ rfl hown.out ?_; intro w6 hrg0 hg0 hs0)
              | go_in)
            have HRG0 := Lib.hid hrg0
            have HB6 := Lib.hid (show Below wp.heap.size wp w6 from (Below.refl _ _).grown hg0 (Nat.le_refl _) (fun j hj => by cases hj))
            clear hrg0 hg0
            try go_frame
            go_loopw [16] (fun lv wr => ∃ (left : Lit → Bool) (cnt n : Nat) (B : Option Addr) (M : List Amt), lv = .slice B M.length n ∧ Hid (wr.ranges Try.prog 9 (plainElem Try.prog 2) w4.heap.size wp.heap.size (j + 1) D left cnt) ∧ M.length + cnt ≤ N + 1 ∧ Hid (KvC D S left M) ∧ Hid (Own kAmt 36 wp.heap.size (fun _ => True) wr lv M) ∧ Hid (Below wp.heap.size wp wr)) (fun _ wr => wr.rangeLeft w4.heap.size wp.heap.size)
            case atStart => exact ⟨_, _, 0, none, [], rfl, HRG0.out, by simp; omega, KvC.start D S, Own.nil _ _ _ _ _, HB6.out⟩
            case round =>
              obtain ⟨left, cnt, n7, B7, M, rfl, hrg, hcnt, hkv, hom, hb7⟩ := hrel
              obtain ⟨wq, rfl⟩ : ∃ wq, wq = wr := ⟨_, rfl⟩
              have hszq := hb7.out.size
              go_wp2_with (first
                | (at_next; refine wpList_next_ranges_si _ rfl _ rfl 9 2 .i64 strLaw Try.underlying9 Try.underlying2 w4.heap.size wp.heap.size (j + 1) _ _ _ rfl hrg.out ?_ ?_)
                | go_in)
              · intro _ hl0
                have hperm := hkv.out.perm hsum.out.rel hsum.out.asc hl0
                have hlM : M.length = S.length := by simpa using hperm.length_eq
                have hMne : M ≠ [] := by
                  rintro rfl
                  have h1 : S = [] := List.eq_nil_of_length_eq_zero (by simpa using hlM.symm)
                  have h2 := hsum.out.cnt
                  rw [h1] at h2
                  simp at h2
                have HS := Lib.hid (amtSort_any (S := S) wq hom.out hMne hsum.out.asc hperm (by omega))
                have HLM := Lib.hid hlM
                clear hperm hMne hlM hl0
                go_wp2_with (go_at_call 14; refine HS.out.mono ?_; rintro e w8 ⟨rfl, hown8, hg8⟩; have HO8 := Lib.hid hown8; have HG8 := Lib.hid hg8; clear hown8 hg8)
                go_ret2
                unfold UsesPost
                rw [HUV.out]
                refine ⟨B7, n7, by rw [HLM.out]; rfl, ?_, ?_⟩
                · rw [← HLM.out]
                  exact HO8.out.lower (by have := HB0.out.size; have := HB.out.size; omega)
                · exact HB0.out.trans ((HB.out.trans ((hbr.out.trans ((hb7.out.grown HG8.out hszq (fun k hk => (hom.out.block_lt k hk).1)).mono hsz4)).mono HB.out.size)).mono HB0.out.size)
              · intro x c w7 cnt' hlk hat hrg1 hlt1 hg1 hs1 hen
                obtain ⟨cells7, hor7, -⟩ := hom.out
                have hne1 := row_ne_iter hor7 hrg.out
                have HO7 := Lib.hid (show Own kAmt 36 wp.heap.size (fun _ => True) w7 (.slice B7 M.length n7) M from
                  (((hom.out.plain (Q := fun _ => False) kAmt_plain).move fun k hk hl => hk.elim (fun hk => hg1.block k hl (fun e => hne1 (e ▸ hk.symm))) (fun f => f.elim)).plain kAmt_plain))
                have HB7 := Lib.hid (show Below wp.heap.size wp w7 from hb7.out.grown hg1 hszq (fun k hk => by cases hk; exact Nat.le_refl _))
                have HRG1 := Lib.hid hrg1
                have HKV := Lib.hid (hkv.out.step hsum.out.rel hlk hat)
                have HLT := Lib.hid (show w7.rangeLeft w4.heap.size wp.heap.size < wq.rangeLeft w4.heap.size wp.heap.size by rw [hrg1.left_eq, hrg.out.left_eq]; exact hlt1)
                have HWA := Lib.hid ((Below.refl w7.heap.size w7).alloc (Nat.le_refl _) (.cells #[.string (mkB x), .int .i64 c] 36))
                have hz7 := HB7.out.size
                have h24 : (M.length + 1) * 24 ≤ 140737488355328 := by omega
                clear hor7 hne1 hrg1 hg1 hlk hat hs1
                go_wp2_with (
                  (at_builtin; refine wpList_app_plain amtElem kAmt_plain wp.heap.size rfl (.tmp 95) (.tmp 99) rfl (v := .slice B7 M.length n7) (xs := M) (ys := [amtOf (x, c)]) rfl (HO7.out.alloc _) rfl rfl (Row.newOnePlain (cs := Amt.cells (amtOf (x, c))) kAmt_plain rfl) (by exact h24) (by simp; omega) ?_; intro A9 c9 w9 happ; have HA9 := Lib.hid happ; clear happ))
                have HRG9 := Lib.hid (show w9.ranges Try.prog 9 (plainElem Try.prog 2) w4.heap.size wp.heap.size (j + 1) D _ cnt' from
                  (HRG1.out.alloc _).kept HA9.out.grown (fun e => by have := (HO7.out.block_lt _ e.symm).1; omega) (fun e => by
                    obtain ⟨cl, ho9, -⟩ := HO7.out
                    exact row_ne_iter ho9 HRG1.out e))
                go_roundw
                case rel =>
                  have hl1 : (M ++ [amtOf (x, c)]).length = M.length + 1 := by rw [List.length_append]; rfl
                  exact ⟨_, cnt', c9, A9, M ++ [amtOf (x, c)], by rw [hl1], HRG9.out, by rw [hl1]; omega, HKV.out, HA9.out.own, HA9.out.below (HB7.out.trans (HWA.out.mono hz7)) (by simp; omega) (fun q hq => (HO7.out.block_lt q hq).1)⟩
                case measure =>
                  have h1 := HRG9.out.left_eq
                  have h2 := HRG1.out.left_eq
                  have h3 := HLT.out
                  show w9.rangeLeft _ _ < wq.rangeLeft _ _
                  omega
      · have HV := Lib.hid hn
        clear hn hNe
        go_wp2_with (go_at_call 11; refine HC.out.mono ?_; rintro e w4 ⟨rfl, hb4⟩; rw [HV.out]; have HB4 := Lib.hid hb4; clear hb4)
        go_ret2
        exact .none (HNEG.out HV.out) (HB0.out.trans ((HALL.out.below.trans (HB4.out.mono HALL.out.below.size)).mono HB0.out.size))
end Go.Proofs.Ytdchffghgajbfaa
