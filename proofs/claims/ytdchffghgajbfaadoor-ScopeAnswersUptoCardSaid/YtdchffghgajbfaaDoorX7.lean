/- Parts that are alike; an append that leaves the old row. -/
import Derived.Test.YtdchffghgajbfaaDoorX6
import Derived.Deep.RegionWith
namespace Go.Proofs.YtdchffghgajbfaaDoor
open Go.RowKit

section
variable {P : Program} {w : World} {α : Type} {d : Kn α} {t e : TypeId} {bytes : Nat}
theorem run_app_keep (I : Elem P t e d bytes) (hd : d.Plain) (base : Nat) (ty : TypeId) {R S : Nat → Prop} {v : Value} {xs ys : List α} (hown : Own d e base R w v xs)
    {A : Option Addr} {c : Nat} (hr : Row d S w A ys) (hne : ys ≠ []) (hb : (xs.length + ys.length) * bytes ≤ 140737488355328) (hbase : base ≤ w.heap.size) :
    ∃ v' w', (Builtin.append_ #[t, t] ty #[v, .slice A ys.length c]).run P w = .ok v' w' ∧ Appended d e base R w w' v v' (xs ++ ys) ∧ Own d e base R w' v xs := by
  obtain ⟨v', w', hrun, ha⟩ := run_app_plain I hd base ty hown hr hb hbase
  obtain ⟨i, z, h1, h2, h3, h4, h5⟩ := I.info
  obtain ⟨cells, ho, hf⟩ := hown
  obtain ⟨ad, rfl, _, news, hf2, hc2⟩ := hr hne
  have ho' : w.ownsRow base e i.size v xs.length cells := by rw [h3]; exact ho
  have := run_append_keep (P := P) w base t ty e i z I.und h1 h2 (by rw [h3]; exact d.pos) v xs.length cells ho' ad ys.length c news (by rw [h3]; exact hf2.1) hc2 hf2.one (len_ok I.pos hb) (by rw [h4]; exact hb) hrun
  rw [h3] at this
  exact ⟨v', w', hrun, ha, cells, this, hf.plain hd⟩
variable {ops : Array Oper} {rest : List Oper} {o : Oper} {a : Act} {Q : Exit → Act → World → Prop}
theorem wpList_app_keep (I : Elem P t e d bytes) (hd : d.Plain) (base : Nat) (hgd : o.guard = none) (s x : Operand) (ho : o.op = .call { callee := .builtin .append, args := #[s, x], argTypes := #[t, t] })
    {R S : Nat → Prop} {v : Value} {xs ys : List α} (hs : a.eval s = v) (hown : Own d e base R w v xs) {A : Option Addr} {m c : Nat} (hx : a.eval x = .slice A m c) (hm : m = ys.length) (hr : Row d S w A ys) (hne : ys ≠ [])
    (hb : (xs.length + ys.length) * bytes ≤ 140737488355328) (hbase : base ≤ w.heap.size)
    (h : ∀ A' c' w', Appended d e base R w w' v (.slice A' (xs.length + ys.length) c') (xs ++ ys) → Own d e base R w' v xs → wpList P ops Q rest (a.put o.dst (.slice A' (xs.length + ys.length) c')) w') : wpList P ops Q (o :: rest) a w := by
  subst hm
  obtain ⟨v', w', hrun, ha, hk⟩ := run_app_keep I hd base o.type hown hr hne hb hbase
  obtain ⟨A', c', hv', _⟩ := ha.own.row
  rw [List.length_append] at hv'
  subst hv'
  exact wpList_plain hgd fun _ hK => wp_of_run s x ho hs hx hrun (hK _ _ (h A' c' w' ha hk))
end

set_option maxRecDepth 100000 in
set_option maxHeartbeats 1000000 in
theorem sameParts_val (o : ObjV) (L1 : Option Addr) (n1 m1 : Nat) (A : Option Addr) (c : Nat) (L2 : Option Addr) (n2 m2 : Nat) (B : Option Addr) (d : Nat) (P Q : Nat → Prop) (w : World) (hx : Row kPart P w A o.parts) (hy : Row kPart Q w B o.parts) (hlen : o.parts.length ≤ 1152921504606846976) (hps : PartsOk o.parts) :
    Calls Tryd.prog 33 #[.agg #[.string o.path, .string o.name, .slice L1 n1 m1, .int .i64 o.prio, .int .i64 o.dl, .slice A o.parts.length c, .int .i64 o.ver], .agg #[.string o.path, .string o.name, .slice L2 n2 m2, .int .i64 o.prio, .int .i64 o.dl, .slice B o.parts.length d, .int .i64 o.ver]] w fun e w' => e = .returned (.bool true) ∧ Below w.heap.size w w' := by
  have hb0 : Below w.heap.size w ((w.alloc (.cells #[.string o.path, .string o.name, .slice L1 n1 m1, .int .i64 o.prio, .int .i64 o.dl, .slice A o.parts.length c, .int .i64 o.ver] 58)).alloc (.cells #[.string o.path, .string o.name, .slice L2 n2 m2, .int .i64 o.prio, .int .i64 o.dl, .slice B o.parts.length d, .int .i64 o.ver] 58)) :=
    ((Below.refl _ _).alloc (Nat.le_refl _) _).alloc (by simp) _
  have hx1 : OBox _ _ _ _ _ _ _ _ _ := .of (heap_alloc2_old w (.cells #[.string o.path, .string o.name, .slice L1 n1 m1, .int .i64 o.prio, .int .i64 o.dl, .slice A o.parts.length c, .int .i64 o.ver] 58) (.cells #[.string o.path, .string o.name, .slice L2 n2 m2, .int .i64 o.prio, .int .i64 o.dl, .slice B o.parts.length d, .int .i64 o.ver] 58))
  have hx2 : OBox _ _ _ _ _ _ _ _ _ := .of (heap_alloc2_new w (.cells #[.string o.path, .string o.name, .slice L1 n1 m1, .int .i64 o.prio, .int .i64 o.dl, .slice A o.parts.length c, .int .i64 o.ver] 58) (.cells #[.string o.path, .string o.name, .slice L2 n2 m2, .int .i64 o.prio, .int .i64 o.dl, .slice B o.parts.length d, .int .i64 o.ver] 58))
  obtain ⟨w0, hw0⟩ : ∃ w0, ((w.alloc (.cells #[.string o.path, .string o.name, .slice L1 n1 m1, .int .i64 o.prio, .int .i64 o.dl, .slice A o.parts.length c, .int .i64 o.ver] 58)).alloc (.cells #[.string o.path, .string o.name, .slice L2 n2 m2, .int .i64 o.prio, .int .i64 o.dl, .slice B o.parts.length d, .int .i64 o.ver] 58)) = w0 := ⟨_, rfl⟩
  rw [hw0] at hb0 hx1 hx2
  have HB0 := Lib.hid hb0
  have X1 := Lib.hid hx1
  have X2 := Lib.hid hx2
  have RX := Lib.hid (hx.below hb0)
  have RY := Lib.hid (hy.below hb0)
  have PS := Lib.hid hps
  have hne : ((o.parts.length : Int) != o.parts.length) = false := by simp
  clear hb0 hx1 hx2 hx hy hps
  go_enter Tryd.func33, Tryd.ntmps33
  go_upto_region 1 with fail
  clear hw0
  obtain ⟨-, -, -, -, -, -, p5, -, -⟩ := X1.out
  obtain ⟨-, -, -, -, -, -, q5, -, -⟩ := X2.out
  go_wp2
  clear p5 q5
  go_loopw [5] (fun i wr => ∃ k : Nat, i = .int .i64 k ∧ k ≤ o.parts.length ∧ Hid (Below w0.heap.size w0 wr)) (fun i _ => o.parts.length - (intOf i).toNat)
  case atStart => exact ⟨0, rfl, Nat.zero_le _, Below.refl _ _⟩
  case round =>
    obtain ⟨k, rfl, hk, hbr⟩ := hrel
    obtain ⟨wo, rfl⟩ : ∃ wo, wo = wr := ⟨_, rfl⟩
    have HBO := Lib.hid (HB0.out.trans (hbr.out.mono HB0.out.size))
    by_cases hlt : k < o.parts.length
    · obtain ⟨a, R1, M1, cr1, cm1, rfl, ha⟩ := part_at (RX.out.below hbr.out) k hlt
      obtain ⟨b, R2, M2, cr2, cm2, rfl, hb⟩ := part_at (RY.out.below hbr.out) k hlt
      have hpx := PS.out _ (List.getElem_mem hlt)
      obtain ⟨x, hx⟩ : ∃ x, o.parts[k] = x := ⟨_, rfl⟩
      rw [hx] at ha hb hpx
      clear hx
      have hx1 : (k : Int) < (o.parts.length : Int) := by omega
      have hk0 : (0 : Int) ≤ (k : Int) := by omega
      obtain ⟨nr, hnr⟩ : ∃ nr, x.req.length = nr := ⟨_, rfl⟩
      obtain ⟨nm, hnm⟩ : ∃ nm, x.lim.length = nm := ⟨_, rfl⟩
      have HNR := Lib.hid hnr
      have HNM := Lib.hid hnm
      have HPX := Lib.hid hpx
      have A1 := Lib.hid ha.r1
      have A2 := Lib.hid ha.r2
      have B1 := Lib.hid hb.r1
      have B2 := Lib.hid hb.r2
      obtain ⟨e0, e1, e2, -, -, -, -⟩ := ha
      obtain ⟨f0, f1, f2, -, -, -, -⟩ := hb
      rw [hnr] at e1 f1
      rw [hnm] at e2 f2
      have E0 := Lib.hid e0
      have E1 := Lib.hid e1
      have E2 := Lib.hid e2
      have F0 := Lib.hid f0
      have F1 := Lib.hid f1
      have F2 := Lib.hid f2
      have hp5 := (X1.out.below hbr.out).c5
      have hq5 := (X2.out.below hbr.out).c5
      have P5 := Lib.hid hp5
      have Q5 := Lib.hid hq5
      clear hnr hnm hpx e0 e1 e2 f0 f1 f2
      go_upto_region 6 with fail
      clear hp5 hq5
      have z1 := fun z : BW wo => (z.h.cell (World.block_lt_of_cell? _ _ P5.out)).trans P5.out
      have z2 := fun z : BW wo => (z.h.cell (World.block_lt_of_cell? _ _ Q5.out)).trans Q5.out
      have z3 := fun z : BW wo => (z.h.cell (World.block_lt_of_cell? _ _ E0.out)).trans E0.out
      have z4 := fun z : BW wo => (z.h.cell (World.block_lt_of_cell? _ _ E1.out)).trans E1.out
      have z5 := fun z : BW wo => (z.h.cell (World.block_lt_of_cell? _ _ E2.out)).trans E2.out
      have z6 := fun z : BW wo => (z.h.cell (World.block_lt_of_cell? _ _ F0.out)).trans F0.out
      have z7 := fun z : BW wo => (z.h.cell (World.block_lt_of_cell? _ _ F1.out)).trans F1.out
      have z8 := fun z : BW wo => (z.h.cell (World.block_lt_of_cell? _ _ F2.out)).trans F2.out
      have C1 := Lib.hid (fun z : BW wo => sameAmts_val R1 R2 nr cr1 cr2 _ _ x.req z.w (A1.out.below z.h) (B1.out.below z.h) HNR.out (by rw [← HNR.out]; exact Nat.le_trans HPX.out.1 (by omega)))
      have C2 := Lib.hid (fun z : BW wo => sameAmts_val M1 M2 nm cm1 cm2 _ _ x.lim z.w (A2.out.below z.h) (B2.out.below z.h) HNM.out (by rw [← HNM.out]; exact Nat.le_trans HPX.out.2 (by omega)))
      have T1 := True.intro
      refine wp_region_pure (by kernel_rfl) (by kernel_rfl) ?_
      repeat (first | go_big_quiet_step (first | (go_at_call_of 35 (Value.slice R1 nr cr1); exact Calls.pure_of (C1.out _)) | (go_at_call_of 35 (Value.slice M1 nm cm1); exact Calls.pure_of (C2.out _))) | quiet_step (first | (go_at_call_of 35 (Value.slice R1 nr cr1); exact Calls.pure_of (C1.out _)) | (go_at_call_of 35 (Value.slice M1 nm cm1); exact Calls.pure_of (C2.out _))))
      refine wpQuiet_nil ?_
      rintro _ ⟨z, rfl⟩
      clear z1 z2 z3 z4 z5 z6 z7 z8
      go_wp2
      go_roundw
      case rel => exact ⟨k + 1, by go_num, hlt, hbr.out.trans (z.h.mono hbr.out.size)⟩
      case measure => simp [intOf]; omega
    · have hge : ¬ ((k : Int) < (o.parts.length : Int)) := by omega
      obtain ⟨-, -, -, -, -, -, p5, -, -⟩ := X1.out.below hbr.out
      go_wp2
      go_ret
      exact ⟨rfl, HBO.out⟩
end Go.Proofs.YtdchffghgajbfaaDoor
