/- scope: In. -/
import Derived.Test.YtdchffghgajbfaaDoorU4
namespace Go.Proofs.YtdchffghgajbfaaDoor
open Go.RowKit

theorem valid_val (s : ScV) (b : Bool) (hb : Hid (validS s = b)) (w : World) : Calls Tryd.prog 28 #[.agg #[.int .i64 s.kind, .int .i64 s.arg]] w fun e w' => e = .returned (.bool b) ∧ Below w.heap.size w w' := by
  have := valid_any s w
  rw [hb.out] at this; exact this
theorem kind_val {k : Int} {t : ByteArray} {f : FuncId} {w : World} (h : Calls Tryd.prog 65 #[.int .i64 k] w (KindPost t f w)) : Calls Tryd.prog 65 #[.int .i64 k] w fun e w' => e = .returned (.agg #[.string t, .func (.func f) #[] #[]]) ∧ Below w.heap.size w w' := h
/-- the two boxes that In begins with -/
structure InBase (W : World) (b : Nat) (o : ObjV) (A : Option Addr) (c : Nat) (P : Nat → Prop) (s : ScV) : Prop where
  obj : ObjAt W b o A c
  s0 : W.cell? ⟨b + 1, 0, none⟩ = some (.int .i64 s.kind)
  s1 : W.cell? ⟨b + 1, 1, none⟩ = some (.int .i64 s.arg)
  ok : ObjOk W o A P
  txt : TextsAt W
theorem inBase (w : World) (o : ObjV) (A : Option Addr) (c : Nat) (P : Nat → Prop) (s : ScV) (ho : ObjOk w o A P) (ht : TextsAt w) : InBase ((w.alloc (.cells (o.cells A c) 58)).alloc (.cells #[.int .i64 s.kind, .int .i64 s.arg] 54)) w.heap.size o A c P s ∧ Below w.heap.size w ((w.alloc (.cells (o.cells A c) 58)).alloc (.cells #[.int .i64 s.kind, .int .i64 s.arg] 54)) := by
  have h1 : Below w.heap.size w (w.alloc (.cells (o.cells A c) 58)) := (Below.refl _ _).alloc (Nat.le_refl _) _
  have h2 : Below (w.alloc (.cells (o.cells A c) 58)).heap.size (w.alloc (.cells (o.cells A c) 58)) ((w.alloc (.cells (o.cells A c) 58)).alloc (.cells #[.int .i64 s.kind, .int .i64 s.arg] 54)) := (Below.refl _ _).alloc (Nat.le_refl _) _
  have h3 := heap_alloc_new (w.alloc (.cells (o.cells A c) 58)) (.cells #[.int .i64 s.kind, .int .i64 s.arg] 54)
  have hs : (w.alloc (.cells (o.cells A c) 58)).heap.size = w.heap.size + 1 := by simp
  rw [hs] at h3
  exact ⟨⟨(objAt_new w o A c).below h2, (cell_of_row _ _ _ _ _ _ h3).trans rfl, (cell_of_row _ _ _ _ _ _ h3).trans rfl, (ho.below h1).below h2, (ht.below h1).below h2⟩, h1.trans (h2.mono h1.size)⟩
theorem kf_val0 (o : ObjV) (A : Option Addr) (c : Nat) (P : Nat → Prop) (a : Int) (B : Option Addr) (n m : Nat) (hl : o.labels = .slice B n m) (w : World) (ho : ObjOk w o A P) :
    Calls Tryd.prog 95 #[.agg #[.string o.path, .string o.name, .slice B n m, .int .i64 o.prio, .int .i64 o.dl, .slice A o.parts.length c, .int .i64 o.ver], .int .i64 a] w fun e w' => e = .returned (.bool (true)) ∧ Below w.heap.size w w' := by
  have := kf6_any o A c P a w ho
  unfold ObjV.val at this
  rw [hl] at this; exact this
set_option maxRecDepth 100000 in
theorem in_k0 (a : Int) (o : ObjV) (A : Option Addr) (c : Nat) (P : Nat → Prop) (w : World) (ho : ObjOk w o A P) (ht : TextsAt w) (hv : validS ⟨0, a⟩ = true) :
    Calls Tryd.prog 29 #[o.val A c, ScV.val ⟨0, a⟩] w fun e w' => e = .returned (.bool (true)) ∧ Below w.heap.size w w' := by
  have HV := Lib.hid hv
  clear hv
  obtain ⟨hib, hbw⟩ := inBase w o A c P ⟨0, a⟩ ho ht
  obtain ⟨B, n, m, hlab⟩ := ho.lab
  have HBW := Lib.hid hbw
  unfold ObjV.val ScV.val
  unfold ObjV.cells at hib HBW
  rw [hlab] at hib HBW ⊢
  obtain ⟨W, hW⟩ : ∃ W, ((w.alloc (.cells #[.string o.path, .string o.name, .slice B n m, .int .i64 o.prio, .int .i64 o.dl, .slice A o.parts.length c, .int .i64 o.ver] 58)).alloc (.cells #[.int .i64 0, .int .i64 a] 54)) = W := ⟨_, rfl⟩
  have HWE := Lib.hid hW
  rw [hW] at hib HBW
  have hob := fun z : BW W => hib.obj.below z.h
  have x0 := fun z => (hob z).c0
  have x1 := fun z => (hob z).c1
  have x2 := fun z => ((hob z).c2).trans (congrArg some hlab)
  have x3 := fun z => (hob z).c3
  have x4 := fun z => (hob z).c4
  have x5 := fun z => (hob z).c5
  have x6 := fun z => (hob z).c6
  have y0 := fun z : BW W => (z.h.cell (p := ⟨w.heap.size + 1, 0, none⟩) (World.block_lt_of_cell? W _ hib.s0)).trans hib.s0
  have y1 := fun z : BW W => (z.h.cell (p := ⟨w.heap.size + 1, 1, none⟩) (World.block_lt_of_cell? W _ hib.s1)).trans hib.s1
  have HIB := Lib.hid hib
  have HLAB := Lib.hid hlab
  have hfld : ∀ W', (Instr.field 105 (.agg #[.string (textK 0), .func (.func 95) #[] #[]]) 1).run Tryd.prog W' = .ok (.func (.func 95) #[] #[]) W' := fun W' => by kernel_rfl
  go_enter Tryd.func29, Tryd.ntmps29
  go_upto_region 1 with fail
  clear hob hW hbw hib hlab
  refine wp_region_pure (by kernel_rfl) (by kernel_rfl) ?_
  repeat (first | go_big_quiet_step (first | (go_at_call 28; exact Calls.pure_of (valid_val ⟨0, a⟩ true HV _)) | (go_at_call 65; exact Calls.pure_of (kind_val (kindOf0 _ (HIB.out.txt.below (BW.h _))))) | (go_at_call 95; exact Calls.pure_of (kf_val0 o A c P a B n m HLAB.out _ (HIB.out.ok.below (BW.h _))))) | quiet_step (first | (go_at_call 28; exact Calls.pure_of (valid_val ⟨0, a⟩ true HV _)) | (go_at_call 65; exact Calls.pure_of (kind_val (kindOf0 _ (HIB.out.txt.below (BW.h _))))) | (go_at_call 95; exact Calls.pure_of (kf_val0 o A c P a B n m HLAB.out _ (HIB.out.ok.below (BW.h _))))))
  refine wpQuiet_nil ?_
  rintro _ ⟨z, rfl⟩
  go_wp2
  go_ret
  exact ⟨rfl, HBW.out.trans (z.h.mono HBW.out.size)⟩
theorem kf_val1 (o : ObjV) (A : Option Addr) (c : Nat) (P : Nat → Prop) (a : Int) (B : Option Addr) (n m : Nat) (hl : o.labels = .slice B n m) (w : World) (ho : ObjOk w o A P) :
    Calls Tryd.prog 89 #[.agg #[.string o.path, .string o.name, .slice B n m, .int .i64 o.prio, .int .i64 o.dl, .slice A o.parts.length c, .int .i64 o.ver], .int .i64 a] w fun e w' => e = .returned (.bool (!namedP o.parts)) ∧ Below w.heap.size w w' := by
  have := kf1_any o A c P a w ho
  unfold ObjV.val at this
  rw [hl] at this; exact this
set_option maxRecDepth 100000 in
theorem in_k1 (a : Int) (o : ObjV) (A : Option Addr) (c : Nat) (P : Nat → Prop) (w : World) (ho : ObjOk w o A P) (ht : TextsAt w) (hv : validS ⟨1, a⟩ = true) :
    Calls Tryd.prog 29 #[o.val A c, ScV.val ⟨1, a⟩] w fun e w' => e = .returned (.bool (!namedP o.parts)) ∧ Below w.heap.size w w' := by
  have HV := Lib.hid hv
  clear hv
  obtain ⟨hib, hbw⟩ := inBase w o A c P ⟨1, a⟩ ho ht
  obtain ⟨B, n, m, hlab⟩ := ho.lab
  have HBW := Lib.hid hbw
  unfold ObjV.val ScV.val
  unfold ObjV.cells at hib HBW
  rw [hlab] at hib HBW ⊢
  obtain ⟨W, hW⟩ : ∃ W, ((w.alloc (.cells #[.string o.path, .string o.name, .slice B n m, .int .i64 o.prio, .int .i64 o.dl, .slice A o.parts.length c, .int .i64 o.ver] 58)).alloc (.cells #[.int .i64 1, .int .i64 a] 54)) = W := ⟨_, rfl⟩
  have HWE := Lib.hid hW
  rw [hW] at hib HBW
  have hob := fun z : BW W => hib.obj.below z.h
  have x0 := fun z => (hob z).c0
  have x1 := fun z => (hob z).c1
  have x2 := fun z => ((hob z).c2).trans (congrArg some hlab)
  have x3 := fun z => (hob z).c3
  have x4 := fun z => (hob z).c4
  have x5 := fun z => (hob z).c5
  have x6 := fun z => (hob z).c6
  have y0 := fun z : BW W => (z.h.cell (p := ⟨w.heap.size + 1, 0, none⟩) (World.block_lt_of_cell? W _ hib.s0)).trans hib.s0
  have y1 := fun z : BW W => (z.h.cell (p := ⟨w.heap.size + 1, 1, none⟩) (World.block_lt_of_cell? W _ hib.s1)).trans hib.s1
  have HIB := Lib.hid hib
  have HLAB := Lib.hid hlab
  have hfld : ∀ W', (Instr.field 105 (.agg #[.string (textK 1), .func (.func 89) #[] #[]]) 1).run Tryd.prog W' = .ok (.func (.func 89) #[] #[]) W' := fun W' => by kernel_rfl
  go_enter Tryd.func29, Tryd.ntmps29
  go_upto_region 1 with fail
  clear hob hW hbw hib hlab
  refine wp_region_pure (by kernel_rfl) (by kernel_rfl) ?_
  repeat (first | go_big_quiet_step (first | (go_at_call 28; exact Calls.pure_of (valid_val ⟨1, a⟩ true HV _)) | (go_at_call 65; exact Calls.pure_of (kind_val (kindOf1 _ (HIB.out.txt.below (BW.h _))))) | (go_at_call 89; exact Calls.pure_of (kf_val1 o A c P a B n m HLAB.out _ (HIB.out.ok.below (BW.h _))))) | quiet_step (first | (go_at_call 28; exact Calls.pure_of (valid_val ⟨1, a⟩ true HV _)) | (go_at_call 65; exact Calls.pure_of (kind_val (kindOf1 _ (HIB.out.txt.below (BW.h _))))) | (go_at_call 89; exact Calls.pure_of (kf_val1 o A c P a B n m HLAB.out _ (HIB.out.ok.below (BW.h _))))))
  refine wpQuiet_nil ?_
  rintro _ ⟨z, rfl⟩
  go_wp2
  go_ret
  exact ⟨rfl, HBW.out.trans (z.h.mono HBW.out.size)⟩
theorem kf_val2 (o : ObjV) (A : Option Addr) (c : Nat) (P : Nat → Prop) (a : Int) (B : Option Addr) (n m : Nat) (hl : o.labels = .slice B n m) (w : World) (ho : ObjOk w o A P) :
    Calls Tryd.prog 91 #[.agg #[.string o.path, .string o.name, .slice B n m, .int .i64 o.prio, .int .i64 o.dl, .slice A o.parts.length c, .int .i64 o.ver], .int .i64 a] w fun e w' => e = .returned (.bool (namedP o.parts)) ∧ Below w.heap.size w w' := by
  have := kf2_any o A c P a w ho
  unfold ObjV.val at this
  rw [hl] at this; exact this
set_option maxRecDepth 100000 in
theorem in_k2 (a : Int) (o : ObjV) (A : Option Addr) (c : Nat) (P : Nat → Prop) (w : World) (ho : ObjOk w o A P) (ht : TextsAt w) (hv : validS ⟨2, a⟩ = true) :
    Calls Tryd.prog 29 #[o.val A c, ScV.val ⟨2, a⟩] w fun e w' => e = .returned (.bool (namedP o.parts)) ∧ Below w.heap.size w w' := by
  have HV := Lib.hid hv
  clear hv
  obtain ⟨hib, hbw⟩ := inBase w o A c P ⟨2, a⟩ ho ht
  obtain ⟨B, n, m, hlab⟩ := ho.lab
  have HBW := Lib.hid hbw
  unfold ObjV.val ScV.val
  unfold ObjV.cells at hib HBW
  rw [hlab] at hib HBW ⊢
  obtain ⟨W, hW⟩ : ∃ W, ((w.alloc (.cells #[.string o.path, .string o.name, .slice B n m, .int .i64 o.prio, .int .i64 o.dl, .slice A o.parts.length c, .int .i64 o.ver] 58)).alloc (.cells #[.int .i64 2, .int .i64 a] 54)) = W := ⟨_, rfl⟩
  have HWE := Lib.hid hW
  rw [hW] at hib HBW
  have hob := fun z : BW W => hib.obj.below z.h
  have x0 := fun z => (hob z).c0
  have x1 := fun z => (hob z).c1
  have x2 := fun z => ((hob z).c2).trans (congrArg some hlab)
  have x3 := fun z => (hob z).c3
  have x4 := fun z => (hob z).c4
  have x5 := fun z => (hob z).c5
  have x6 := fun z => (hob z).c6
  have y0 := fun z : BW W => (z.h.cell (p := ⟨w.heap.size + 1, 0, none⟩) (World.block_lt_of_cell? W _ hib.s0)).trans hib.s0
  have y1 := fun z : BW W => (z.h.cell (p := ⟨w.heap.size + 1, 1, none⟩) (World.block_lt_of_cell? W _ hib.s1)).trans hib.s1
  have HIB := Lib.hid hib
  have HLAB := Lib.hid hlab
  have hfld : ∀ W', (Instr.field 105 (.agg #[.string (textK 2), .func (.func 91) #[] #[]]) 1).run Tryd.prog W' = .ok (.func (.func 91) #[] #[]) W' := fun W' => by kernel_rfl
  go_enter Tryd.func29, Tryd.ntmps29
  go_upto_region 1 with fail
  clear hob hW hbw hib hlab
  refine wp_region_pure (by kernel_rfl) (by kernel_rfl) ?_
  repeat (first | go_big_quiet_step (first | (go_at_call 28; exact Calls.pure_of (valid_val ⟨2, a⟩ true HV _)) | (go_at_call 65; exact Calls.pure_of (kind_val (kindOf2 _ (HIB.out.txt.below (BW.h _))))) | (go_at_call 91; exact Calls.pure_of (kf_val2 o A c P a B n m HLAB.out _ (HIB.out.ok.below (BW.h _))))) | quiet_step (first | (go_at_call 28; exact Calls.pure_of (valid_val ⟨2, a⟩ true HV _)) | (go_at_call 65; exact Calls.pure_of (kind_val (kindOf2 _ (HIB.out.txt.below (BW.h _))))) | (go_at_call 91; exact Calls.pure_of (kf_val2 o A c P a B n m HLAB.out _ (HIB.out.ok.below (BW.h _))))))
  refine wpQuiet_nil ?_
  rintro _ ⟨z, rfl⟩
  go_wp2
  go_ret
  exact ⟨rfl, HBW.out.trans (z.h.mono HBW.out.size)⟩
theorem kf_val3 (o : ObjV) (A : Option Addr) (c : Nat) (P : Nat → Prop) (a : Int) (B : Option Addr) (n m : Nat) (hl : o.labels = .slice B n m) (w : World) (ho : ObjOk w o A P) :
    Calls Tryd.prog 92 #[.agg #[.string o.path, .string o.name, .slice B n m, .int .i64 o.prio, .int .i64 o.dl, .slice A o.parts.length c, .int .i64 o.ver], .int .i64 a] w fun e w' => e = .returned (.bool (decide (o.dl > 0))) ∧ Below w.heap.size w w' := by
  have := kf3_any o A c P a w ho
  unfold ObjV.val at this
  rw [hl] at this; exact this
set_option maxRecDepth 100000 in
theorem in_k3 (a : Int) (o : ObjV) (A : Option Addr) (c : Nat) (P : Nat → Prop) (w : World) (ho : ObjOk w o A P) (ht : TextsAt w) (hv : validS ⟨3, a⟩ = true) :
    Calls Tryd.prog 29 #[o.val A c, ScV.val ⟨3, a⟩] w fun e w' => e = .returned (.bool (decide (o.dl > 0))) ∧ Below w.heap.size w w' := by
  have HV := Lib.hid hv
  clear hv
  obtain ⟨hib, hbw⟩ := inBase w o A c P ⟨3, a⟩ ho ht
  obtain ⟨B, n, m, hlab⟩ := ho.lab
  have HBW := Lib.hid hbw
  unfold ObjV.val ScV.val
  unfold ObjV.cells at hib HBW
  rw [hlab] at hib HBW ⊢
  obtain ⟨W, hW⟩ : ∃ W, ((w.alloc (.cells #[.string o.path, .string o.name, .slice B n m, .int .i64 o.prio, .int .i64 o.dl, .slice A o.parts.length c, .int .i64 o.ver] 58)).alloc (.cells #[.int .i64 3, .int .i64 a] 54)) = W := ⟨_, rfl⟩
  have HWE := Lib.hid hW
  rw [hW] at hib HBW
  have hob := fun z : BW W => hib.obj.below z.h
  have x0 := fun z => (hob z).c0
  have x1 := fun z => (hob z).c1
  have x2 := fun z => ((hob z).c2).trans (congrArg some hlab)
  have x3 := fun z => (hob z).c3
  have x4 := fun z => (hob z).c4
  have x5 := fun z => (hob z).c5
  have x6 := fun z => (hob z).c6
  have y0 := fun z : BW W => (z.h.cell (p := ⟨w.heap.size + 1, 0, none⟩) (World.block_lt_of_cell? W _ hib.s0)).trans hib.s0
  have y1 := fun z : BW W => (z.h.cell (p := ⟨w.heap.size + 1, 1, none⟩) (World.block_lt_of_cell? W _ hib.s1)).trans hib.s1
  have HIB := Lib.hid hib
  have HLAB := Lib.hid hlab
  have hfld : ∀ W', (Instr.field 105 (.agg #[.string (textK 3), .func (.func 92) #[] #[]]) 1).run Tryd.prog W' = .ok (.func (.func 92) #[] #[]) W' := fun W' => by kernel_rfl
  go_enter Tryd.func29, Tryd.ntmps29
  go_upto_region 1 with fail
  clear hob hW hbw hib hlab
  refine wp_region_pure (by kernel_rfl) (by kernel_rfl) ?_
  repeat (first | go_big_quiet_step (first | (go_at_call 28; exact Calls.pure_of (valid_val ⟨3, a⟩ true HV _)) | (go_at_call 65; exact Calls.pure_of (kind_val (kindOf3 _ (HIB.out.txt.below (BW.h _))))) | (go_at_call 92; exact Calls.pure_of (kf_val3 o A c P a B n m HLAB.out _ (HIB.out.ok.below (BW.h _))))) | quiet_step (first | (go_at_call 28; exact Calls.pure_of (valid_val ⟨3, a⟩ true HV _)) | (go_at_call 65; exact Calls.pure_of (kind_val (kindOf3 _ (HIB.out.txt.below (BW.h _))))) | (go_at_call 92; exact Calls.pure_of (kf_val3 o A c P a B n m HLAB.out _ (HIB.out.ok.below (BW.h _))))))
  refine wpQuiet_nil ?_
  rintro _ ⟨z, rfl⟩
  go_wp2
  go_ret
  exact ⟨rfl, HBW.out.trans (z.h.mono HBW.out.size)⟩
theorem kf_val4 (o : ObjV) (A : Option Addr) (c : Nat) (P : Nat → Prop) (a : Int) (B : Option Addr) (n m : Nat) (hl : o.labels = .slice B n m) (w : World) (ho : ObjOk w o A P) :
    Calls Tryd.prog 93 #[.agg #[.string o.path, .string o.name, .slice B n m, .int .i64 o.prio, .int .i64 o.dl, .slice A o.parts.length c, .int .i64 o.ver], .int .i64 a] w fun e w' => e = .returned (.bool (decide (o.dl ≤ 0))) ∧ Below w.heap.size w w' := by
  have := kf4_any o A c P a w ho
  unfold ObjV.val at this
  rw [hl] at this; exact this
set_option maxRecDepth 100000 in
theorem in_k4 (a : Int) (o : ObjV) (A : Option Addr) (c : Nat) (P : Nat → Prop) (w : World) (ho : ObjOk w o A P) (ht : TextsAt w) (hv : validS ⟨4, a⟩ = true) :
    Calls Tryd.prog 29 #[o.val A c, ScV.val ⟨4, a⟩] w fun e w' => e = .returned (.bool (decide (o.dl ≤ 0))) ∧ Below w.heap.size w w' := by
  have HV := Lib.hid hv
  clear hv
  obtain ⟨hib, hbw⟩ := inBase w o A c P ⟨4, a⟩ ho ht
  obtain ⟨B, n, m, hlab⟩ := ho.lab
  have HBW := Lib.hid hbw
  unfold ObjV.val ScV.val
  unfold ObjV.cells at hib HBW
  rw [hlab] at hib HBW ⊢
  obtain ⟨W, hW⟩ : ∃ W, ((w.alloc (.cells #[.string o.path, .string o.name, .slice B n m, .int .i64 o.prio, .int .i64 o.dl, .slice A o.parts.length c, .int .i64 o.ver] 58)).alloc (.cells #[.int .i64 4, .int .i64 a] 54)) = W := ⟨_, rfl⟩
  have HWE := Lib.hid hW
  rw [hW] at hib HBW
  have hob := fun z : BW W => hib.obj.below z.h
  have x0 := fun z => (hob z).c0
  have x1 := fun z => (hob z).c1
  have x2 := fun z => ((hob z).c2).trans (congrArg some hlab)
  have x3 := fun z => (hob z).c3
  have x4 := fun z => (hob z).c4
  have x5 := fun z => (hob z).c5
  have x6 := fun z => (hob z).c6
  have y0 := fun z : BW W => (z.h.cell (p := ⟨w.heap.size + 1, 0, none⟩) (World.block_lt_of_cell? W _ hib.s0)).trans hib.s0
  have y1 := fun z : BW W => (z.h.cell (p := ⟨w.heap.size + 1, 1, none⟩) (World.block_lt_of_cell? W _ hib.s1)).trans hib.s1
  have HIB := Lib.hid hib
  have HLAB := Lib.hid hlab
  have hfld : ∀ W', (Instr.field 105 (.agg #[.string (textK 4), .func (.func 93) #[] #[]]) 1).run Tryd.prog W' = .ok (.func (.func 93) #[] #[]) W' := fun W' => by kernel_rfl
  go_enter Tryd.func29, Tryd.ntmps29
  go_upto_region 1 with fail
  clear hob hW hbw hib hlab
  refine wp_region_pure (by kernel_rfl) (by kernel_rfl) ?_
  repeat (first | go_big_quiet_step (first | (go_at_call 28; exact Calls.pure_of (valid_val ⟨4, a⟩ true HV _)) | (go_at_call 65; exact Calls.pure_of (kind_val (kindOf4 _ (HIB.out.txt.below (BW.h _))))) | (go_at_call 93; exact Calls.pure_of (kf_val4 o A c P a B n m HLAB.out _ (HIB.out.ok.below (BW.h _))))) | quiet_step (first | (go_at_call 28; exact Calls.pure_of (valid_val ⟨4, a⟩ true HV _)) | (go_at_call 65; exact Calls.pure_of (kind_val (kindOf4 _ (HIB.out.txt.below (BW.h _))))) | (go_at_call 93; exact Calls.pure_of (kf_val4 o A c P a B n m HLAB.out _ (HIB.out.ok.below (BW.h _))))))
  refine wpQuiet_nil ?_
  rintro _ ⟨z, rfl⟩
  go_wp2
  go_ret
  exact ⟨rfl, HBW.out.trans (z.h.mono HBW.out.size)⟩
theorem kf_val5 (o : ObjV) (A : Option Addr) (c : Nat) (P : Nat → Prop) (a : Int) (B : Option Addr) (n m : Nat) (hl : o.labels = .slice B n m) (w : World) (ho : ObjOk w o A P) :
    Calls Tryd.prog 94 #[.agg #[.string o.path, .string o.name, .slice B n m, .int .i64 o.prio, .int .i64 o.dl, .slice A o.parts.length c, .int .i64 o.ver], .int .i64 a] w fun e w' => e = .returned (.bool ((o.prio == a))) ∧ Below w.heap.size w w' := by
  have := kf5_any o A c P a w ho
  unfold ObjV.val at this
  rw [hl] at this; exact this
set_option maxRecDepth 100000 in
theorem in_k5 (a : Int) (o : ObjV) (A : Option Addr) (c : Nat) (P : Nat → Prop) (w : World) (ho : ObjOk w o A P) (ht : TextsAt w) (hv : validS ⟨5, a⟩ = true) :
    Calls Tryd.prog 29 #[o.val A c, ScV.val ⟨5, a⟩] w fun e w' => e = .returned (.bool ((o.prio == a))) ∧ Below w.heap.size w w' := by
  have HV := Lib.hid hv
  clear hv
  obtain ⟨hib, hbw⟩ := inBase w o A c P ⟨5, a⟩ ho ht
  obtain ⟨B, n, m, hlab⟩ := ho.lab
  have HBW := Lib.hid hbw
  unfold ObjV.val ScV.val
  unfold ObjV.cells at hib HBW
  rw [hlab] at hib HBW ⊢
  obtain ⟨W, hW⟩ : ∃ W, ((w.alloc (.cells #[.string o.path, .string o.name, .slice B n m, .int .i64 o.prio, .int .i64 o.dl, .slice A o.parts.length c, .int .i64 o.ver] 58)).alloc (.cells #[.int .i64 5, .int .i64 a] 54)) = W := ⟨_, rfl⟩
  have HWE := Lib.hid hW
  rw [hW] at hib HBW
  have hob := fun z : BW W => hib.obj.below z.h
  have x0 := fun z => (hob z).c0
  have x1 := fun z => (hob z).c1
  have x2 := fun z => ((hob z).c2).trans (congrArg some hlab)
  have x3 := fun z => (hob z).c3
  have x4 := fun z => (hob z).c4
  have x5 := fun z => (hob z).c5
  have x6 := fun z => (hob z).c6
  have y0 := fun z : BW W => (z.h.cell (p := ⟨w.heap.size + 1, 0, none⟩) (World.block_lt_of_cell? W _ hib.s0)).trans hib.s0
  have y1 := fun z : BW W => (z.h.cell (p := ⟨w.heap.size + 1, 1, none⟩) (World.block_lt_of_cell? W _ hib.s1)).trans hib.s1
  have HIB := Lib.hid hib
  have HLAB := Lib.hid hlab
  have hfld : ∀ W', (Instr.field 105 (.agg #[.string (textK 5), .func (.func 94) #[] #[]]) 1).run Tryd.prog W' = .ok (.func (.func 94) #[] #[]) W' := fun W' => by kernel_rfl
  go_enter Tryd.func29, Tryd.ntmps29
  go_upto_region 1 with fail
  clear hob hW hbw hib hlab
  refine wp_region_pure (by kernel_rfl) (by kernel_rfl) ?_
  repeat (first | go_big_quiet_step (first | (go_at_call 28; exact Calls.pure_of (valid_val ⟨5, a⟩ true HV _)) | (go_at_call 65; exact Calls.pure_of (kind_val (kindOf5 _ (HIB.out.txt.below (BW.h _))))) | (go_at_call 94; exact Calls.pure_of (kf_val5 o A c P a B n m HLAB.out _ (HIB.out.ok.below (BW.h _))))) | quiet_step (first | (go_at_call 28; exact Calls.pure_of (valid_val ⟨5, a⟩ true HV _)) | (go_at_call 65; exact Calls.pure_of (kind_val (kindOf5 _ (HIB.out.txt.below (BW.h _))))) | (go_at_call 94; exact Calls.pure_of (kf_val5 o A c P a B n m HLAB.out _ (HIB.out.ok.below (BW.h _))))))
  refine wpQuiet_nil ?_
  rintro _ ⟨z, rfl⟩
  go_wp2
  go_ret
  exact ⟨rfl, HBW.out.trans (z.h.mono HBW.out.size)⟩
set_option maxRecDepth 100000 in
theorem in_bad (s : ScV) (o : ObjV) (A : Option Addr) (c : Nat) (P : Nat → Prop) (w : World) (ho : ObjOk w o A P) (ht : TextsAt w) (hv : validS s = false) :
    Calls Tryd.prog 29 #[o.val A c, s.val] w fun e w' => e = .returned (.bool false) ∧ Below w.heap.size w w' := by
  have HV := Lib.hid hv
  clear hv
  obtain ⟨k, a⟩ := s
  obtain ⟨hib, hbw⟩ := inBase w o A c P ⟨k, a⟩ ho ht
  obtain ⟨B, n, m, hlab⟩ := ho.lab
  have HBW := Lib.hid hbw
  unfold ObjV.val ScV.val
  unfold ObjV.cells at hib HBW
  rw [hlab] at hib HBW ⊢
  obtain ⟨W, hW⟩ : ∃ W, ((w.alloc (.cells #[.string o.path, .string o.name, .slice B n m, .int .i64 o.prio, .int .i64 o.dl, .slice A o.parts.length c, .int .i64 o.ver] 58)).alloc (.cells #[.int .i64 k, .int .i64 a] 54)) = W := ⟨_, rfl⟩
  rw [hW] at hib HBW
  have y0 := fun z : BW W => (z.h.cell (p := ⟨w.heap.size + 1, 0, none⟩) (World.block_lt_of_cell? W _ hib.s0)).trans hib.s0
  have y1 := fun z : BW W => (z.h.cell (p := ⟨w.heap.size + 1, 1, none⟩) (World.block_lt_of_cell? W _ hib.s1)).trans hib.s1
  go_enter Tryd.func29, Tryd.ntmps29
  go_upto_region 1 with fail
  clear hW hbw hib hlab
  refine wp_region_pure (by kernel_rfl) (by kernel_rfl) ?_
  repeat (first | go_big_quiet_step ((go_at_call 28; exact Calls.pure_of (valid_val ⟨k, a⟩ false HV _))) | quiet_step ((go_at_call 28; exact Calls.pure_of (valid_val ⟨k, a⟩ false HV _))))
  refine wpQuiet_nil ?_
  rintro _ ⟨z, rfl⟩
  go_wp2
  go_ret
  exact ⟨rfl, HBW.out.trans (z.h.mono HBW.out.size)⟩
theorem validS_kinds {k a : Int} (h : validS ⟨k, a⟩ = true) : k = 0 ∨ k = 1 ∨ k = 2 ∨ k = 3 ∨ k = 4 ∨ k = 5 := by
  unfold validS at h
  split at h
  · cases h
  · simp only at *; omega
theorem in_any (s : ScV) (o : ObjV) (A : Option Addr) (c : Nat) (P : Nat → Prop) (w : World) (ho : ObjOk w o A P) (ht : TextsAt w) :
    Calls Tryd.prog 29 #[o.val A c, s.val] w fun e w' => e = .returned (.bool (inS o.prio o.dl o.parts s)) ∧ Below w.heap.size w w' := by
  obtain ⟨k, a⟩ := s
  cases hv : validS ⟨k, a⟩
  · have := in_bad ⟨k, a⟩ o A c P w ho ht hv
    unfold inS; rw [hv]; exact this
  · unfold inS
    rw [hv, Bool.true_and]
    rcases validS_kinds hv with rfl | rfl | rfl | rfl | rfl | rfl
    · exact in_k0 a o A c P w ho ht hv
    · exact in_k1 a o A c P w ho ht hv
    · exact in_k2 a o A c P w ho ht hv
    · exact in_k3 a o A c P w ho ht hv
    · exact in_k4 a o A c P w ho ht hv
    · have := in_k5 a o A c P w ho ht hv
      have e : liesS o.prio o.dl o.parts ⟨5, a⟩ = (o.prio == a) := by
        unfold liesS
        rw [Bool.eq_iff_iff]; simp
      rw [e]; exact this
end Go.Proofs.YtdchffghgajbfaaDoor
