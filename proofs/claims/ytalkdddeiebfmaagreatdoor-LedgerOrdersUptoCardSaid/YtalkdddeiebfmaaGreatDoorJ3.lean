/- The ledger in memory: both maps behind a pointer; New, Used, Count. -/
import Derived.Test.YtalkdddeiebfmaaGreatDoorJ2
import Derived.Deep.RegionHeld3
import Derived.Deep.RegionLaw
namespace Go.Proofs.YtalkdddeiebfmaaGreatDoor
open Go.RowKit Go.Maps Go.WideMaps

def StOk (s : ByteArray) : Prop := s.size ≤ maxLen
theorem st_key (s : ByteArray) (h : StOk s) : keyOf Tryz.prog 9 (.string s) = some (.string s.data.toList) := key_of _ s (data_mkB s).symm (by rw [data_len]; exact h)
theorem stLit_inj {s t : ByteArray} (h : Lit.string s.data.toList = Lit.string t.data.toList) : s = t := bytes_inj (by injection h)
/-- a map of counts -/
structure Cnts (w : World) (b n : Nat) (C : ByteArray → Int) (h : ByteArray → Bool) : Prop where
  ex : ∃ D : DataW Unit, w.ownsMap Tryz.prog 9 (plainElem Tryz.prog 3) b n D ∧ (∀ x, StOk x → D.atKey (.string x.data.toList) z64 = i64D (C x)) ∧ ∀ x, StOk x → Maps.has D (.string x.data.toList) = h x
theorem Cnts.same {w w' : World} {b n : Nat} {S : ByteArray → Int} {h : ByteArray → Bool} (k : Cnts w b n S h) (hb : w'.heap[b]? = w.heap[b]?) : Cnts w' b n S h :=
  let ⟨D, h1, h2, h3⟩ := k.ex; ⟨D, ownsMap_same h1 hb, h2, h3⟩
theorem Cnts.lt {w : World} {b n : Nat} {S : ByteArray → Int} {h : ByteArray → Bool} (k : Cnts w b n S h) : b < w.heap.size := let ⟨_, h1, _⟩ := k.ex; h1.lt
theorem zeroInt' (w : World) : (zeroValue 3).run Tryz.prog w = .ok (.int .i64 0) w := by kernel_rfl
section
variable {w : World} {b n : Nat} {C : ByteArray → Int} {h : ByteArray → Bool}
theorem Cnts.look (k : Cnts w b n C h) {x : ByteArray} (hx : StOk x) : (Instr.lookup 75 (.map (some b)) (.string x) false).run Tryz.prog w = .ok (.int .i64 (C x)) w := by
  obtain ⟨D, h1, h2, h3⟩ := k.ex
  obtain ⟨c, hrun, hat, _⟩ := h1.lookup_int strLaw Tryz.underlying75 Tryz.underlying3 (zeroInt' w) (st_key x hx)
  have e : c = C x := by
    have := hat.symm.trans (h2 x hx)
    simpa [i64D] using this
  rw [hrun, e]
theorem Cnts.store (k : Cnts w b n C h) {x : ByteArray} (hx : StOk x) (hn : n < maxLen) {v : Int} (hv : in64 v) :
    ∃ w', (Instr.mapUpdate 75 (.map (some b)) (.string x) (.int .i64 v)).run Tryz.prog w = .ok () w' ∧ Cnts w' b (n + 1) (upd C x v) (upd h x true) ∧ w.grownBy w' (some b) ∧ w'.heap.size = w.heap.size := by
  obtain ⟨D, h1, h2, h3⟩ := k.ex
  obtain ⟨w', r1, r2, r3⟩ := h1.store strLaw Tryz.underlying75 hn (st_key x hx) (plainElem_int Tryz.underlying3 (in64_wf hv))
  have hk := strLaw.key (st_key x hx)
  refine ⟨w', r1, ⟨_, r2, fun y hy => ?_, fun y hy => ?_⟩, r3.grown, ?_⟩
  · by_cases e : y = x
    · subst e; rw [upd_same, atKey_put_same h1.isMap hk]
    · rw [upd_other _ _ e, atKey_put_other (fun e2 => e (stLit_inj e2)), h2 y hy]
  · by_cases e : y = x
    · subst e; rw [upd_same, has_put_same h1.isMap hk]
    · rw [upd_other _ _ e, has_put_other (fun e2 => e (stLit_inj e2)), h3 y hy]
  · obtain ⟨es, clock, es', clock', hb, rfl⟩ := r3
    simp [Go.ChangeMaps.setBlock]
theorem Cnts.drop (k : Cnts w b n C h) {x : ByteArray} (hx : StOk x) (ty : TypeId) : ∃ w', (Builtin.delete_ #[75, 9] ty #[.map (some b), .string x]).run Tryz.prog w = .ok (.tuple #[]) w' ∧ Cnts w' b n (upd C x 0) (upd h x false) ∧ w.grownBy w' (some b) ∧ w'.heap.size = w.heap.size := by
  obtain ⟨D, h1, h2, h3⟩ := k.ex
  obtain ⟨w', r1, r2, r3⟩ := h1.drop strLaw Tryz.underlying75 (st_key x hx) ty
  refine ⟨w', r1, ⟨_, r2, fun y hy => ?_, fun y hy => ?_⟩, r3.grown, ?_⟩
  · by_cases e : y = x
    · subst e; rw [upd_same, atKey_del_same]
    · rw [upd_other _ _ e, atKey_del_other (fun e2 => e (stLit_inj e2)), h2 y hy]
  · by_cases e : y = x
    · subst e; rw [upd_same, has_del_same]
    · rw [upd_other _ _ e, has_del_other (fun e2 => e (stLit_inj e2)), h3 y hy]
  · obtain ⟨es, clock, es', clock', hb, rfl⟩ := r3
    simp [Go.ChangeMaps.setBlock]
end
/-- a ledger: the blocks of its struct and its two maps; an entry stands just where a sum or count is not 0 -/
structure IsLed (w : World) (g b1 b2 n : Nat) (S : Pl → Int) (C : ByteArray → Int) : Prop where
  box : w.heap[g]? = some (.cells #[.map (some b1), .map (some b2)] 77 (0, 0))
  sums : Sums w b1 n S fun x => decide (S x ≠ 0)
  cnts : Cnts w b2 n C fun x => decide (C x ≠ 0)
  ne12 : b1 ≠ b2
section
variable {w w' : World} {g b1 b2 n : Nat} {S : Pl → Int} {C : ByteArray → Int}
abbrev ledB (g b1 b2 : Nat) : Nat → Prop := fun k => k = g ∨ k = b1 ∨ k = b2
theorem IsLed.move (k : IsLed w g b1 b2 n S C) (hm : ∀ i, ledB g b1 b2 i → i < w.heap.size → w'.heap[i]? = w.heap[i]?) : IsLed w' g b1 b2 n S C :=
  ⟨(hm g (.inl rfl) (Array.getElem?_eq_some_iff.1 k.box).1).trans k.box, k.sums.same (hm b1 (.inr (.inl rfl)) k.sums.lt), k.cnts.same (hm b2 (.inr (.inr rfl)) k.cnts.lt), k.ne12⟩
theorem IsLed.below (k : IsLed w g b1 b2 n S C) (hb : Below w.heap.size w w') : IsLed w' g b1 b2 n S C := k.move fun i _ hi => hb.block i hi
theorem IsLed.lt (k : IsLed w g b1 b2 n S C) : ∀ i, ledB g b1 b2 i → i < w.heap.size := by
  rintro i (rfl | rfl | rfl)
  · exact (Array.getElem?_eq_some_iff.1 k.box).1
  · exact k.sums.lt
  · exact k.cnts.lt
theorem IsLed.turn {T : Nat → Prop} (k : IsLed w g b1 b2 n S C) (ht : Turn T w w') (hs : ∀ i, ledB g b1 b2 i → ¬ T i) : IsLed w' g b1 b2 n S C := k.move fun i hi hl => ht.block i hl (hs i hi)
theorem IsLed.g0 (k : IsLed w g b1 b2 n S C) : w.cell? ⟨g, 0, none⟩ = some (.map (some b1)) := cell_of_row _ _ _ _ _ _ k.box
theorem IsLed.g1 (k : IsLed w g b1 b2 n S C) : w.cell? ⟨g, 1, none⟩ = some (.map (some b2)) := cell_of_row _ _ _ _ _ _ k.box
end
set_option maxRecDepth 100000 in
theorem new_led (w : World) : Calls Tryz.prog 20 #[] w fun e w' => ∃ g b1 b2, e = .returned (.pointer (some ⟨g, 0, none⟩)) ∧ IsLed w' g b1 b2 0 (fun _ => 0) (fun _ => 0) ∧ (∀ i, ledB g b1 b2 i → w.heap.size ≤ i) ∧ Below w.heap.size w w' := by
  have hmm := @run_makeMap Tryz.prog
  have h1 := World.ownsMap_made (H := Unit) w Tryz.prog 79 (plainElem Tryz.prog 2)
  have h2 := World.ownsMap_made (H := Unit) (w.alloc (.map #[] 0)) Tryz.prog 9 (plainElem Tryz.prog 3)
  have HK := Lib.hid (show IsLed (((w.alloc (.map #[] 0)).alloc (.map #[] 0)).alloc (.cells #[.map (some w.heap.size), .map (some (w.heap.size + 1))] 77)) (w.heap.size + 2) w.heap.size (w.heap.size + 1) 0 (fun _ => 0) (fun _ => 0) from by
    refine ⟨?_, ⟨.map [], (h1.alloc _).alloc _, fun x _ => rfl, fun x _ => rfl⟩, ⟨.map [], ?_, fun x _ => rfl, fun x _ => rfl⟩, by omega⟩
    · have := heap_alloc_new ((w.alloc (.map #[] 0)).alloc (.map #[] 0)) (.cells #[.map (some w.heap.size), .map (some (w.heap.size + 1))] 77)
      simpa using this
    · have := h2.alloc (.cells #[.map (some w.heap.size), .map (some (w.heap.size + 1))] 77)
      simpa using this)
  have HB := Lib.hid ((((Below.refl w.heap.size w).alloc (Nat.le_refl _) (.map #[] 0)).alloc (by simp) (.map #[] 0)).alloc (by simp; omega) (.cells #[.map (some w.heap.size), .map (some (w.heap.size + 1))] 77))
  clear h1 h2
  go_enter Tryz.func20, Tryz.ntmps20
  go_wp2
  go_ret
  refine ⟨_, _, _, rfl, HK.out, ?_, HB.out⟩
  rintro i (rfl | rfl | rfl) <;> omega
end Go.Proofs.YtalkdddeiebfmaaGreatDoor
