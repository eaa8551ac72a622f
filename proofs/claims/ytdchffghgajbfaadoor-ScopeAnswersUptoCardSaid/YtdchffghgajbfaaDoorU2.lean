/- scope: names, the kinds' functions, In, Of. -/
import Derived.Test.YtdchffghgajbfaaDoorU1
import Derived.Test.YtdchffghgajbfaaDoorS1
import Derived.Deep.RegionHeld3
import Derived.Deep.RegionLaw
import Derived.Deep.DeepCutAuto
namespace Go.Proofs.YtdchffghgajbfaaDoor
open Go.RowKit

/-- no part has more amounts than can be counted -/
def PartsOk (ps : List PartV) : Prop := ∀ p ∈ ps, p.req.length ≤ 1152921504606846976 ∧ p.lim.length ≤ 1152921504606846976
def namesOne (p : PartV) : Bool := decide (((p.req.length : Int) + p.lim.length) > 0)
theorem snames1_any (x : PartV) (R M : Option Addr) (cr cm : Nat) (w : World) (h1 : x.req.length ≤ 1152921504606846976) (h2 : x.lim.length ≤ 1152921504606846976) :
    Calls Tryd.prog 110 #[.agg #[.string x.name, .slice R x.req.length cr, .slice M x.lim.length cm]] w fun e w' => e = .returned (.bool (namesOne x)) ∧ Below w.heap.size w w' := by
  have hb0 := Lib.hid ((Below.refl w.heap.size w).alloc (Nat.le_refl _) (.cells #[.string x.name, .slice R x.req.length cr, .slice M x.lim.length cm] 67))
  obtain ⟨n, hn⟩ : ∃ n, x.req.length = n := ⟨_, rfl⟩
  obtain ⟨m, hm⟩ : ∃ m, x.lim.length = m := ⟨_, rfl⟩
  have HV := Lib.hid (show namesOne x = decide (((n : Int) + m) > 0) by unfold namesOne; rw [hn, hm])
  rw [hn] at h1 hb0 ⊢
  rw [hm] at h2 hb0 ⊢
  have hw : IntKind.i64.wrap ((n : Int) + m) = (n : Int) + m := by rw [IntKind.wrap_i64]; omega
  clear hn hm
  cases hd : decide (((n : Int) + m) > 0)
  · rw [hd] at HV
    go_enter Tryd.func110, Tryd.ntmps110
    go_wp2
    go_ret
    exact ⟨by rw [HV.out, ← hd]; first | rfl | (congr 2; simp), hb0.out⟩
  · rw [hd] at HV
    go_enter Tryd.func110, Tryd.ntmps110
    go_wp2
    go_ret
    exact ⟨by rw [HV.out, ← hd]; first | rfl | (congr 2; simp), hb0.out⟩
set_option maxRecDepth 100000 in
theorem partIndex_any (A : Option Addr) (c : Nat) (P : Nat → Prop) (xs : List PartV) (w : World) (hr : Row kPart P w A xs) (hn : xs.length ≤ 9223372036854775807) (hps : PartsOk xs) :
    Calls Tryd.prog 129 #[.slice A xs.length c, .func (.func 110) #[] #[]] w fun e w' => e = .returned (.int .i64 (idxFn namesOne xs)) ∧ Below w.heap.size w w' := by
  go_enter Tryd.func129, Tryd.ntmps129
  go_wp2
  go_loopw [8] (fun i wr => ∃ k : Nat, i = .int .i64 k ∧ k ≤ xs.length ∧ Below w.heap.size w wr ∧ ∀ x ∈ xs.take k, namesOne x = false) (fun i _ => xs.length - (intOf i).toNat)
  case atStart => exact ⟨0, rfl, Nat.zero_le _, Below.refl _ _, by simp⟩
  case round =>
    obtain ⟨k, rfl, hk, hbr, hall⟩ := hrel
    by_cases hlt : k < xs.length
    · obtain ⟨a, R, M, cr, cm, rfl, ⟨e0, e1, e2, _, _, q1, q2⟩⟩ := part_at (hr.below hbr) k hlt
      have hsn : ∀ (b : Bool), namesOne xs[k] = b → (b = false → ∀ x ∈ xs.take (k + 1), namesOne x = false) ∧ (b = true → idxFn namesOne xs = k) := by
        rintro b rfl
        refine ⟨fun h x hx => ?_, fun h => idxFn_some hlt hall h⟩
        rw [List.take_succ_eq_append_getElem hlt] at hx
        rcases List.mem_append.1 hx with hx | hx
        · exact hall x hx
        · rw [List.mem_singleton.1 hx]; exact h
      have HS := Lib.hid hsn
      obtain ⟨hq1, hq2⟩ := hps xs[k] (List.getElem_mem _)
      have HC := Lib.hid (snames1_any xs[k] R M cr cm wr hq1 hq2)
      clear hsn hall q1 q2 hq1 hq2
      cases hv : namesOne xs[k]
      · have HV := Lib.hid hv
        clear hv
        go_wp2_with (go_at_call 110; refine HC.out.mono ?_; rintro e w2 ⟨rfl, hb2⟩; rw [HV.out])
        go_roundw
        case rel => exact ⟨k + 1, by go_num, hlt, hbr.trans (hb2.mono hbr.size), (HS.out _ HV.out).1 rfl⟩
        case measure => simp [intOf]; omega
      · have HV := Lib.hid hv
        clear hv
        go_wp2_with (go_at_call 110; refine HC.out.mono ?_; rintro e w2 ⟨rfl, hb2⟩; rw [HV.out])
        go_ret
        exact ⟨by rw [(HS.out _ HV.out).2 rfl]; rfl, hbr.trans (hb2.mono hbr.size)⟩
    · have HI := Lib.hid (idxFn_none (p := namesOne) (xs := xs) (by rw [List.take_of_length_le (by omega)] at hall; exact hall))
      clear hall
      go_wp2
      go_ret
      exact ⟨by rw [HI.out]; rfl, hbr⟩
theorem idxFn_any {α : Type} (p : α → Bool) (xs : List α) : decide (idxFn p xs ≥ 0) = xs.any p := by
  unfold idxFn
  cases h : xs.findIdx? p with
  | none =>
    rw [List.findIdx?_eq_none_iff] at h
    have : xs.any p = false := by rw [List.any_eq_false]; intro x hx; simp [h x hx]
    rw [this]; rfl
  | some i =>
    have hi := List.findIdx?_eq_some_iff_getElem.1 h
    obtain ⟨h1, h2, _⟩ := hi
    have : xs.any p = true := List.any_eq_true.2 ⟨xs[i], List.getElem_mem _, h2⟩
    rw [this]; simp
theorem partContains_any (A : Option Addr) (c : Nat) (P : Nat → Prop) (xs : List PartV) (w : World) (hr : Row kPart P w A xs) (hn : xs.length ≤ 9223372036854775807) (hps : PartsOk xs) :
    Calls Tryd.prog 109 #[.slice A xs.length c, .func (.func 110) #[] #[]] w fun e w' => e = .returned (.bool (namedP xs)) ∧ Below w.heap.size w w' := by
  have HI := Lib.hid (show decide (idxFn namesOne xs ≥ 0) = namedP xs from idxFn_any namesOne xs)
  obtain ⟨n, hn2⟩ : ∃ n, idxFn namesOne xs = n := ⟨_, rfl⟩
  have HC := Lib.hid (partIndex_any A c P xs w hr hn hps)
  rw [hn2] at HC HI
  clear hn2
  go_enter Tryd.func109, Tryd.ntmps109
  go_wp2_with (go_at_call 129; refine HC.out.mono ?_; rintro e w2 ⟨rfl, hb2⟩)
  go_ret
  exact ⟨by rw [← HI.out]; rfl, hb2⟩

/-- an object's value: its seven fields -/
structure ObjV where
  path : ByteArray
  name : ByteArray
  labels : Value
  prio : Int
  dl : Int
  parts : List PartV
  ver : Int
def ObjV.val (o : ObjV) (A : Option Addr) (c : Nat) : Value := .agg #[.string o.path, .string o.name, o.labels, .int .i64 o.prio, .int .i64 o.dl, .slice A o.parts.length c, .int .i64 o.ver]
theorem snames_any (o : ObjV) (A : Option Addr) (c : Nat) (P : Nat → Prop) (w : World) (hl : ∃ B n m, o.labels = .slice B n m) (hr : Row kPart P w A o.parts) (hn : o.parts.length ≤ 9223372036854775807) (hps : PartsOk o.parts) :
    Calls Tryd.prog 90 #[o.val A c] w fun e w' => e = .returned (.bool (namedP o.parts)) ∧ Below w.heap.size w w' := by
  obtain ⟨B, n, m, hlab⟩ := hl
  unfold ObjV.val
  rw [hlab]
  have hb0 := (Below.refl w.heap.size w).alloc (Nat.le_refl _) (.cells #[.string o.path, .string o.name, .slice B n m, .int .i64 o.prio, .int .i64 o.dl, .slice A o.parts.length c, .int .i64 o.ver] 58)
  have HB0 := Lib.hid hb0
  have HC := Lib.hid (partContains_any A c P o.parts _ (hr.below hb0) hn hps)
  clear hb0
  go_enter Tryd.func90, Tryd.ntmps90
  go_wp2_with (go_at_call 109; refine HC.out.mono ?_; rintro e w2 ⟨rfl, hb2⟩)
  go_ret
  exact ⟨rfl, HB0.out.trans (hb2.mono HB0.out.size)⟩
end Go.Proofs.YtdchffghgajbfaaDoor
