/- The law ScopeWithin: the walk. -/
import Derived.Test.YtdchffghgajbfaaDoorW6
namespace Go.Proofs.YtdchffghgajbfaaDoor
open Go.RowKit

def nmParts : List PartV := [⟨⟨#[]⟩, [⟨cpuB, 0⟩], []⟩]
def xObj (p d : Int) (ps : List PartV) : ObjV := ⟨⟨#[]⟩, ⟨#[]⟩, .slice none 0 0, p, d, ps, 0⟩
/-- one of two simple objects lies in a and not in b -/
def condPD (a b : ScV) (p d : Nat) : Bool := (inS p d [] a && !inS p d [] b) || (inS p d nmParts a && !inS p d nmParts b)
theorem valid_mem {s : ScV} (h : validS s = true) : s ∈ allS := by
  obtain ⟨k, a⟩ := s
  have hk := validS_kinds h
  have : (k = 5 ∧ 0 ≤ a ∧ a < 10) ∨ (0 ≤ k ∧ k < 5 ∧ a = 0) := by
    unfold validS at h
    rcases hk with rfl | rfl | rfl | rfl | rfl | rfl <;> simp at h <;> omega
  rcases this with ⟨rfl, h1, h2⟩ | ⟨h1, h2, rfl⟩
  · have : a = 0 ∨ a = 1 ∨ a = 2 ∨ a = 3 ∨ a = 4 ∨ a = 5 ∨ a = 6 ∨ a = 7 ∨ a = 8 ∨ a = 9 := by omega
    rcases this with rfl | rfl | rfl | rfl | rfl | rfl | rfl | rfl | rfl | rfl <;> decide
  · have : k = 0 ∨ k = 1 ∨ k = 2 ∨ k = 3 ∨ k = 4 := by omega
    rcases this with rfl | rfl | rfl | rfl | rfl <;> decide
theorem within_law : (allS.all fun a => allS.all fun b => withinS a b || (List.range 10).any fun p => (List.range 2).any fun d => condPD a b p d) = true := by decide +kernel
theorem within_some {a b : ScV} (ha : validS a = true) (hb : validS b = true) (hw : withinS a b = false) (hn : ∀ p, p < 10 → ∀ d, d < 2 → condPD a b p d = false) : False := by
  have h := List.all_eq_true.1 (List.all_eq_true.1 within_law a (valid_mem ha)) b (valid_mem hb)
  rw [hw, Bool.false_or] at h
  obtain ⟨p, hp, h⟩ := List.any_eq_true.1 h
  obtain ⟨d, hd, h⟩ := List.any_eq_true.1 h
  rw [hn p (by simpa using hp) d (by simpa using hd)] at h
  cases h
theorem within_in {a b : ScV} {p d : Int} {ps : List PartV} (hw : withinS a b = true) (ha : inS p d ps a = true) : inS p d ps b = true := by
  unfold withinS at hw
  simp only [Bool.and_eq_true, Bool.or_eq_true, decide_eq_true_eq, beq_iff_eq] at hw
  obtain ⟨⟨h1, h2⟩, rfl | h3⟩ := hw
  · exact ha
  · unfold inS; rw [h2]; simp [liesS, h3]
theorem nm_row (w : World) : Row kPart (fun _ => True) ((w.alloc (.cells #[.string cpuB, .int .i64 0] 64)).alloc (.cells #[.string ⟨#[]⟩, .slice (some ⟨w.heap.size, 0, none⟩) 1 1, .slice none 0 0] 67)) (some ⟨w.heap.size + 1, 0, none⟩) nmParts := by
  have hs : (w.alloc (.cells #[.string cpuB, .int .i64 0] 64)).heap.size = w.heap.size + 1 := by simp
  have hb := (Below.refl (w.alloc (.cells #[.string cpuB, .int .i64 0] 64)).heap.size _).alloc (Nat.le_refl _) (.cells #[.string ⟨#[]⟩, .slice (some ⟨w.heap.size, 0, none⟩) 1 1, .slice none 0 0] 67)
  have hreq : Row kAmt (fun _ => True) (w.alloc (.cells #[.string cpuB, .int .i64 0] 64)) (some ⟨w.heap.size, 0, none⟩) [⟨cpuB, 0⟩] := Row.newOnePlain (cs := Amt.cells ⟨cpuB, 0⟩) kAmt_plain rfl
  have h1 := heap_alloc_new (w.alloc (.cells #[.string cpuB, .int .i64 0] 64)) (.cells #[.string ⟨#[]⟩, .slice (some ⟨w.heap.size, 0, none⟩) 1 1, .slice none 0 0] 67)
  rw [hs] at h1
  refine fun _ => ⟨_, rfl, trivial, [.string ⟨#[]⟩, .slice (some ⟨w.heap.size, 0, none⟩) 1 1, .slice none 0 0], Flat.single ?_, fun j u hu => by rw [add_new, cell_of_row _ _ _ _ _ _ h1]; simpa using hu⟩
  exact ⟨[.string ⟨#[]⟩], [.slice (some ⟨w.heap.size, 0, none⟩) 1 1, .slice none 0 0], rfl, rfl, [.slice (some ⟨w.heap.size, 0, none⟩) 1 1], [.slice none 0 0], rfl,
    ⟨_, rfl, _, 1, rfl, by decide, by unfold maxLen; omega, hreq.below hb⟩, ⟨_, rfl, none, 0, rfl, Nat.le_refl _, by unfold maxLen; omega, Row.nil _ _ _ _⟩⟩
theorem inx_val (s : ScV) (b : Bool) (p d : Int) (hb : Hid (inS p d [] s = b)) (w : World) (ht : TextsAt w) :
    Calls Tryd.prog 29 #[.agg #[.string ⟨#[]⟩, .string ⟨#[]⟩, .slice none 0 0, .int .i64 p, .int .i64 d, .slice none 0 0, .int .i64 0], .agg #[.int .i64 s.kind, .int .i64 s.arg]] w fun e w' => e = .returned (.bool b) ∧ Below w.heap.size w w' := by
  have := in_any s (xObj p d []) none 0 (fun _ => True) w ⟨⟨none, 0, 0, rfl⟩, Row.nil _ _ _ _, Nat.zero_le _, fun p hp => by simp [xObj] at hp⟩ ht
  rw [show inS (xObj p d []).prio (xObj p d []).dl (xObj p d []).parts s = b from hb.out] at this
  exact this
theorem iny_val (s : ScV) (b : Bool) (p d : Int) (hb : Hid (inS p d nmParts s = b)) (w : World) (ht : TextsAt w) (nb : Nat) (hr : Row kPart (fun _ => True) w (some ⟨nb, 0, none⟩) nmParts) :
    Calls Tryd.prog 29 #[.agg #[.string ⟨#[]⟩, .string ⟨#[]⟩, .slice none 0 0, .int .i64 p, .int .i64 d, .slice (some ⟨nb, 0, none⟩) 1 1, .int .i64 0], .agg #[.int .i64 s.kind, .int .i64 s.arg]] w fun e w' => e = .returned (.bool b) ∧ Below w.heap.size w w' := by
  have := in_any s (xObj p d nmParts) (some ⟨nb, 0, none⟩) 1 (fun _ => True) w ⟨⟨none, 0, 0, rfl⟩, hr, by show 1 ≤ _; omega, fun p hp => by
    obtain rfl : p = ⟨⟨#[]⟩, [⟨cpuB, 0⟩], []⟩ := by simpa [xObj, nmParts] using hp
    exact ⟨by decide, by decide⟩⟩ ht
  rw [show inS (xObj p d nmParts).prio (xObj p d nmParts).dl (xObj p d nmParts).parts s = b from hb.out] at this
  exact this
theorem within_val (a b : ScV) (r : Bool) (hr : Hid (withinS a b = r)) (w : World) : Calls Tryd.prog 27 #[.agg #[.int .i64 a.kind, .int .i64 a.arg], .agg #[.int .i64 b.kind, .int .i64 b.arg]] w fun e w' => e = .returned (.bool r) ∧ Below w.heap.size w w' := by
  have := within_any a b w
  rw [hr.out] at this
  exact this
/-- the boxes of the law's arguments; what holds while the law goes on -/
structure WLaw (W : World) (n : Nat) (a b : ScV) (o : ObjV) (A : Option Addr) (c : Nat) (ls : List LabV) : Prop where
  two : TwoSc W n (n + 1) a b
  obj : ObjAt W (n + 2) o A c
  fit : ObjFit W o A ls
  txt : TextsAt W
theorem WLaw.below {W W' : World} {n : Nat} {a b : ScV} {o : ObjV} {A : Option Addr} {c : Nat} {ls : List LabV} (h : WLaw W n a b o A c ls) (hb : Below W.heap.size W W') : WLaw W' n a b o A c ls := ⟨h.two.below hb, h.obj.below hb, h.fit.below hb, h.txt.below hb⟩
theorem wLaw (w : World) (a b : ScV) (o : ObjV) (A : Option Addr) (c : Nat) (ls : List LabV) (ht : TextsAt w) (h : ObjFit w o A ls) :
    WLaw (((w.alloc (.cells #[.int .i64 a.kind, .int .i64 a.arg] 54)).alloc (.cells #[.int .i64 b.kind, .int .i64 b.arg] 54)).alloc (.cells (o.cells A c) 58)) w.heap.size a b o A c ls ∧
    Below w.heap.size w (((w.alloc (.cells #[.int .i64 a.kind, .int .i64 a.arg] 54)).alloc (.cells #[.int .i64 b.kind, .int .i64 b.arg] 54)).alloc (.cells (o.cells A c) 58)) := by
  have h1 := twoSc w a b
  have hb1 : Below w.heap.size w ((w.alloc (.cells #[.int .i64 a.kind, .int .i64 a.arg] 54)).alloc (.cells #[.int .i64 b.kind, .int .i64 b.arg] 54)) := ((Below.refl _ _).alloc (Nat.le_refl _) _).alloc (by simp) _
  have hs : ((w.alloc (.cells #[.int .i64 a.kind, .int .i64 a.arg] 54)).alloc (.cells #[.int .i64 b.kind, .int .i64 b.arg] 54)).heap.size = w.heap.size + 2 := by simp
  have h3 := objAt_new ((w.alloc (.cells #[.int .i64 a.kind, .int .i64 a.arg] 54)).alloc (.cells #[.int .i64 b.kind, .int .i64 b.arg] 54)) o A c
  rw [hs] at h3
  have hb2 : Below ((w.alloc (.cells #[.int .i64 a.kind, .int .i64 a.arg] 54)).alloc (.cells #[.int .i64 b.kind, .int .i64 b.arg] 54)).heap.size ((w.alloc (.cells #[.int .i64 a.kind, .int .i64 a.arg] 54)).alloc (.cells #[.int .i64 b.kind, .int .i64 b.arg] 54)) (((w.alloc (.cells #[.int .i64 a.kind, .int .i64 a.arg] 54)).alloc (.cells #[.int .i64 b.kind, .int .i64 b.arg] 54)).alloc (.cells (o.cells A c) 58)) := (Below.refl _ _).alloc (Nat.le_refl _) _
  have hb := hb1.trans (hb2.mono hb1.size)
  exact ⟨⟨h1.below hb2, h3, h.below hb, ht.below hb⟩, hb⟩
set_option maxRecDepth 100000 in
set_option maxHeartbeats 1000000 in
theorem scopeWithin_bad (a b : ScV) (o : ObjV) (A : Option Addr) (c : Nat) (ls : List LabV) (w : World) (ht : TextsAt w) (h : ObjFit w o A ls) (hv : validS a = false ∨ validS b = false) : Calls Tryd.prog 6 #[a.val, b.val, o.val A c] w fun e w' => e = .returned (.bool true) ∧ Below w.heap.size w w' := by
  obtain ⟨B0, m0, hlab, -⟩ := h.lab
  obtain ⟨hla, hb0⟩ := wLaw w a b o A c ls ht h
  unfold ObjV.val ScV.val
  obtain ⟨w0, hw0⟩ : ∃ w0, ((w.alloc (.cells #[.int .i64 a.kind, .int .i64 a.arg] 54)).alloc (.cells #[.int .i64 b.kind, .int .i64 b.arg] 54)).alloc (.cells (o.cells A c) 58) = w0 := ⟨_, rfl⟩
  rw [hw0] at hb0 hla
  unfold ObjV.cells at hw0
  rw [hlab] at hw0 ⊢
  have HB0 := Lib.hid hb0
  have HLA := Lib.hid hla
  have HLAB := Lib.hid hlab
  obtain ⟨wi, hwi⟩ : ∃ wi, withinS a b = wi := ⟨_, rfl⟩
  have HWI := Lib.hid hwi
  clear hb0 hla hlab ht h hwi
  go_enter Tryd.func6, Tryd.ntmps6
  go_upto_region 5 with (first
    | (go_at_call 26; refine (fixed_any _).mono ?_; rintro e w1 ⟨rfl, hb1⟩; have HB1 := Lib.hid hb1; obtain ⟨x0, x1, y0, y1⟩ := (HLA.out.below hb1).two; clear hb1)
    | (go_at_call 27; refine (within_val a b wi HWI _).mono ?_; rintro e w2 ⟨rfl, hb2⟩; have HB2 := Lib.hid (HB1.out.trans (hb2.mono HB1.out.size)); clear hb2))
  clear hw0
  clear x0 x1 y0 y1
  have HL2 := Lib.hid (HLA.out.below HB2.out)
  have HBW := Lib.hid (HB0.out.trans (HB2.out.mono HB0.out.size))
  obtain ⟨x0, x1, y0, y1⟩ := HL2.out.two
  have T1 := True.intro
  cases hva : validS a
  · have HA := Lib.hid hva
    have hwf : wi = false := by rw [← HWI.out]; unfold withinS; rw [hva]; rfl
    subst hwf
    clear hva
    go_wp2_with (first
      | (go_at_call 28; have T2 := T1; clear T1; refine (valid_val a _ HA _).mono ?_; rintro e w3 ⟨rfl, hb3⟩; have HB3 := Lib.hid hb3; obtain ⟨-, ⟨z0, z1, z2, z3, z4, z5, z6⟩, -, -⟩ := HL2.out.below hb3; rw [HLAB.out] at z2; clear hb3)
      | (go_at_call 30; refine (own_val o A c ls B0 m0 HLAB.out _ (HL2.out.fit.below HB3.out)).mono ?_; rintro e w5 ⟨L5, m5, B5, c5, rfl, hfit5, hb5⟩; have HF5 := Lib.hid hfit5; have HB5 := Lib.hid (HB3.out.trans (hb5.mono HB3.out.size)); clear hfit5 hb5)
      | (go_at_call 29; refine (in_val ⟨9, 0⟩ false o rfl _ _ _ _ _ (fun _ => True) _ HF5.out.ok (HL2.out.txt.below HB5.out)).mono ?_; rintro e w6 ⟨rfl, hb6⟩; have HB6 := Lib.hid (HB5.out.trans (hb6.mono HB5.out.size)); clear hb6))
    go_ret
    exact ⟨rfl, HBW.out.trans (HB6.out.mono HBW.out.size)⟩
  · have HA := Lib.hid hva
    have hvb : validS b = false := hv.resolve_left (by rw [hva]; simp)
    clear hv
    have HB := Lib.hid hvb
    have hwf : wi = false := by rw [← HWI.out]; unfold withinS; rw [hva, hvb]; rfl
    subst hwf
    clear hva hvb
    go_wp2_with (first
      | (go_at_call 28; have T2 := T1; clear T1; refine (valid_val a _ HA _).mono ?_; rintro e w3 ⟨rfl, hb3⟩; have HB3 := Lib.hid hb3; have HT3 := Lib.hid (HL2.out.two.below hb3); obtain ⟨x0, x1, y0, y1⟩ := HT3.out; clear hb3)
      | (go_at_call 28; have T3 := T2; clear T2; refine (valid_val b _ HB _).mono ?_; rintro e w4 ⟨rfl, hb4⟩; have HB4 := Lib.hid (HB3.out.trans (hb4.mono HB3.out.size)); obtain ⟨-, ⟨z0, z1, z2, z3, z4, z5, z6⟩, -, -⟩ := HL2.out.below HB4.out; rw [HLAB.out] at z2; clear hb4)
      | (go_at_call 30; refine (own_val o A c ls B0 m0 HLAB.out _ (HL2.out.fit.below HB4.out)).mono ?_; rintro e w5 ⟨L5, m5, B5, c5, rfl, hfit5, hb5⟩; have HF5 := Lib.hid hfit5; have HB5 := Lib.hid (HB4.out.trans (hb5.mono HB4.out.size)); clear hfit5 hb5)
      | (go_at_call 29; refine (in_val ⟨9, 0⟩ false o rfl _ _ _ _ _ (fun _ => True) _ HF5.out.ok (HL2.out.txt.below HB5.out)).mono ?_; rintro e w6 ⟨rfl, hb6⟩; have HB6 := Lib.hid (HB5.out.trans (hb6.mono HB5.out.size)); clear hb6))
    go_ret
    exact ⟨rfl, HBW.out.trans (HB6.out.mono HBW.out.size)⟩
set_option maxRecDepth 100000 in
set_option maxHeartbeats 8000000 in
theorem scopeWithin_in (a b : ScV) (o : ObjV) (A : Option Addr) (c : Nat) (ls : List LabV) (w : World) (ht : TextsAt w) (h : ObjFit w o A ls) (hva : validS a = true) (hvb : validS b = true) (hw : withinS a b = true) : Calls Tryd.prog 6 #[a.val, b.val, o.val A c] w fun e w' => e = .returned (.bool true) ∧ Below w.heap.size w w' := by
  obtain ⟨B0, m0, hlab, -⟩ := h.lab
  obtain ⟨hla, hb0⟩ := wLaw w a b o A c ls ht h
  unfold ObjV.val ScV.val
  obtain ⟨w0, hw0⟩ : ∃ w0, ((w.alloc (.cells #[.int .i64 a.kind, .int .i64 a.arg] 54)).alloc (.cells #[.int .i64 b.kind, .int .i64 b.arg] 54)).alloc (.cells (o.cells A c) 58) = w0 := ⟨_, rfl⟩
  rw [hw0] at hb0 hla
  unfold ObjV.cells at hw0
  rw [hlab] at hw0 ⊢
  have HB0 := Lib.hid hb0
  have HLA := Lib.hid hla
  have HLAB := Lib.hid hlab
  obtain ⟨wi, hwi⟩ : ∃ wi, withinS a b = wi := ⟨_, rfl⟩
  have HWI := Lib.hid hwi
  clear hb0 hla hlab ht h hwi
  go_enter Tryd.func6, Tryd.ntmps6
  go_upto_region 5 with (first
    | (go_at_call 26; refine (fixed_any _).mono ?_; rintro e w1 ⟨rfl, hb1⟩; have HB1 := Lib.hid hb1; obtain ⟨x0, x1, y0, y1⟩ := (HLA.out.below hb1).two; clear hb1)
    | (go_at_call 27; refine (within_val a b wi HWI _).mono ?_; rintro e w2 ⟨rfl, hb2⟩; have HB2 := Lib.hid (HB1.out.trans (hb2.mono HB1.out.size)); clear hb2))
  clear hw0
  clear x0 x1 y0 y1
  have HL2 := Lib.hid (HLA.out.below HB2.out)
  have HBW := Lib.hid (HB0.out.trans (HB2.out.mono HB0.out.size))
  obtain ⟨x0, x1, y0, y1⟩ := HL2.out.two
  have T1 := True.intro
  have HA := Lib.hid hva
  have HB := Lib.hid hvb
  have HLW := Lib.hid (fun h => within_some hva hvb h)
  obtain rfl : wi = true := HWI.out.symm.trans hw
  clear hva hvb hw
  go_upto_region 8 with (first
    | (go_at_call 28; have T2 := T1; clear T1; refine (valid_val a _ HA _).mono ?_; rintro e w3 ⟨rfl, hb3⟩; have HB3 := Lib.hid hb3; have HT3 := Lib.hid (HL2.out.two.below hb3); obtain ⟨x0, x1, y0, y1⟩ := HT3.out; clear hb3)
    | (go_at_call 28; have T3 := T2; clear T2; refine (valid_val b _ HB _).mono ?_; rintro e w4 ⟨rfl, hb4⟩; have HB4 := Lib.hid (HB3.out.trans (hb4.mono HB3.out.size)); have HT4 := Lib.hid (HT3.out.below hb4); obtain ⟨x0, x1, y0, y1⟩ := HT4.out; clear hb4))
  have HL4 := Lib.hid (HL2.out.below HB4.out)
  have HBW4 := Lib.hid (HBW.out.trans (HB4.out.mono HBW.out.size))
  obtain ⟨-, ⟨z0, z1, z2, z3, z4, z5, z6⟩, -, -⟩ := HL4.out
  rw [HLAB.out] at z2
  have O1 := True.intro
  have I1 := True.intro
  cases hia : inS o.prio o.dl o.parts a
  · have HIA := Lib.hid hia
    clear hia
    go_region_with (first
      | (go_at_call 30; have O2 := O1; clear O1; refine (own_val o A c ls B0 m0 HLAB.out _ ?_).mono ?_; exact HL4.out.fit.below (by repeat (first | exact Below.refl _ _ | refine Below.drew ?_)); rintro e w5 ⟨L5, m5, B5, c5, rfl, hfit5, hb5⟩; have HF5 := Lib.hid hfit5; have HB5 := Lib.hid (show Below w4.heap.size w4 w5 from Below.trans (by repeat (first | exact Below.refl _ _ | refine Below.drew ?_)) hb5); obtain ⟨⟨x0, x1, y0, y1⟩, ⟨z0, z1, z2, z3, z4, z5, z6⟩, -, -⟩ := HL4.out.below HB5.out; rw [HLAB.out] at z2; clear hfit5 hb5)
      | (go_at_call 29; have I2 := I1; clear I1; refine (in_val a false o HIA _ _ _ _ _ (fun _ => True) _ ?_ ?_).mono ?_; exact HF5.out.ok.below (by repeat (first | exact Below.refl _ _ | refine Below.drew ?_)); exact HL4.out.txt.below (by repeat (first | exact HB5.out | refine Below.drew ?_)); rintro e w6 ⟨rfl, hb6⟩; have HB6 := Lib.hid (show Below w4.heap.size w4 w6 from HB5.out.trans (Below.mono (Below.trans (by repeat (first | exact Below.refl _ _ | refine Below.drew ?_)) hb6) HB5.out.size)); obtain ⟨⟨x0, x1, y0, y1⟩, ⟨z0, z1, z2, z3, z4, z5, z6⟩, -, -⟩ := HL4.out.below HB6.out; rw [HLAB.out] at z2; clear hb6))
    all_goals (go_wp2_with fail; go_ret; exact ⟨rfl, HBW4.out.trans (HB6.out.mono HBW4.out.size)⟩)
  · have HIA := Lib.hid hia
    have HIB := Lib.hid (within_in HWI.out hia)
    clear hia
    go_region_with (first
      | (go_at_call 30; have O2 := O1; clear O1; refine (own_val o A c ls B0 m0 HLAB.out _ ?_).mono ?_; exact HL4.out.fit.below (by repeat (first | exact Below.refl _ _ | refine Below.drew ?_)); rintro e w5 ⟨L5, m5, B5, c5, rfl, hfit5, hb5⟩; have HF5 := Lib.hid hfit5; have HB5 := Lib.hid (show Below w4.heap.size w4 w5 from Below.trans (by repeat (first | exact Below.refl _ _ | refine Below.drew ?_)) hb5); obtain ⟨⟨x0, x1, y0, y1⟩, ⟨z0, z1, z2, z3, z4, z5, z6⟩, -, -⟩ := HL4.out.below HB5.out; rw [HLAB.out] at z2; clear hfit5 hb5)
      | (go_at_call 29; have I2 := I1; clear I1; refine (in_val a true o HIA _ _ _ _ _ (fun _ => True) _ ?_ ?_).mono ?_; exact HF5.out.ok.below (by repeat (first | exact Below.refl _ _ | refine Below.drew ?_)); exact HL4.out.txt.below (by repeat (first | exact HB5.out | refine Below.drew ?_)); rintro e w6 ⟨rfl, hb6⟩; have HB6 := Lib.hid (show Below w4.heap.size w4 w6 from HB5.out.trans (Below.mono (Below.trans (by repeat (first | exact Below.refl _ _ | refine Below.drew ?_)) hb6) HB5.out.size)); obtain ⟨⟨x0, x1, y0, y1⟩, ⟨z0, z1, z2, z3, z4, z5, z6⟩, -, -⟩ := HL4.out.below HB6.out; rw [HLAB.out] at z2; clear hb6)
      | (go_at_call 30; have O3 := O2; clear O2; refine (own_val o A c ls B0 m0 HLAB.out _ ?_).mono ?_; exact HL4.out.fit.below (by repeat (first | exact HB6.out | refine Below.drew ?_)); rintro e w7 ⟨L7, m7, B7, c7, rfl, hfit7, hb7⟩; have HF7 := Lib.hid hfit7; have HB7 := Lib.hid (show Below w4.heap.size w4 w7 from HB6.out.trans (Below.mono (Below.trans (by repeat (first | exact Below.refl _ _ | refine Below.drew ?_)) hb7) HB6.out.size)); obtain ⟨⟨x0, x1, y0, y1⟩, ⟨z0, z1, z2, z3, z4, z5, z6⟩, -, -⟩ := HL4.out.below HB7.out; rw [HLAB.out] at z2; clear hfit7 hb7)
      | (go_at_call 29; have I3 := I2; clear I2; refine (in_val b true o HIB _ _ _ _ _ (fun _ => True) _ ?_ ?_).mono ?_; exact HF7.out.ok.below (by repeat (first | exact Below.refl _ _ | refine Below.drew ?_)); exact HL4.out.txt.below (by repeat (first | exact HB7.out | refine Below.drew ?_)); rintro e w8 ⟨rfl, hb8⟩; have HB8 := Lib.hid (show Below w4.heap.size w4 w8 from HB7.out.trans (Below.mono (Below.trans (by repeat (first | exact Below.refl _ _ | refine Below.drew ?_)) hb8) HB7.out.size)); clear hb8))
    all_goals (go_wp2_with fail; go_ret; exact ⟨rfl, HBW4.out.trans (HB8.out.mono HBW4.out.size)⟩)
end Go.Proofs.YtdchffghgajbfaaDoor
