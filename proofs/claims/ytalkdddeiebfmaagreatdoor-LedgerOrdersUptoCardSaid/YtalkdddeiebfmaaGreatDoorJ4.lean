/- The ledger's judges: above, under, judged. -/
import Derived.Test.YtalkdddeiebfmaaGreatDoorJ3
namespace Go.Proofs.YtalkdddeiebfmaaGreatDoor
open Go.RowKit Go.Maps Go.WideMaps

/-- a share: where, how much -/
abbrev Sh := Pl × Int
def Sh.cells (s : Sh) : List Value := [.string s.1.1, .int .i64 s.1.2.1.1, .int .i64 s.1.2.1.2, .string s.1.2.2, .int .i64 s.2]
def kSh : Kn Sh := Kn.enc Sh.cells 5 (by omega) (fun _ => rfl) (fun x u hu => by simp [Sh.cells] at hu; rcases hu with rfl | rfl | rfl | rfl | rfl <;> rfl)
theorem kSh_plain : kSh.Plain := Kn.plain_enc
theorem shElem : Elem Tryz.prog 96 137 kSh 56 :=
  Elem.mk_ (z := .agg #[.string ⟨#[]⟩, .int .i64 0, .int .i64 0, .string ⟨#[]⟩, .int .i64 0]) Tryz.underlying96 (by kernel_rfl) rfl (by omega)
structure ShOk (s : Sh) : Prop where
  pl : PlOk s.1
  pos : 0 ≤ s.2
  hi : s.2 ≤ 9223372036854775807
section
variable {g b1 b2 n : Nat} {S : Pl → Int} {C : ByteArray → Int}
theorem IsLed.look1 {w : World} (k : IsLed w g b1 b2 n S C) {x : Pl} (hx : PlOk x) (q : Nat) : (Instr.lookup 74 (.map (some b1)) (.agg #[.string x.1, .int .i64 x.2.1.1, .int .i64 x.2.1.2, .string x.2.2]) false).run Tryz.prog (w.drewN q) = .ok (.int .i64 (S x)) (w.drewN q) :=
  (k.below (below_drewN (Below.refl w.heap.size w) q)).sums.look hx
set_option maxRecDepth 100000 in
theorem above_at (s : Sh) (hs : ShOk s) (w : World) (k : IsLed w g b1 b2 n S C) (z : Int) (hz : Hid (S s.1 = z)) : Calls Tryz.prog 43 #[.pointer (some ⟨g, 0, none⟩), .agg #[.string s.1.1, .int .i64 s.1.2.1.1, .int .i64 s.1.2.1.2, .string s.1.2.2, .int .i64 s.2]] w fun e w' =>
    e = .returned (.int .i64 (if z > 9223372036854775807 - s.2 then 7 else 0)) ∧ Below w.heap.size w w' := by
  have hb0 := (Below.refl w.heap.size w).alloc (Nat.le_refl _) (.cells #[.string s.1.1, .int .i64 s.1.2.1.1, .int .i64 s.1.2.1.2, .string s.1.2.2, .int .i64 s.2] 137)
  have k1 := k.below hb0
  have hlk := fun q => k1.look1 hs.pl q
  rw [hz.out] at hlk
  obtain ⟨⟨p, ⟨a, b⟩, r⟩, v⟩ := s
  have h1 := hs.pos
  have h2 := hs.hi
  simp only at h1 h2 hlk hb0 k1 ⊢
  have g0 := k1.g0
  have hsub : wrap64 (9223372036854775807 - v) = 9223372036854775807 - v := by unfold wrap64; omega
  have hsub2 : IntKind.i64.wrap (9223372036854775807 - v) = 9223372036854775807 - v := by rw [IntKind.wrap_i64]; omega
  have HB0 := Lib.hid hb0
  clear hs k k1 hb0 hz
  by_cases h : z > 9223372036854775807 - v
  · have e1 : decide (z > 9223372036854775807 - v) = true := by simpa using h
    rw [if_pos h]
    clear h
    go_enter Tryz.func43, Tryz.ntmps43
    go_wp2
    go_quiet (fail)
    go_wp2
    go_ret
    exact ⟨rfl, below_drewN HB0.out _⟩
  · have e1 : decide (z > 9223372036854775807 - v) = false := by simpa using h
    rw [if_neg h]
    clear h
    go_enter Tryz.func43, Tryz.ntmps43
    go_wp2
    go_quiet (fail)
    go_wp2
    go_ret
    exact ⟨rfl, below_drewN HB0.out _⟩
set_option maxRecDepth 100000 in
theorem under_at (s : Sh) (hs : ShOk s) (w : World) (k : IsLed w g b1 b2 n S C) (z : Int) (hz : Hid (S s.1 = z)) : Calls Tryz.prog 77 #[.pointer (some ⟨g, 0, none⟩), .agg #[.string s.1.1, .int .i64 s.1.2.1.1, .int .i64 s.1.2.1.2, .string s.1.2.2, .int .i64 s.2]] w fun e w' =>
    e = .returned (.int .i64 (if z < s.2 then 170 else 0)) ∧ Below w.heap.size w w' := by
  have hb0 := (Below.refl w.heap.size w).alloc (Nat.le_refl _) (.cells #[.string s.1.1, .int .i64 s.1.2.1.1, .int .i64 s.1.2.1.2, .string s.1.2.2, .int .i64 s.2] 137)
  have k1 := k.below hb0
  have hlk := fun q => k1.look1 hs.pl q
  rw [hz.out] at hlk
  obtain ⟨⟨p, ⟨a, b⟩, r⟩, v⟩ := s
  have h1 := hs.pos
  have h2 := hs.hi
  simp only at h1 h2 hlk hb0 k1 ⊢
  have g0 := k1.g0
  have HB0 := Lib.hid hb0
  clear hs k k1 hb0 hz
  by_cases h : z < v
  · have e1 : decide (z < v) = true := by simpa using h
    rw [if_pos h]
    clear h
    go_enter Tryz.func77, Tryz.ntmps77
    go_wp2
    go_quiet (fail)
    go_wp2
    go_ret
    exact ⟨rfl, below_drewN HB0.out _⟩
  · have e1 : decide (z < v) = false := by simpa using h
    rw [if_neg h]
    clear h
    go_enter Tryz.func77, Tryz.ntmps77
    go_wp2
    go_quiet (fail)
    go_wp2
    go_ret
    exact ⟨rfl, below_drewN HB0.out _⟩

/-- the first refusal -/
def judgeL (J : Sh → Int) : List Sh → Int
  | [] => 0
  | s :: l => if J s = 0 then judgeL J l else J s
structure ShAt (w : World) (a : Addr) (x : Sh) : Prop where
  c0 : w.cell? a = some (.string x.1.1)
  c1 : w.cell? ⟨a.block, a.off + 1, none⟩ = some (.int .i64 x.1.2.1.1)
  c2 : w.cell? ⟨a.block, a.off + 2, none⟩ = some (.int .i64 x.1.2.1.2)
  c3 : w.cell? ⟨a.block, a.off + 3, none⟩ = some (.string x.1.2.2)
  c4 : w.cell? ⟨a.block, a.off + 4, none⟩ = some (.int .i64 x.2)
theorem sh_at {P : Nat → Prop} {w : World} {A : Option Addr} {xs : List Sh} (h : Row kSh P w A xs) (i : Nat) (hi : i < xs.length) : ∃ a, A = some a ∧ P a.block ∧ ShAt w (a.add (i * 5)) xs[i] := by
  obtain ⟨a, cs, hA, hP, hr, hc⟩ := h.at_ i hi
  obtain rfl : cs = xs[i].cells := hr
  exact ⟨a, hA, hP, hc 0 _ rfl, by rw [← add_off _ _ 1 (by omega)]; exact hc 1 _ rfl, by rw [← add_off _ _ 2 (by omega)]; exact hc 2 _ rfl, by rw [← add_off _ _ 3 (by omega)]; exact hc 3 _ rfl, by rw [← add_off _ _ 4 (by omega)]; exact hc 4 _ rfl⟩
set_option maxRecDepth 100000 in
theorem judged_above0 (J : Sh → Int) (A : Option Addr) (c : Nat) (P : Nat → Prop) (L : List Sh) (w : World) (k : IsLed w g b1 b2 n S C) (hr : Row kSh P w A L) (hl : L.length ≤ 9223372036854775807)
    (hf : ∀ s ∈ L, ∀ W, IsLed W g b1 b2 n S C → Calls Tryz.prog 43 #[.pointer (some ⟨g, 0, none⟩), .agg #[.string s.1.1, .int .i64 s.1.2.1.1, .int .i64 s.1.2.1.2, .string s.1.2.2, .int .i64 s.2]] W fun e w' => e = .returned (.int .i64 (J s)) ∧ Below W.heap.size W w') :
    Calls Tryz.prog 42 #[.pointer (some ⟨g, 0, none⟩), .slice A L.length c, .func (.func 43) #[] #[]] w fun e w' => e = .returned (.int .i64 (judgeL J L)) ∧ Below w.heap.size w w' := by
  have HF := Lib.hid hf
  have HR := Lib.hid hr
  have HK := Lib.hid k
  clear hf hr k
  go_enter Tryz.func42, Tryz.ntmps42
  go_wp2
  go_loopw [12] (fun iv wr => ∃ i : Nat, iv = .int .i64 i ∧ i ≤ L.length ∧ Hid (Below w.heap.size w wr) ∧ Hid (judgeL J L = judgeL J (L.drop i))) (fun iv _ => L.length - (intOf iv).toNat)
  case atStart => exact ⟨0, rfl, Nat.zero_le _, Below.refl _ _, by simp [Hid]⟩
  case round =>
    obtain ⟨i, rfl, hi, hb, hj⟩ := hrel
    obtain ⟨wo, rfl⟩ : ∃ wo, wo = wr := ⟨_, rfl⟩
    by_cases hlt : i < L.length
    · obtain ⟨a, rfl, -, l0, l1, l2, l3, l4⟩ := sh_at (HR.out.below hb.out) i hlt
      obtain ⟨x, hx⟩ : ∃ x, L[i] = x := ⟨_, rfl⟩
      have hxm : x ∈ L := by rw [← hx]; exact List.getElem_mem _
      have HSTEP := Lib.hid (show judgeL J (L.drop i) = if J x = 0 then judgeL J (L.drop (i + 1)) else J x by rw [List.drop_eq_getElem_cons hlt, hx]; rfl)
      rw [hx] at l0 l1 l2 l3 l4
      obtain ⟨⟨p, ⟨m, r⟩, t⟩, v⟩ := x
      simp only at l0 l1 l2 l3 l4
      have hbx := (Below.refl wo.heap.size wo).alloc (Nat.le_refl _) (.cells #[.string p, .int .i64 m, .int .i64 r, .string t, .int .i64 v] 137)
      have HB1 := Lib.hid (hb.out.trans (hbx.mono hb.out.size))
      have HC := Lib.hid (HF.out _ hxm _ (HK.out.below HB1.out))
      obtain ⟨z, hz⟩ : ∃ z, J ((p, (m, r), t), v) = z := ⟨_, rfl⟩
      rw [hz] at HC HSTEP
      have hlti : (i : Int) < (L.length : Int) := by omega
      clear hz hx hxm hbx
      by_cases hz0 : z = 0
      · subst hz0
        rw [if_pos rfl] at HSTEP
        go_wp2_with (go_at_call 43; refine HC.out.mono ?_; rintro e w2 ⟨rfl, hb2⟩; have HB2 := Lib.hid hb2; clear hb2)
        go_roundw
        case rel => exact ⟨i + 1, by go_num, hlt, HB1.out.trans (HB2.out.mono HB1.out.size), hj.out.trans HSTEP.out⟩
        case measure => simp [intOf]; omega
      · rw [if_neg hz0] at HSTEP
        have e1 : (z != 0) = true := by simpa using hz0
        have e2 : (z == 0) = false := by simpa using hz0
        clear hz0
        go_wp2_with (go_at_call 43; refine HC.out.mono ?_; rintro e w2 ⟨rfl, hb2⟩; have HB2 := Lib.hid hb2; clear hb2)
        go_ret
        exact ⟨by rw [hj.out, HSTEP.out]; rfl, HB1.out.trans (HB2.out.mono HB1.out.size)⟩
    · have hge : ¬ ((i : Int) < (L.length : Int)) := by omega
      have HE := Lib.hid (show judgeL J L = 0 by rw [hj.out, List.drop_eq_nil_of_le (by omega)]; rfl)
      have HB := Lib.hid hb.out
      clear hb hj
      go_wp2
      go_ret
      exact ⟨by rw [HE.out]; rfl, HB.out⟩
set_option maxRecDepth 100000 in
theorem judged_under0 (J : Sh → Int) (A : Option Addr) (c : Nat) (P : Nat → Prop) (L : List Sh) (w : World) (k : IsLed w g b1 b2 n S C) (hr : Row kSh P w A L) (hl : L.length ≤ 9223372036854775807)
    (hf : ∀ s ∈ L, ∀ W, IsLed W g b1 b2 n S C → Calls Tryz.prog 77 #[.pointer (some ⟨g, 0, none⟩), .agg #[.string s.1.1, .int .i64 s.1.2.1.1, .int .i64 s.1.2.1.2, .string s.1.2.2, .int .i64 s.2]] W fun e w' => e = .returned (.int .i64 (J s)) ∧ Below W.heap.size W w') :
    Calls Tryz.prog 42 #[.pointer (some ⟨g, 0, none⟩), .slice A L.length c, .func (.func 77) #[] #[]] w fun e w' => e = .returned (.int .i64 (judgeL J L)) ∧ Below w.heap.size w w' := by
  have HF := Lib.hid hf
  have HR := Lib.hid hr
  have HK := Lib.hid k
  clear hf hr k
  go_enter Tryz.func42, Tryz.ntmps42
  go_wp2
  go_loopw [12] (fun iv wr => ∃ i : Nat, iv = .int .i64 i ∧ i ≤ L.length ∧ Hid (Below w.heap.size w wr) ∧ Hid (judgeL J L = judgeL J (L.drop i))) (fun iv _ => L.length - (intOf iv).toNat)
  case atStart => exact ⟨0, rfl, Nat.zero_le _, Below.refl _ _, by simp [Hid]⟩
  case round =>
    obtain ⟨i, rfl, hi, hb, hj⟩ := hrel
    obtain ⟨wo, rfl⟩ : ∃ wo, wo = wr := ⟨_, rfl⟩
    by_cases hlt : i < L.length
    · obtain ⟨a, rfl, -, l0, l1, l2, l3, l4⟩ := sh_at (HR.out.below hb.out) i hlt
      obtain ⟨x, hx⟩ : ∃ x, L[i] = x := ⟨_, rfl⟩
      have hxm : x ∈ L := by rw [← hx]; exact List.getElem_mem _
      have HSTEP := Lib.hid (show judgeL J (L.drop i) = if J x = 0 then judgeL J (L.drop (i + 1)) else J x by rw [List.drop_eq_getElem_cons hlt, hx]; rfl)
      rw [hx] at l0 l1 l2 l3 l4
      obtain ⟨⟨p, ⟨m, r⟩, t⟩, v⟩ := x
      simp only at l0 l1 l2 l3 l4
      have hbx := (Below.refl wo.heap.size wo).alloc (Nat.le_refl _) (.cells #[.string p, .int .i64 m, .int .i64 r, .string t, .int .i64 v] 137)
      have HB1 := Lib.hid (hb.out.trans (hbx.mono hb.out.size))
      have HC := Lib.hid (HF.out _ hxm _ (HK.out.below HB1.out))
      obtain ⟨z, hz⟩ : ∃ z, J ((p, (m, r), t), v) = z := ⟨_, rfl⟩
      rw [hz] at HC HSTEP
      have hlti : (i : Int) < (L.length : Int) := by omega
      clear hz hx hxm hbx
      by_cases hz0 : z = 0
      · subst hz0
        rw [if_pos rfl] at HSTEP
        go_wp2_with (go_at_call 77; refine HC.out.mono ?_; rintro e w2 ⟨rfl, hb2⟩; have HB2 := Lib.hid hb2; clear hb2)
        go_roundw
        case rel => exact ⟨i + 1, by go_num, hlt, HB1.out.trans (HB2.out.mono HB1.out.size), hj.out.trans HSTEP.out⟩
        case measure => simp [intOf]; omega
      · rw [if_neg hz0] at HSTEP
        have e1 : (z != 0) = true := by simpa using hz0
        have e2 : (z == 0) = false := by simpa using hz0
        clear hz0
        go_wp2_with (go_at_call 77; refine HC.out.mono ?_; rintro e w2 ⟨rfl, hb2⟩; have HB2 := Lib.hid hb2; clear hb2)
        go_ret
        exact ⟨by rw [hj.out, HSTEP.out]; rfl, HB1.out.trans (HB2.out.mono HB1.out.size)⟩
    · have hge : ¬ ((i : Int) < (L.length : Int)) := by omega
      have HE := Lib.hid (show judgeL J L = 0 by rw [hj.out, List.drop_eq_nil_of_le (by omega)]; rfl)
      have HB := Lib.hid hb.out
      clear hb hj
      go_wp2
      go_ret
      exact ⟨by rw [HE.out]; rfl, HB.out⟩
end
end Go.Proofs.YtalkdddeiebfmaaGreatDoor
