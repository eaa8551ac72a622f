/- Laid together: J40 J41 J42 J43 J44. -/
import Derived.Test.YtalkdddeiebfmaaGreatDoorJE
import Derived.Deep.LoopGhost
import Derived.Deep.DeepCutAuto
import Derived.StillTailTactics
/- The document's ledger: its entries in memory; under, in. -/
namespace Go.Proofs.YtalkdddeiebfmaaGreatDoor
open Go.RowKit

/-- what was charged (Sign 1) or released (-1) -/
structure EntV where
  line : List ByteArray
  scopes : List ScV
  uses : List Amt
  sign : Int
def kEnt : Kn EntV := Kn.iso (Kn.pair (Kn.sliceN Kn.str) (Kn.pair (Kn.sliceN kSc) (Kn.pair (Kn.sliceN kAmt) (Kn.int .i64)))) (fun e : EntV => (e.line, e.scopes, e.uses, e.sign))
theorem entElem : Elem Tryz.prog 88 93 kEnt 80 :=
  Elem.mk_ (z := .agg #[.slice none 0 0, .slice none 0 0, .slice none 0 0, .int .i64 0]) Tryz.underlying88 (by kernel_rfl) rfl (by omega)
structure EntAt (P : Nat → Prop) (w : World) (a : Addr) (x : EntV) (A1 : Option Addr) (k1 : Nat) (A2 : Option Addr) (k2 : Nat) (A3 : Option Addr) (k3 : Nat) : Prop where
  c0 : w.cell? a = some (.slice A1 x.line.length k1)
  c1 : w.cell? ⟨a.block, a.off + 1, none⟩ = some (.slice A2 x.scopes.length k2)
  c2 : w.cell? ⟨a.block, a.off + 2, none⟩ = some (.slice A3 x.uses.length k3)
  c3 : w.cell? ⟨a.block, a.off + 3, none⟩ = some (.int .i64 x.sign)
  r1 : Row Kn.str P w A1 x.line
  r2 : Row kSc P w A2 x.scopes
  r3 : Row kAmt P w A3 x.uses
theorem EntAt.below {P : Nat → Prop} {w w' : World} {a : Addr} {x : EntV} {A1 : Option Addr} {k1 : Nat} {A2 : Option Addr} {k2 : Nat} {A3 : Option Addr} {k3 : Nat} (h : EntAt P w a x A1 k1 A2 k2 A3 k3) (hb : Below w.heap.size w w') : EntAt P w' a x A1 k1 A2 k2 A3 k3 :=
  ⟨(hb.cell (World.block_lt_of_cell? _ _ h.c0)).trans h.c0, (hb.cell (p := ⟨_, _, none⟩) (World.block_lt_of_cell? _ _ h.c1)).trans h.c1, (hb.cell (p := ⟨_, _, none⟩) (World.block_lt_of_cell? _ _ h.c2)).trans h.c2, (hb.cell (p := ⟨_, _, none⟩) (World.block_lt_of_cell? _ _ h.c3)).trans h.c3, h.r1.below hb, h.r2.below hb, h.r3.below hb⟩
theorem kEnt_cells {P : Nat → Prop} {w : World} {x : EntV} {cs : List Value} (h : kEnt.R P w x cs) : ∃ A1 k1 A2 k2 A3 k3, cs = [.slice A1 x.line.length k1, .slice A2 x.scopes.length k2, .slice A3 x.uses.length k3, .int .i64 x.sign] ∧ Row Kn.str P w A1 x.line ∧ Row kSc P w A2 x.scopes ∧ Row kAmt P w A3 x.uses := by
  obtain ⟨_, c2, rfl, ⟨A1, k1, rfl, h1⟩, _, c4, rfl, ⟨A2, k2, rfl, h2⟩, _, c6, rfl, ⟨A3, k3, rfl, h3⟩, h4⟩ := h
  obtain rfl : c6 = [.int .i64 x.sign] := h4
  exact ⟨A1, k1, A2, k2, A3, k3, rfl, h1, h2, h3⟩
theorem kEnt_mk {P : Nat → Prop} {w : World} {x : EntV} {A1 : Option Addr} {k1 : Nat} {A2 : Option Addr} {k2 : Nat} {A3 : Option Addr} {k3 : Nat} (h1 : Row Kn.str P w A1 x.line) (h2 : Row kSc P w A2 x.scopes) (h3 : Row kAmt P w A3 x.uses) :
    kEnt.R P w x [.slice A1 x.line.length k1, .slice A2 x.scopes.length k2, .slice A3 x.uses.length k3, .int .i64 x.sign] :=
  ⟨[_], _, rfl, ⟨A1, k1, rfl, h1⟩, [_], _, rfl, ⟨A2, k2, rfl, h2⟩, [_], _, rfl, ⟨A3, k3, rfl, h3⟩, rfl⟩
theorem ent_at {P : Nat → Prop} {w : World} {A : Option Addr} {xs : List EntV} (h : Row kEnt P w A xs) (i : Nat) (hi : i < xs.length) : ∃ a A1 k1 A2 k2 A3 k3, A = some a ∧ P a.block ∧ EntAt P w (a.add (i * 4)) xs[i] A1 k1 A2 k2 A3 k3 := by
  obtain ⟨a, cs, hA, hP, hr, hc⟩ := h.at_ i hi
  obtain ⟨A1, k1, A2, k2, A3, k3, rfl, h1, h2, h3⟩ := kEnt_cells hr
  exact ⟨a, A1, k1, A2, k2, A3, k3, hA, hP, hc 0 _ rfl, by rw [← add_off _ _ 1 (by omega)]; exact hc 1 _ rfl, by rw [← add_off _ _ 2 (by omega)]; exact hc 2 _ rfl, by rw [← add_off _ _ 3 (by omega)]; exact hc 3 _ rfl, h1, h2, h3⟩
/-- an entry's own block -/
structure EBox (w : World) (b : Nat) (v0 v1 v2 v3 : Value) : Prop where
  blk : w.heap[b]? = some (.cells #[v0, v1, v2, v3] 93 (0, 0))
  c0 : w.cell? ⟨b, 0, none⟩ = some v0
  c1 : w.cell? ⟨b, 1, none⟩ = some v1
  c2 : w.cell? ⟨b, 2, none⟩ = some v2
  c3 : w.cell? ⟨b, 3, none⟩ = some v3
section
variable {w w' : World} {b : Nat} {v0 v1 v2 v3 : Value}
theorem EBox.of (h : w.heap[b]? = some (.cells #[v0, v1, v2, v3] 93 (0, 0))) : EBox w b v0 v1 v2 v3 :=
  ⟨h, (cell_of_row _ _ _ _ _ _ h).trans rfl, (cell_of_row _ _ _ _ _ _ h).trans rfl, (cell_of_row _ _ _ _ _ _ h).trans rfl, (cell_of_row _ _ _ _ _ _ h).trans rfl⟩
theorem EBox.below (h : EBox w b v0 v1 v2 v3) (hb : Below w.heap.size w w') : EBox w' b v0 v1 v2 v3 := .of ((hb.block b (Array.getElem?_eq_some_iff.1 h.blk).1).trans h.blk)
end
theorem eBox_new (w : World) (v0 v1 v2 v3 : Value) : EBox (w.alloc (.cells #[v0, v1, v2, v3] 93)) w.heap.size v0 v1 v2 v3 := .of (heap_alloc_new _ _)
def inB (l : List ByteArray) (p : ByteArray) : Bool := l.any fun x => decide (x = p)
theorem inB_iff {l : List ByteArray} {p : ByteArray} : inB l p = true ↔ p ∈ l := by
  unfold inB
  rw [List.any_eq_true]
  constructor
  · rintro ⟨x, hx, e⟩
    rw [decide_eq_true_iff] at e
    exact e ▸ hx
  · intro h
    exact ⟨p, h, by simp⟩
def inSc (l : List ScV) (s : ScV) : Bool := decide (s ∈ l)
theorem take_not_mem {α : Type} {l : List α} {k : Nat} {p : α} (hk : k < l.length) (h : p ∉ l.take k) (hn : l[k] ≠ p) : p ∉ l.take (k + 1) := by
  rw [List.take_succ_eq_append_getElem hk, List.mem_append, List.mem_singleton]
  rintro (h1 | h1)
  · exact h h1
  · exact hn h1.symm
theorem bytes_beq {a b : ByteArray} : (a.toList == b.toList) = decide (a = b) := by
  rw [Bool.eq_iff_iff, beq_iff_eq, decide_eq_true_iff]
  constructor
  · intro h; exact bytes_inj (by rw [← toList_eq, ← toList_eq]; exact h)
  · rintro rfl; rfl
set_option maxRecDepth 100000 in
/-- 'e.under(path)' -/
theorem eunder_any (l : List ByteArray) (n : Nat) (hn : l.length = n) (A1 : Option Addr) (k1 : Nat) (A2 : Option Addr) (n2 k2 : Nat) (A3 : Option Addr) (n3 k3 : Nat) (sg : Int) (P : Nat → Prop) (p : ByteArray) (w : World) (hr : Row Kn.str P w A1 l) (hl : n ≤ 9223372036854775806) :
    Calls Tryz.prog 112 #[.agg #[.slice A1 n k1, .slice A2 n2 k2, .slice A3 n3 k3, .int .i64 sg], .string p] w fun e w' => e = .returned (.bool (inB l p)) ∧ Below w.heap.size w w' := by
  subst hn
  have hb0 : Below w.heap.size w (w.alloc (.cells #[.slice A1 l.length k1, .slice A2 n2 k2, .slice A3 n3 k3, .int .i64 sg] 93)) := (Below.refl _ _).alloc (Nat.le_refl _) _
  have hx := eBox_new w (.slice A1 l.length k1) (.slice A2 n2 k2) (.slice A3 n3 k3) (.int .i64 sg)
  obtain ⟨w0, hw0⟩ : ∃ w0, w.alloc (.cells #[.slice A1 l.length k1, .slice A2 n2 k2, .slice A3 n3 k3, .int .i64 sg] 93) = w0 := ⟨_, rfl⟩
  rw [hw0] at hb0 hx
  have HB0 := Lib.hid hb0
  have HX := Lib.hid hx
  have HR := Lib.hid (hr.below hb0)
  clear hb0 hx hr
  go_enter Tryz.func112, Tryz.ntmps112
  go_wp2
  clear hw0
  go_loopw [5] (fun iv wr => ∃ i : Nat, iv = .int .i64 i ∧ i ≤ l.length ∧ Hid (p ∉ l.take i) ∧ Hid (Below w0.heap.size w0 wr)) (fun iv _ => l.length - (intOf iv).toNat)
  case atStart => exact ⟨0, rfl, Nat.zero_le _, by simp [Hid], Below.refl _ _⟩
  case round =>
    obtain ⟨i, rfl, hi, hno, hb⟩ := hrel
    obtain ⟨wo, rfl⟩ : ∃ wo, wo = wr := ⟨_, rfl⟩
    have y0 := (HX.out.below hb.out).c0
    have HE := Lib.hid (HB0.out.trans (hb.out.mono HB0.out.size))
    by_cases hlt : i < l.length
    · obtain ⟨a, rfl, x0⟩ := row_str_at (HR.out.below hb.out) i hlt
      have hlti : (i : Int) < (l.length : Int) := by omega
      have hi0 : (0 : Int) ≤ (i : Int) := by omega
      by_cases he : l[i] = p
      · have e1 : (l[i].toList == p.toList) = true := by rw [bytes_beq]; simpa using he
        have HRES := Lib.hid (inB_iff.2 (he ▸ List.getElem_mem hlt))
        clear he hno
        go_wp2
        go_ret
        exact ⟨by rw [HRES.out]; rfl, HE.out⟩
      · have e1 : (l[i].toList == p.toList) = false := by rw [bytes_beq]; simpa using he
        have HN := Lib.hid (take_not_mem hlt hno.out he)
        have HBX := Lib.hid hb.out
        clear he hno hb
        go_wp2
        go_roundw
        case rel => exact ⟨i + 1, by go_num, hlt, HN.out, HBX.out⟩
        case measure => simp [intOf]; omega
    · have hge : ¬ ((i : Int) < (l.length : Int)) := by omega
      have HRES := Lib.hid (show inB l p = false by
        have h := hno.out
        rw [List.take_of_length_le (by omega)] at h
        rw [Bool.eq_false_iff]
        exact fun e => h (inB_iff.1 e))
      clear hno hb
      go_wp2
      go_ret
      exact ⟨by rw [HRES.out]; rfl, HE.out⟩
set_option maxRecDepth 100000 in
/-- 'e.in(s)' -/
theorem ein_any (l : List ScV) (n : Nat) (hn : l.length = n) (A1 : Option Addr) (n1 k1 : Nat) (A2 : Option Addr) (k2 : Nat) (A3 : Option Addr) (n3 k3 : Nat) (sg : Int) (P : Nat → Prop) (s : ScV) (w : World) (hr : Row kSc P w A2 l) (hl : n ≤ 9223372036854775806) :
    Calls Tryz.prog 113 #[.agg #[.slice A1 n1 k1, .slice A2 n k2, .slice A3 n3 k3, .int .i64 sg], .agg #[.int .i64 s.kind, .int .i64 s.arg]] w fun e w' => e = .returned (.bool (inSc l s)) ∧ Below w.heap.size w w' := by
  subst hn
  have hb0 : Below w.heap.size w ((w.alloc (.cells #[.slice A1 n1 k1, .slice A2 l.length k2, .slice A3 n3 k3, .int .i64 sg] 93)).alloc (.cells #[.int .i64 s.kind, .int .i64 s.arg] 47)) := ((Below.refl _ _).alloc (Nat.le_refl _) _).alloc (by simp) _
  have hx : EBox _ _ _ _ _ _ := .of (heap_alloc2_old w (.cells #[.slice A1 n1 k1, .slice A2 l.length k2, .slice A3 n3 k3, .int .i64 sg] 93) (.cells #[.int .i64 s.kind, .int .i64 s.arg] 47))
  have hs1 : SBox _ _ _ _ := ⟨heap_alloc2_new w (.cells #[.slice A1 n1 k1, .slice A2 l.length k2, .slice A3 n3 k3, .int .i64 sg] 93) (.cells #[.int .i64 s.kind, .int .i64 s.arg] 47)⟩
  obtain ⟨w0, hw0⟩ : ∃ w0, ((w.alloc (.cells #[.slice A1 n1 k1, .slice A2 l.length k2, .slice A3 n3 k3, .int .i64 sg] 93)).alloc (.cells #[.int .i64 s.kind, .int .i64 s.arg] 47)) = w0 := ⟨_, rfl⟩
  rw [hw0] at hb0 hx hs1
  have HB0 := Lib.hid hb0
  have HX := Lib.hid hx
  have HS1 := Lib.hid hs1
  have HR := Lib.hid (hr.below hb0)
  clear hb0 hx hr hs1
  go_enter Tryz.func113, Tryz.ntmps113
  go_wp2
  clear hw0
  go_loopw [5] (fun iv wr => ∃ i : Nat, iv = .int .i64 i ∧ i ≤ l.length ∧ Hid (s ∉ l.take i) ∧ Hid (Below w0.heap.size w0 wr)) (fun iv _ => l.length - (intOf iv).toNat)
  case atStart => exact ⟨0, rfl, Nat.zero_le _, by simp [Hid], Below.refl _ _⟩
  case round =>
    obtain ⟨i, rfl, hi, hno, hb⟩ := hrel
    obtain ⟨wo, rfl⟩ : ∃ wo, wo = wr := ⟨_, rfl⟩
    have y1 := (HX.out.below hb.out).c1
    have s0 : wo.cell? ⟨w.heap.size + 1, 0, none⟩ = some (.int .i64 s.kind) := (hb.out.cell (p := ⟨w.heap.size + 1, 0, none⟩) (Array.getElem?_eq_some_iff.1 HS1.out.blk).1).trans ((cell_of_row _ _ _ _ _ _ HS1.out.blk).trans rfl)
    have s1 : wo.cell? ⟨w.heap.size + 1, 1, none⟩ = some (.int .i64 s.arg) := (hb.out.cell (p := ⟨w.heap.size + 1, 1, none⟩) (Array.getElem?_eq_some_iff.1 HS1.out.blk).1).trans ((cell_of_row _ _ _ _ _ _ HS1.out.blk).trans rfl)
    have HE := Lib.hid (HB0.out.trans (hb.out.mono HB0.out.size))
    by_cases hlt : i < l.length
    · obtain ⟨a, rfl, l0, l1⟩ := sc_at (HR.out.below hb.out) i hlt
      have hlti : (i : Int) < (l.length : Int) := by omega
      have hi0 : (0 : Int) ≤ (i : Int) := by omega
      cases he : eqSc l[i] s
      · have hrun := fun W => run_eqlSc l[i] s false he W
        have HN := Lib.hid (take_not_mem hlt hno.out (by rw [eqSc_iff] at he; simpa using he))
        have HBX := Lib.hid hb.out
        clear he hno hb
        go_wp2
        go_quiet (fail)
        go_wp2
        go_roundw
        case rel => exact ⟨i + 1, by go_num, hlt, HN.out, below_drewN HBX.out _⟩
        case measure => simp [intOf]; omega
      · have hrun := fun W => run_eqlSc l[i] s true he W
        have HRES := Lib.hid (show inSc l s = true by
          rw [eqSc_iff, decide_eq_true_iff] at he
          unfold inSc; rw [decide_eq_true_iff, ← he]; exact List.getElem_mem hlt)
        clear he hno hb
        go_wp2
        go_quiet (fail)
        go_wp2
        go_ret
        exact ⟨by rw [HRES.out]; rfl, below_drewN HE.out _⟩
    · have hge : ¬ ((i : Int) < (l.length : Int)) := by omega
      have HRES := Lib.hid (show inSc l s = false by
        unfold inSc
        have h := hno.out
        rw [List.take_of_length_le (by omega)] at h
        simpa using h)
      clear hno hb
      go_wp2
      go_ret
      exact ⟨by rw [HRES.out]; rfl, HE.out⟩
end Go.Proofs.YtalkdddeiebfmaaGreatDoor
/- The document's ledger: plus. -/
namespace Go.Proofs.YtalkdddeiebfmaaGreatDoor
open Go.RowKit

theorem wrap_in {v : Int} (h0 : -9223372036854775808 ≤ v) (h1 : v ≤ 9223372036854775807) : wrap64 v = v := by unfold wrap64; omega
/-- the two halves while they are reckoned; the result's box -/
structure PBox (w0 wx : World) (b : Nat) (h l : Int) : Prop where
  box : wx.heap[b]? = some (.cells #[.int .i64 h, .int .i64 l] 134 (0, 0))
  res : wx.heap[b + 1]? = some (.cells #[.int .i64 0, .int .i64 0] 134 (0, 0))
  below : Below b w0 wx
section
variable {w0 wx : World} {b : Nat} {h l : Int}
theorem PBox.c0 (k : PBox w0 wx b h l) : wx.cell? ⟨b, 0, none⟩ = some (.int .i64 h) := (cell_of_row _ _ _ _ _ _ k.box).trans rfl
theorem PBox.c1 (k : PBox w0 wx b h l) : wx.cell? ⟨b, 1, none⟩ = some (.int .i64 l) := (cell_of_row _ _ _ _ _ _ k.box).trans rfl
theorem PBox.fz (k : PBox w0 wx b h l) : ∀ j, wx.frozen? ⟨b, j, none⟩ = false := fun j => frozen_of_row _ _ _ _ _ k.box
theorem PBox.set0 (k : PBox w0 wx b h l) (u : Int) : PBox w0 (wx.setCell ⟨b, 0, none⟩ (.int .i64 u)) b u l :=
  ⟨(heap_setCell_same _ _ _ _ _ _ k.box).trans rfl, (Below.heap_setCell _ _ _ _ (by show b + 1 ≠ b; omega)).trans k.res, Below.setCell k.below (Nat.le_refl b) _⟩
theorem PBox.set1 (k : PBox w0 wx b h l) (u : Int) : PBox w0 (wx.setCell ⟨b, 1, none⟩ (.int .i64 u)) b h u :=
  ⟨(heap_setCell_same _ _ _ _ _ _ k.box).trans rfl, (Below.heap_setCell _ _ _ _ (by show b + 1 ≠ b; omega)).trans k.res, Below.setCell k.below (Nat.le_refl b) _⟩
end
theorem pbox_new (w : World) (h l : Int) : PBox w ((w.alloc (.cells #[.int .i64 h, .int .i64 l] 134)).alloc (.cells #[.int .i64 0, .int .i64 0] 134)) w.heap.size h l :=
  ⟨heap_alloc2_old w _ _, heap_alloc2_new w _ _, ((Below.refl _ _).alloc (Nat.le_refl _) _).alloc (by simp) _⟩
set_option maxRecDepth 100000 in
set_option maxHeartbeats 1000000 in
theorem rplus_any (T v sg : Int) (h0 : 0 ≤ v) (h1 : v ≤ 9223372036854775807) (hs : sg = 1 ∨ sg = -1) (hT0 : -9903520314283042199192993792 ≤ T) (hT1 : T ≤ 9903520314283042199192993792) (w : World) :
    Calls Tryz.prog 114 #[.agg #[.int .i64 (T / 4294967296), .int .i64 (T % 4294967296)], .int .i64 v, .int .i64 sg] w fun e w' => e = .returned (.agg #[.int .i64 ((T + sg * v) / 4294967296), .int .i64 ((T + sg * v) % 4294967296)]) ∧ Below w.heap.size w w' := by
  obtain ⟨hh, hhh⟩ : ∃ hh, T / 4294967296 = hh := ⟨_, rfl⟩
  obtain ⟨ll, hll⟩ : ∃ ll, T % 4294967296 = ll := ⟨_, rfl⟩
  obtain ⟨q, hq⟩ : ∃ q, sg * (v / 4294967296) = q := ⟨_, rfl⟩
  obtain ⟨r, hr⟩ : ∃ r, sg * (v % 4294967296) = r := ⟨_, rfl⟩
  obtain ⟨Z, hZ⟩ : ∃ Z, T + sg * v = Z := ⟨_, rfl⟩
  have hll0 : 0 ≤ ll ∧ ll < 4294967296 := by omega
  have hhb : -2305843009213693952 ≤ hh ∧ hh ≤ 2305843009213693952 := by omega
  have hqb : -2147483648 ≤ q ∧ q ≤ 2147483647 := by rcases hs with rfl | rfl <;> omega
  have hrb : -4294967296 < r ∧ r < 4294967296 := by rcases hs with rfl | rfl <;> omega
  have hsum : (hh + q) * 4294967296 + (ll + r) = Z := by rcases hs with rfl | rfl <;> omega
  have wa := wrap_quo h0 h1
  have wb := wrap_rem h0 h1
  have wb2 : v.tmod 4294967296 = v % 4294967296 := by rw [Int.tmod_eq_emod_of_nonneg h0]
  have wc : wrap64 (sg * (v / 4294967296)) = q := by rw [hq]; exact wrap_in (by omega) (by omega)
  have wd : wrap64 (sg * (v % 4294967296)) = r := by rw [hr]; exact wrap_in (by omega) (by omega)
  have we : wrap64 (hh + q) = hh + q := wrap_in (by omega) (by omega)
  have wf : wrap64 (ll + r) = ll + r := wrap_in (by omega) (by omega)
  rw [hhh, hll, hZ]
  have HSUM := Lib.hid hsum
  have HB := Lib.hid (show (-4294967296 < ll + r ∧ ll + r < 8589934592) ∧ (-2305843011361177600 ≤ hh + q ∧ hh + q ≤ 2305843011361177600) from by omega)
  have HP := Lib.hid (pbox_new w hh ll)
  obtain ⟨w0, hw0⟩ : ∃ w0, (w.alloc (.cells #[.int .i64 hh, .int .i64 ll] 134)).alloc (.cells #[.int .i64 0, .int .i64 0] 134) = w0 := ⟨_, rfl⟩
  rw [hw0] at HP
  clear hsum hll0 hhb hqb hrb hq hr hhh hll hZ hT0 hT1 hs h0 h1
  go_enter Tryz.func114, Tryz.ntmps114
  go_upto_region 1 with fail
  clear hw0
  go_cut [] (fun wx => PBox w wx w.heap.size (hh + q) ll)
  case first =>
    have c0 := HP.out.c0
    have fz := HP.out.fz
    have HN := Lib.hid (HP.out.set0 (hh + q))
    clear wb wb2 wd wf
    go_wp2
    go_meet
    exact HN.out
  case rest =>
    rename World => w1
    clear HP wa wc we
    have HP1 := Lib.hid hcut
    clear hcut
    go_upto_region 2 with fail
    go_cut [] (fun wx => PBox w wx w.heap.size (hh + q) (ll + r))
    case first =>
      have c1 := HP1.out.c1
      have fz := HP1.out.fz
      have HN := Lib.hid (HP1.out.set1 (ll + r))
      go_wp2
      go_meet
      exact HN.out
    case rest =>
      rename World => w2
      clear HP1 wb wb2 wd wf
      have HP2 := Lib.hid hcut
      clear hcut
      obtain ⟨h2, hh2⟩ : ∃ h2, hh + q = h2 := ⟨_, rfl⟩
      obtain ⟨l2, hl2⟩ : ∃ l2, ll + r = l2 := ⟨_, rfl⟩
      rw [hh2, hl2] at HSUM HB HP2
      clear hh2 hl2
      go_wp2
      go_loopg [] 1 (fun k wr => ∃ h l : Int, Hid (PBox w wr w.heap.size h l) ∧ Hid (h * 4294967296 + l = Z) ∧ Hid (l < 8589934592 ∧ (if l < 0 then 1 else 0) ≤ k ∧ -4294967296 < l ∧ -2305843011361177602 + (k : Int) ≤ h ∧ h ≤ 2305843011361177600))
      case atStart => exact ⟨h2, l2, HP2.out, HSUM.out, by have := HB.out; refine ⟨?_, ?_, ?_, ?_, ?_⟩ <;> first | omega | (split <;> omega)⟩
      case round =>
        obtain ⟨h, l, hp, hz, hbd⟩ := hrel
        obtain ⟨wo, rfl⟩ : ∃ wo, wo = wr := ⟨_, rfl⟩
        have HPO := Lib.hid hp.out
        have HZ := Lib.hid hz.out
        have HBD := Lib.hid hbd.out
        clear hp hz hbd
        by_cases hl : l < 0
        · have hgk : 0 < gk := by have := HBD.out.2.1; rw [if_pos hl] at this; omega
          have wa : wrap64 (l + 4294967296) = l + 4294967296 := by have := HBD.out; exact wrap_in (by omega) (by omega)
          have wb : wrap64 (h - 1) = h - 1 := by have := HBD.out; exact wrap_in (by omega) (by omega)
          have c1 := HPO.out.c1
          have fz := HPO.out.fz
          go_upto_region 4 with fail
          go_cut [] (fun wx => PBox w wx w.heap.size h (l + 4294967296))
          case first =>
            have HN := Lib.hid (HPO.out.set1 (l + 4294967296))
            go_wp2
            go_meet
            exact HN.out
          case rest =>
            rename World => w3
            clear c1 fz
            have HP3 := Lib.hid hcut
            clear hcut
            have c0 := HP3.out.c0
            have fz := HP3.out.fz
            have HN := Lib.hid (HP3.out.set0 (h - 1))
            go_wp2
            go_roundg 0
            case measure => exact hgk
            case rel =>
              have := HBD.out
              have := HZ.out
              refine ⟨h - 1, l + 4294967296, HN.out, ?_, ?_⟩
              · show (h - 1) * 4294967296 + (l + 4294967296) = Z
                omega
              · show l + 4294967296 < 8589934592 ∧ _
                refine ⟨by omega, by rw [if_neg (by omega)]; omega, by omega, by omega, by omega⟩
        · have c1 := HPO.out.c1
          go_upto_region 6 with fail
          clear c1
          have hl0 : 0 ≤ l := by omega
          have HLL := Lib.hid (show l < 8589934592 from HBD.out.1)
          have wa := wrap_quo hl0 (show l ≤ 9223372036854775807 by have := HLL.out; omega)
          have wb := wrap_rem hl0 (show l ≤ 9223372036854775807 by have := HLL.out; omega)
          have wc : wrap64 (h + l / 4294967296) = h + l / 4294967296 := by have := HBD.out; exact wrap_in (by omega) (by omega)
          go_cut [] (fun wx => PBox w wx w.heap.size (h + l / 4294967296) l)
          case first =>
            have c0 := HPO.out.c0
            have c1 := HPO.out.c1
            have fz := HPO.out.fz
            have HN := Lib.hid (HPO.out.set0 (h + l / 4294967296))
            go_wp2
            go_meet
            exact HN.out
          case rest =>
            rename World => w3
            have HP3 := Lib.hid hcut
            clear hcut HPO wa wc
            have e1 := Lib.hid (show h + l / 4294967296 = Z / 4294967296 by have := HZ.out; omega)
            have e2 := Lib.hid (show l % 4294967296 = Z % 4294967296 by have := HZ.out; omega)
            rw [e1.out] at HP3
            go_upto_region 7 with fail
            go_cut [] (fun wx => PBox w wx w.heap.size (Z / 4294967296) (l % 4294967296))
            case first =>
              have c1 := HP3.out.c1
              have fz := HP3.out.fz
              have HN := Lib.hid (HP3.out.set1 (l % 4294967296))
              go_wp2
              go_meet
              exact HN.out
            case rest =>
              rename World => w4
              have HP4 := Lib.hid hcut
              clear hcut HP3 wb
              rw [e2.out] at HP4
              have c0 := HP4.out.c0
              have c1 := HP4.out.c1
              have hone : (#[.int .i64 (Z / 4294967296), .int .i64 (Z % 4294967296)] : Array Value).all (·.oneCell') = true := by simp [Value.oneCell']
              have hinf : (Tryz.prog.info? 134).map (·.size) = some 2 := by kernel_rfl
              go_wp2_with (refine wpList_store_row rfl 134 (.tmp 6) (.tmp 45) rfl (w.heap.size + 1) #[.int .i64 (Z / 4294967296), .int .i64 (Z % 4294967296)] rfl rfl _ _ HP4.out.res hinf rfl hone ?_)
              (try simp only [Exit.inBlock, Exit.then])
              refine bodyPost_ret (results_cell_row rfl _ _ (w.heap.size + 1) 134 #[.int .i64 (Z / 4294967296), .int .i64 (Z % 4294967296)] (0, 0) _ rfl (setRow_heap _ _ _ _ _ _ HP4.out.res) Tryz.underlying134 rfl hinf) rfl ?_
              exact ⟨rfl, below_setRow HP4.out.below (Nat.le_succ _) _⟩
end Go.Proofs.YtalkdddeiebfmaaGreatDoor
/- The document's ledger: used, count. -/
namespace Go.Proofs.YtalkdddeiebfmaaGreatDoor
open Go.RowKit

/-- what a list of uses has of a resource -/
def usesAt (U : List Amt) (r : ByteArray) : Int := (U.map fun a => if a.name = r then a.val else 0).sum
def inE (e : EntV) (x : Pl) : Bool := inB e.line x.1 && inSc e.scopes ⟨x.2.1.1, x.2.1.2⟩
def entAmt (e : EntV) (x : Pl) : Int := if inE e x = true then e.sign * usesAt e.uses x.2.2 else 0
def totE (es : List EntV) (x : Pl) : Int := (es.map fun e => entAmt e x).sum
def cntE (es : List EntV) (p : ByteArray) : Int := (es.map fun e => if inB e.line p = true then e.sign else 0).sum
structure EntOk (e : EntV) : Prop where
  sign : e.sign = 1 ∨ e.sign = -1
  val : ∀ a ∈ e.uses, 0 ≤ a.val ∧ a.val ≤ 9223372036854775807
  nod : (e.uses.map Amt.name).Nodup
  l1 : e.line.length ≤ 9223372036854775806
  l2 : e.scopes.length ≤ 9223372036854775806
  l3 : e.uses.length ≤ 9223372036854775806
theorem usesAt_out : ∀ {U : List Amt} {r : ByteArray}, r ∉ U.map Amt.name → usesAt U r = 0
  | [], _, _ => rfl
  | a :: U, r, h => by
    simp only [List.map_cons, List.mem_cons, not_or] at h
    have h1 := usesAt_out h.2
    unfold usesAt at h1 ⊢
    rw [List.map_cons, List.sum_cons, if_neg (fun e => h.1 e.symm), h1]; rfl
theorem usesAt_bound : ∀ {U : List Amt} (r : ByteArray), (U.map Amt.name).Nodup → (∀ a ∈ U, 0 ≤ a.val ∧ a.val ≤ 9223372036854775807) → 0 ≤ usesAt U r ∧ usesAt U r ≤ 9223372036854775807
  | [], _, _, _ => by simp [usesAt]
  | a :: U, r, hn, hv => by
    rw [List.map_cons, List.nodup_cons] at hn
    have h1 := usesAt_bound (U := U) r hn.2 (fun b hb => hv b (List.mem_cons_of_mem _ hb))
    have h2 := hv a List.mem_cons_self
    by_cases e : a.name = r
    · have h3 := usesAt_out (U := U) (r := r) (e ▸ hn.1)
      unfold usesAt at h1 h3 ⊢
      rw [List.map_cons, List.sum_cons, if_pos e, h3]; omega
    · unfold usesAt at h1 ⊢
      rw [List.map_cons, List.sum_cons, if_neg e]; omega
theorem usesAt_take {U : List Amt} {r : ByteArray} {j : Nat} (h : j < U.length) : usesAt (U.take (j + 1)) r = usesAt (U.take j) r + (if U[j].name = r then U[j].val else 0) := by
  unfold usesAt
  rw [List.take_succ_eq_append_getElem h, List.map_append, List.sum_append]; simp
theorem nodup_take {α : Type} {l : List α} (h : l.Nodup) (j : Nat) : (l.take j).Nodup := h.sublist (List.take_sublist j l)
theorem EntOk.part {e : EntV} (h : EntOk e) (j : Nat) (r : ByteArray) : 0 ≤ usesAt (e.uses.take j) r ∧ usesAt (e.uses.take j) r ≤ 9223372036854775807 :=
  usesAt_bound r (by rw [List.map_take]; exact nodup_take h.nod j) fun a ha => h.val a (List.mem_of_mem_take ha)
theorem EntOk.amt {e : EntV} (h : EntOk e) (x : Pl) : -9223372036854775807 ≤ entAmt e x ∧ entAmt e x ≤ 9223372036854775807 := by
  have h1 := usesAt_bound x.2.2 h.nod h.val
  unfold entAmt
  split
  · rcases h.sign with e | e <;> rw [e] <;> omega
  · omega
theorem totE_take {es : List EntV} {x : Pl} {i : Nat} (h : i < es.length) : totE (es.take (i + 1)) x = totE (es.take i) x + entAmt es[i] x := by
  unfold totE
  rw [List.take_succ_eq_append_getElem h, List.map_append, List.sum_append]; simp
theorem cntE_take {es : List EntV} {p : ByteArray} {i : Nat} (h : i < es.length) : cntE (es.take (i + 1)) p = cntE (es.take i) p + (if inB es[i].line p = true then es[i].sign else 0) := by
  unfold cntE
  rw [List.take_succ_eq_append_getElem h, List.map_append, List.sum_append]; simp
theorem totE_bound : ∀ {es : List EntV} (x : Pl), (∀ e ∈ es, EntOk e) → -9223372036854775807 * (es.length : Int) ≤ totE es x ∧ totE es x ≤ 9223372036854775807 * (es.length : Int)
  | [], _, _ => by simp [totE]
  | e :: es, x, h => by
    have h1 := totE_bound (es := es) x fun b hb => h b (List.mem_cons_of_mem _ hb)
    have h2 := (h e List.mem_cons_self).amt x
    unfold totE at h1 ⊢
    rw [List.map_cons, List.sum_cons, List.length_cons]
    omega
theorem cntE_bound : ∀ {es : List EntV} (p : ByteArray), (∀ e ∈ es, EntOk e) → -(es.length : Int) ≤ cntE es p ∧ cntE es p ≤ es.length
  | [], _, _ => by simp [cntE]
  | e :: es, p, h => by
    have h1 := cntE_bound (es := es) p fun b hb => h b (List.mem_cons_of_mem _ hb)
    have h2 := (h e List.mem_cons_self).sign
    unfold cntE at h1 ⊢
    rw [List.map_cons, List.sum_cons, List.length_cons]
    split <;> rcases h2 with h2 | h2 <;> omega
theorem totE_part {es : List EntV} {x : Pl} {i : Nat} (h : ∀ e ∈ es, EntOk e) (hl : es.length ≤ 1073741823) : -9903520305059670161264476161 ≤ totE (es.take i) x ∧ totE (es.take i) x ≤ 9903520305059670161264476161 := by
  have h1 := totE_bound (es := es.take i) x fun b hb => h b (List.mem_of_mem_take hb)
  have h2 : (es.take i).length ≤ es.length := by rw [List.length_take]; omega
  omega
/-- the sum's box, the result's, the scope's -/
structure UBox (w0 wx : World) (b : Nat) (s : ScV) (T : Int) : Prop where
  sc : wx.heap[b]? = some (.cells #[.int .i64 s.kind, .int .i64 s.arg] 47 (0, 0))
  res : wx.heap[b + 1]? = some (.cells #[.int .i64 0, .int .i64 0] 134 (0, 0))
  box : wx.heap[b + 1 + 1]? = some (.cells #[.int .i64 (T / 4294967296), .int .i64 (T % 4294967296)] 134 (0, 0))
  below : Below b w0 wx
section
variable {w0 wx w' : World} {b : Nat} {s : ScV} {T : Int}
theorem UBox.lt (k : UBox w0 wx b s T) : b + 1 + 1 < wx.heap.size := (Array.getElem?_eq_some_iff.1 k.box).1
theorem UBox.then_ (k : UBox w0 wx b s T) (hb : Below wx.heap.size wx w') : UBox w0 w' b s T := by
  have hlt := k.lt
  exact ⟨(hb.block _ (by omega)).trans k.sc, (hb.block _ (by omega)).trans k.res, (hb.block _ hlt).trans k.box, k.below.trans (hb.mono (by omega))⟩
theorem UBox.s0 (k : UBox w0 wx b s T) : wx.cell? ⟨b, 0, none⟩ = some (.int .i64 s.kind) := (cell_of_row _ _ _ _ _ _ k.sc).trans rfl
theorem UBox.s1 (k : UBox w0 wx b s T) : wx.cell? ⟨b, 1, none⟩ = some (.int .i64 s.arg) := (cell_of_row _ _ _ _ _ _ k.sc).trans rfl
theorem UBox.c0 (k : UBox w0 wx b s T) : wx.cell? ⟨b + 1 + 1, 0, none⟩ = some (.int .i64 (T / 4294967296)) := (cell_of_row _ _ _ _ _ _ k.box).trans rfl
theorem UBox.c1 (k : UBox w0 wx b s T) : wx.cell? ⟨b + 1 + 1, 1, none⟩ = some (.int .i64 (T % 4294967296)) := (cell_of_row _ _ _ _ _ _ k.box).trans rfl
theorem UBox.put (k : UBox w0 wx b s T) (U : Int) : UBox w0 (wx.setRow (b + 1 + 1) #[.int .i64 (U / 4294967296), .int .i64 (U % 4294967296)]) b s U :=
  ⟨(setRow_other _ _ _ _ (by omega)).trans k.sc, (setRow_other _ _ _ _ (by omega)).trans k.res, setRow_heap _ _ _ _ _ _ k.box, below_setRow k.below (by omega) _⟩
end
theorem uBox_new (w : World) (s : ScV) : UBox w (((w.alloc (.cells #[.int .i64 s.kind, .int .i64 s.arg] 47)).alloc (.cells #[.int .i64 0, .int .i64 0] 134)).alloc (.cells #[.int .i64 0, .int .i64 0] 134)) w.heap.size s 0 := by
  have h1 := heap_alloc2_old w (.cells #[.int .i64 s.kind, .int .i64 s.arg] 47) (.cells #[.int .i64 0, .int .i64 0] 134)
  have h2 := heap_alloc2_new w (.cells #[.int .i64 s.kind, .int .i64 s.arg] 47) (.cells #[.int .i64 0, .int .i64 0] 134)
  have hl := (Array.getElem?_eq_some_iff.1 h2).1
  refine ⟨(heap_alloc_old _ _ (by omega)).trans h1, (heap_alloc_old _ _ hl).trans h2, ?_, (((Below.refl _ _).alloc (Nat.le_refl _) _).alloc (by simp) _).alloc (by simp; omega) _⟩
  have := heap_alloc_new ((w.alloc (.cells #[.int .i64 s.kind, .int .i64 s.arg] 47)).alloc (.cells #[.int .i64 0, .int .i64 0] 134)) (.cells #[.int .i64 0, .int .i64 0] 134)
  simp only [heap_size_alloc'] at this
  exact this
set_option maxRecDepth 100000 in
set_option maxHeartbeats 2000000 in
theorem rused_any (es : List EntV) (n : Nat) (hn : es.length = n) (A : Option Addr) (c : Nat) (P : Nat → Prop) (p : ByteArray) (s : ScV) (r : ByteArray) (w : World) (hr : Row kEnt P w A es) (hok : ∀ e ∈ es, EntOk e) (hl : n ≤ 1073741823) (T : Int) (hT : Hid (totE es (p, (s.kind, s.arg), r) = T)) :
    Calls Tryz.prog 76 #[.slice A n c, .string p, .agg #[.int .i64 s.kind, .int .i64 s.arg], .string r] w fun e w' => e = .returned (.agg #[.int .i64 (T / 4294967296), .int .i64 (T % 4294967296)]) ∧ Below w.heap.size w w' := by
  have HN := Lib.hid hn
  have HR := Lib.hid hr
  have HOK := Lib.hid hok
  have HU := Lib.hid (uBox_new w s)
  obtain ⟨w0, hw0⟩ : ∃ w0, ((w.alloc (.cells #[.int .i64 s.kind, .int .i64 s.arg] 47)).alloc (.cells #[.int .i64 0, .int .i64 0] 134)).alloc (.cells #[.int .i64 0, .int .i64 0] 134) = w0 := ⟨_, rfl⟩
  rw [hw0] at HU
  clear hn hr hok
  go_enter Tryz.func76, Tryz.ntmps76
  go_wp2
  clear hw0
  go_loopw [10] (fun iv wr => ∃ i : Nat, iv = .int .i64 i ∧ i ≤ n ∧ Hid (UBox w wr w.heap.size s (totE (es.take i) (p, (s.kind, s.arg), r)))) (fun iv _ => n - (intOf iv).toNat)
  case atStart => exact ⟨0, rfl, Nat.zero_le _, HU.out⟩
  case round =>
    obtain ⟨i, rfl, hi, hu⟩ := hrel
    obtain ⟨wo, rfl⟩ : ∃ wo, wo = wr := ⟨_, rfl⟩
    by_cases hlt : i < n
    · have hil : i < es.length := by rw [HN.out]; exact hlt
      have hstep := totE_take (x := (p, (s.kind, s.arg), r)) hil
      have hb := totE_part (x := (p, (s.kind, s.arg), r)) (i := i) HOK.out (by rw [HN.out]; exact hl)
      have hoe := HOK.out _ (List.getElem_mem hil)
      obtain ⟨a, A1, k1, A2, k2, A3, k3, rfl, hab, hx⟩ := ent_at (HR.out.lt.keep fun k hk _ => hu.out.below.block k hk.2) i hil
      obtain ⟨x, hxe⟩ : ∃ x, es[i] = x := ⟨_, rfl⟩
      rw [hxe] at hstep hoe hx
      obtain ⟨T0, hT0⟩ : ∃ T0, totE (es.take i) (p, (s.kind, s.arg), r) = T0 := ⟨_, rfl⟩
      rw [hT0] at hstep hb hu
      have HX := Lib.hid hx
      have HAB := Lib.hid hab.2
      have HSTEP := Lib.hid hstep
      have HB := Lib.hid hb
      have HOE := Lib.hid hoe
      have HUO := Lib.hid hu.out
      have hlti : (i : Int) < (n : Int) := by omega
      have hi0 : (0 : Int) ≤ (i : Int) := by omega
      obtain ⟨n1, hn1⟩ : ∃ n1, x.line.length = n1 := ⟨_, rfl⟩
      obtain ⟨n2, hn2⟩ : ∃ n2, x.scopes.length = n2 := ⟨_, rfl⟩
      obtain ⟨n3, hn3⟩ : ∃ n3, x.uses.length = n3 := ⟨_, rfl⟩
      obtain ⟨x0, x1, x2, x3, -, -, -⟩ := hx
      rw [hn1] at x0
      rw [hn2] at x1
      rw [hn3] at x2
      have X0 := Lib.hid x0
      have X1 := Lib.hid x1
      have X2 := Lib.hid x2
      have X3 := Lib.hid x3
      have HN1 := Lib.hid hn1
      have HN2 := Lib.hid hn2
      have HN3 := Lib.hid hn3
      have HS0 := Lib.hid hu.out.s0
      have HS1 := Lib.hid hu.out.s1
      clear hstep hb hoe hxe hT0 hu hab hn1 hn2 hn3 x0 x1 x2 x3
      go_upto_region 5 with fail
      have z0 := fun z : BW wo => (z.h.cell (World.block_lt_of_cell? _ _ X0.out)).trans X0.out
      have z1 := fun z : BW wo => (z.h.cell (World.block_lt_of_cell? _ _ X1.out)).trans X1.out
      have z2 := fun z : BW wo => (z.h.cell (World.block_lt_of_cell? _ _ X2.out)).trans X2.out
      have z3 := fun z : BW wo => (z.h.cell (World.block_lt_of_cell? _ _ X3.out)).trans X3.out
      have z4 := fun z : BW wo => (z.h.cell (World.block_lt_of_cell? _ _ HS0.out)).trans HS0.out
      have z5 := fun z : BW wo => (z.h.cell (World.block_lt_of_cell? _ _ HS1.out)).trans HS1.out
      have C1 := Lib.hid (fun z : BW wo => eunder_any x.line n1 HN1.out A1 k1 A2 n2 k2 A3 n3 k3 x.sign _ p z.w (HX.out.r1.below z.h) (by rw [← HN1.out]; exact HOE.out.l1))
      have C2 := Lib.hid (fun z : BW wo => ein_any x.scopes n2 HN2.out A1 n1 k1 A2 k2 A3 n3 k3 x.sign _ s z.w (HX.out.r2.below z.h) (by rw [← HN2.out]; exact HOE.out.l2))
      obtain ⟨b1, hb1⟩ : ∃ b1, inB x.line p = b1 := ⟨_, rfl⟩
      obtain ⟨b2, hb2⟩ : ∃ b2, inSc x.scopes s = b2 := ⟨_, rfl⟩
      rw [hb1] at C1
      rw [hb2] at C2
      have HAMT := Lib.hid (show entAmt x (p, (s.kind, s.arg), r) = if (b1 && b2) = true then x.sign * usesAt x.uses r else 0 from by
        unfold entAmt inE; rw [hb1, hb2])
      clear hb1 hb2
      refine wp_region_pure (by kernel_rfl) (by kernel_rfl) ?_
      cases b1
      · repeat (first | go_big_quiet_step (first | (go_at_call 112; exact Calls.pure_of (C1.out _)) | (go_at_call 113; exact Calls.pure_of (C2.out _))) | quiet_step (first | (go_at_call 112; exact Calls.pure_of (C1.out _)) | (go_at_call 113; exact Calls.pure_of (C2.out _))))
        refine wpQuiet_nil ?_
        rintro _ ⟨z, rfl⟩
        clear z0 z1 z2 z3 z4 z5
        go_wp2
        go_roundw
        case rel => exact ⟨i + 1, by go_num, hlt, by have := HUO.out.then_ z.h; rw [HSTEP.out, HAMT.out]; simpa [Hid] using this⟩
        case measure => simp [intOf]; omega
      · cases b2
        · repeat (first | go_big_quiet_step (first | (go_at_call 112; exact Calls.pure_of (C1.out _)) | (go_at_call 113; exact Calls.pure_of (C2.out _))) | quiet_step (first | (go_at_call 112; exact Calls.pure_of (C1.out _)) | (go_at_call 113; exact Calls.pure_of (C2.out _))))
          refine wpQuiet_nil ?_
          rintro _ ⟨z, rfl⟩
          clear z0 z1 z2 z3 z4 z5
          go_wp2
          go_roundw
          case rel => exact ⟨i + 1, by go_num, hlt, by have := HUO.out.then_ z.h; rw [HSTEP.out, HAMT.out]; simpa [Hid] using this⟩
          case measure => simp [intOf]; omega
        · repeat (first | go_big_quiet_step (first | (go_at_call 112; exact Calls.pure_of (C1.out _)) | (go_at_call 113; exact Calls.pure_of (C2.out _))) | quiet_step (first | (go_at_call 112; exact Calls.pure_of (C1.out _)) | (go_at_call 113; exact Calls.pure_of (C2.out _))))
          refine wpQuiet_nil ?_
          rintro _ ⟨z, rfl⟩
          clear z0 z1 z2 z3 z4 z5
          obtain ⟨zw, hzb⟩ := z
          have HZU := Lib.hid (HUO.out.then_ hzb)
          have HXZ := Lib.hid (HX.out.below hzb)
          have HZB := Lib.hid hzb
          have y2 := HXZ.out.c2
          rw [HN3.out] at y2
          go_wp2
          clear y2
          go_loopw [12] (fun jv wr => ∃ j : Nat, jv = .int .i64 j ∧ j ≤ n3 ∧ Hid (UBox w wr w.heap.size s (T0 + x.sign * usesAt (x.uses.take j) r))) (fun jv _ => n3 - (intOf jv).toNat)
          case atStart => exact ⟨0, rfl, Nat.zero_le _, by have := HZU.out; simpa [usesAt, Hid] using this⟩
          case round =>
            obtain ⟨j, rfl, hj, huj⟩ := hrel
            obtain ⟨wp, rfl⟩ : ∃ wp, wp = wr := ⟨_, rfl⟩
            have HUJ := Lib.hid huj.out
            clear huj
            by_cases hltj : j < n3
            · have hltj3 : j < x.uses.length := by rw [HN3.out]; exact hltj
              have hltj2 : (j : Int) < (n3 : Int) := by omega
              have hj0 : (0 : Int) ≤ (j : Int) := by omega
              have hn3b : n3 ≤ 9223372036854775806 := by rw [← HN3.out]; exact HOE.out.l3
              obtain ⟨b3, rfl, -, m0, m1⟩ := amt_at (HX.out.r3.keep fun k hk _ => (HUJ.out.below.block k hk.2).trans (HUO.out.below.block k hk.2).symm) j hltj3
              have ht := usesAt_take (r := r) hltj3
              have hv := HOE.out.val _ (List.getElem_mem hltj3)
              have hpb := HOE.out.part j r
              obtain ⟨y, hy⟩ : ∃ y, x.uses[j] = y := ⟨_, rfl⟩
              rw [hy] at m0 m1 ht hv
              have HT := Lib.hid ht
              have HV := Lib.hid hv
              have HPB := Lib.hid hpb
              clear ht hv hpb hy
              by_cases he : y.name = r
              · have e1 : (y.name.toList == r.toList) = true := by rw [bytes_beq]; simpa using he
                have HNEW := Lib.hid (show T0 + x.sign * usesAt (x.uses.take j) r + x.sign * y.val = T0 + x.sign * usesAt (x.uses.take (j + 1)) r by
                  rw [HT.out, if_pos he, Int.mul_add]; omega)
                have hsg := HOE.out.sign
                have hTB := Lib.hid (show -9903520314283042199192993792 ≤ T0 + x.sign * usesAt (x.uses.take j) r ∧ T0 + x.sign * usesAt (x.uses.take j) r ≤ 9903520314283042199192993792 from by
                  have h1 := HB.out
                  have h2 := HPB.out
                  rcases hsg with e | e <;> rw [e] <;> omega)
                have HSG := Lib.hid hsg
                clear he hsg
                have c0 := HUJ.out.c0
                have c1 := HUJ.out.c1
                have y3 : wp.cell? ⟨(a.add (i * 4)).block, (a.add (i * 4)).off + 3, none⟩ = some (.int .i64 x.sign) :=
                  (World.cell?_of_block (w := wo) (by show wp.heap[(a.add (i * 4)).block]? = _; rw [add_block]; exact (HUJ.out.below.block _ HAB.out).trans (HUO.out.below.block _ HAB.out).symm)).trans X3.out
                obtain ⟨T1, hT1⟩ : ∃ T1, T0 + x.sign * usesAt (x.uses.take j) r = T1 := ⟨_, rfl⟩
                rw [hT1] at c0 c1 HUJ HNEW hTB
                clear hT1
                go_upto_region 11 with fail
                go_still_tail 11, (by kernel_rfl)
                change wpList _ _ _ _ _ wp.drew
                clear c0 c1 y3 m0 m1
                have hone : (#[.int .i64 ((T1 + x.sign * y.val) / 4294967296), .int .i64 ((T1 + x.sign * y.val) % 4294967296)] : Array Value).all (·.oneCell') = true := by simp [Value.oneCell']
                have hinf : (Tryz.prog.info? 134).map (·.size) = some 2 := by kernel_rfl
                go_wp2_with (first
                  | (go_at_call 114; have q := rplus_any T1 y.val x.sign HV.out.1 HV.out.2 HSG.out hTB.out.1 hTB.out.2 wp.drew; refine q.mono ?_; clear q; rintro e w5 ⟨rfl, hb5⟩; have HU5 := Lib.hid (HUJ.out.then_ ((Below.refl wp.heap.size wp).drew.trans hb5)); clear hb5)
                  | (refine wpList_store_row rfl 134 (.tmp 9) (.tmp 64) rfl (w.heap.size + 1 + 1) #[.int .i64 ((T1 + x.sign * y.val) / 4294967296), .int .i64 ((T1 + x.sign * y.val) % 4294967296)] rfl rfl _ _ HU5.out.box hinf rfl hone ?_))
                go_roundw
                case rel => exact ⟨j + 1, by go_num, hltj, by have := HU5.out.put (T1 + x.sign * y.val); rw [← HNEW.out]; exact this⟩
                case measure => simp [intOf]; omega
              · have e1 : (y.name.toList == r.toList) = false := by rw [bytes_beq]; simpa using he
                have HNEW := Lib.hid (show T0 + x.sign * usesAt (x.uses.take j) r = T0 + x.sign * usesAt (x.uses.take (j + 1)) r by
                  rw [HT.out, if_neg he]; simp)
                clear he
                go_wp2
                go_roundw
                case rel => exact ⟨j + 1, by go_num, hltj, by have := HUJ.out; rw [HNEW.out] at this; exact this⟩
                case measure => simp [intOf]; omega
            · have hge2 : ¬ ((j : Int) < (n3 : Int)) := by omega
              have HF := Lib.hid (show T0 + x.sign * usesAt (x.uses.take j) r = totE (es.take (i + 1)) (p, (s.kind, s.arg), r) by
                rw [HSTEP.out, HAMT.out, List.take_of_length_le (by rw [HN3.out]; omega)]; simp)
              go_wp2
              go_roundw
              case rel => exact ⟨i + 1, by go_num, hlt, by have := HUJ.out; rw [HF.out] at this; exact this⟩
              case measure => simp [intOf]; omega
    · have hge : ¬ ((i : Int) < (n : Int)) := by omega
      have HF := Lib.hid (show totE (es.take i) (p, (s.kind, s.arg), r) = T by rw [List.take_of_length_le (by rw [HN.out]; omega)]; exact hT.out)
      rw [HF.out] at hu
      have HUO := Lib.hid hu.out
      have c0 := hu.out.c0
      have c1 := hu.out.c1
      clear hu
      have hone : (#[.int .i64 (T / 4294967296), .int .i64 (T % 4294967296)] : Array Value).all (·.oneCell') = true := by simp [Value.oneCell']
      have hinf : (Tryz.prog.info? 134).map (·.size) = some 2 := by kernel_rfl
      go_wp2_with (refine wpList_store_row rfl 134 (.tmp 8) (.tmp 65) rfl (w.heap.size + 1) #[.int .i64 (T / 4294967296), .int .i64 (T % 4294967296)] rfl rfl _ _ HUO.out.res hinf rfl hone ?_)
      (try simp only [Exit.inBlock, Exit.then])
      refine bodyPost_ret (results_cell_row rfl _ _ (w.heap.size + 1) 134 _ (0, 0) _ rfl (setRow_heap _ _ _ _ _ _ HUO.out.res) Tryz.underlying134 rfl hinf) rfl ?_
      exact ⟨rfl, below_setRow HUO.out.below (Nat.le_succ _) _⟩
end Go.Proofs.YtalkdddeiebfmaaGreatDoor
/- The document's ledger: count, judge. -/
namespace Go.Proofs.YtalkdddeiebfmaaGreatDoor
open Go.RowKit

set_option maxRecDepth 100000 in
theorem rcount_any (es : List EntV) (n : Nat) (hn : es.length = n) (A : Option Addr) (c : Nat) (P : Nat → Prop) (p : ByteArray) (w : World) (hr : Row kEnt P w A es) (hok : ∀ e ∈ es, EntOk e) (hl : n ≤ 1073741823) (z : Int) (hz : Hid (cntE es p = z)) :
    Calls Tryz.prog 80 #[.slice A n c, .string p] w fun e w' => e = .returned (.int .i64 z) ∧ Below w.heap.size w w' := by
  have HN := Lib.hid hn
  have HR := Lib.hid hr
  have HOK := Lib.hid hok
  clear hn hr hok
  go_enter Tryz.func80, Tryz.ntmps80
  go_wp2
  go_loopw [5, 6] (fun nv iv wr => ∃ (i : Nat) (t : Int), iv = .int .i64 i ∧ nv = .int .i64 t ∧ i ≤ n ∧ Hid (cntE (es.take i) p = t) ∧ Hid (Below w.heap.size w wr)) (fun _ iv _ => n - (intOf iv).toNat)
  case atStart => exact ⟨0, 0, rfl, rfl, Nat.zero_le _, rfl, Below.refl _ _⟩
  case round =>
    obtain ⟨i, t, rfl, rfl, hi, ht, hb⟩ := hrel
    obtain ⟨wo, rfl⟩ : ∃ wo, wo = wr := ⟨_, rfl⟩
    by_cases hlt : i < n
    · have hil : i < es.length := by rw [HN.out]; exact hlt
      have hstep := cntE_take (p := p) hil
      have hbd := cntE_bound (es := es.take i) p fun e he => HOK.out e (List.mem_of_mem_take he)
      have hln : (es.take i).length ≤ 1073741823 := by rw [List.length_take]; omega
      have hoe := HOK.out _ (List.getElem_mem hil)
      obtain ⟨a, A1, k1, A2, k2, A3, k3, rfl, -, hx⟩ := ent_at (HR.out.below hb.out) i hil
      obtain ⟨x, hxe⟩ : ∃ x, es[i] = x := ⟨_, rfl⟩
      rw [hxe] at hstep hoe hx
      rw [ht.out] at hstep hbd
      have HSTEP := Lib.hid hstep
      have HOE := Lib.hid hoe
      have HBD := Lib.hid (show -1073741823 ≤ t ∧ t ≤ 1073741823 from by omega)
      have HR1 := Lib.hid hx.r1
      have HBO := Lib.hid hb.out
      have hlti : (i : Int) < (n : Int) := by omega
      have hi0 : (0 : Int) ≤ (i : Int) := by omega
      obtain ⟨n1, hn1⟩ : ∃ n1, x.line.length = n1 := ⟨_, rfl⟩
      have HN1 := Lib.hid hn1
      obtain ⟨x0, x1, x2, x3, -, -, -⟩ := hx
      rw [hn1] at x0
      have X3 := Lib.hid x3
      obtain ⟨b1, hb1⟩ : ∃ b1, inB x.line p = b1 := ⟨_, rfl⟩
      rw [hb1] at HSTEP
      have HB1 := Lib.hid hb1
      clear hstep hoe hxe ht hb hn1 hbd hln hb1
      cases b1
      · go_wp2_with (go_at_call 112; have q := eunder_any x.line n1 HN1.out A1 k1 A2 x.scopes.length k2 A3 x.uses.length k3 x.sign _ p wo HR1.out (by rw [← HN1.out]; exact HOE.out.l1); refine q.mono ?_; clear q; rintro e w2 ⟨rfl, hb2⟩; rw [HB1.out]; have HB2 := Lib.hid hb2; clear hb2)
        go_roundw
        case rel => exact ⟨i + 1, t, by go_num, rfl, hlt, by have := HSTEP.out; simpa [Hid] using this, HBO.out.trans (HB2.out.mono HBO.out.size)⟩
        case measure => simp [intOf]; omega
      · have wa : wrap64 (t + x.sign) = t + x.sign := by
          have h1 := HBD.out
          exact wrap_in (by rcases HOE.out.sign with e | e <;> rw [e] <;> omega) (by rcases HOE.out.sign with e | e <;> rw [e] <;> omega)
        go_wp2_with (go_at_call 112; have q := eunder_any x.line n1 HN1.out A1 k1 A2 x.scopes.length k2 A3 x.uses.length k3 x.sign _ p wo HR1.out (by rw [← HN1.out]; exact HOE.out.l1); refine q.mono ?_; clear q; rintro e w2 ⟨rfl, hb2⟩; rw [HB1.out]; have HB2 := Lib.hid hb2; have x3' := (hb2.cell (World.block_lt_of_cell? _ _ X3.out)).trans X3.out; clear hb2)
        go_roundw
        case rel => exact ⟨i + 1, t + x.sign, by go_num, by rw [wa], hlt, by have := HSTEP.out; simpa [Hid] using this, HBO.out.trans (HB2.out.mono HBO.out.size)⟩
        case measure => simp [intOf]; omega
    · have hge : ¬ ((i : Int) < (n : Int)) := by omega
      have HF := Lib.hid (show t = z by
        have h1 := ht.out
        rw [List.take_of_length_le (by rw [HN.out]; omega), hz.out] at h1
        exact h1.symm)
      have HBO := Lib.hid hb.out
      clear ht hb
      go_wp2
      go_ret
      exact ⟨by rw [HF.out]; rfl, HBO.out⟩
end Go.Proofs.YtalkdddeiebfmaaGreatDoor
/- The document's ledger: judge. -/
namespace Go.Proofs.YtalkdddeiebfmaaGreatDoor
open Go.RowKit

def badU (es : List EntV) (p : ByteArray) (s : ScV) (u : Amt) : Bool := decide (totE es (p, (s.kind, s.arg), u.name) < 0)
def ovU (es : List EntV) (p : ByteArray) (s : ScV) (u : Amt) : Bool := decide (9223372036854775808 ≤ totE es (p, (s.kind, s.arg), u.name))
def badP (es : List EntV) (x : EntV) (p : ByteArray) : Bool := decide (cntE es p < 0) || x.scopes.any fun s => x.uses.any (badU es p s)
def ovP (es : List EntV) (x : EntV) (p : ByteArray) : Bool := x.scopes.any fun s => x.uses.any (ovU es p s)
def judgeE (es : List EntV) (x : EntV) : Int := if x.line.any (badP es x) = true then 170 else if x.line.any (ovP es x) = true then 7 else 0
def eOf (b : Bool) : Int := if b = true then 7 else 0
theorem any_of {α : Type} {p : α → Bool} {l : List α} {i : Nat} (h : i < l.length) (hp : p l[i] = true) : l.any p = true := List.any_eq_true.2 ⟨_, List.getElem_mem h, hp⟩
theorem judge_bad {es : List EntV} {x : EntV} {i : Nat} (h : i < x.line.length) (hb : badP es x x.line[i] = true) : judgeE es x = 170 := by
  unfold judgeE; rw [any_of h hb]; rfl
set_option maxRecDepth 100000 in
set_option maxHeartbeats 2000000 in
theorem rjudge_any (es : List EntV) (n : Nat) (hn : es.length = n) (A : Option Addr) (c : Nat) (P Q : Nat → Prop) (x : EntV) (n1 n2 n3 : Nat) (hn1 : x.line.length = n1) (hn2 : x.scopes.length = n2) (hn3 : x.uses.length = n3) (A1 : Option Addr) (k1 : Nat) (A2 : Option Addr) (k2 : Nat) (A3 : Option Addr) (k3 : Nat) (w : World)
    (hr : Row kEnt P w A es) (hok : ∀ e ∈ es, EntOk e) (hl : n ≤ 1073741823) (hx : EntOk x) (h1 : Row Kn.str Q w A1 x.line) (h2 : Row kSc Q w A2 x.scopes) (h3 : Row kAmt Q w A3 x.uses) :
    Calls Tryz.prog 95 #[.slice A n c, .agg #[.slice A1 n1 k1, .slice A2 n2 k2, .slice A3 n3 k3, .int .i64 x.sign]] w fun e w' => e = .returned (.int .i64 (judgeE es x)) ∧ Below w.heap.size w w' := by
  have HN := Lib.hid hn
  have HN1 := Lib.hid hn1
  have HN2 := Lib.hid hn2
  have HN3 := Lib.hid hn3
  have HOK := Lib.hid hok
  have HX := Lib.hid hx
  have hl1 : n1 ≤ 9223372036854775806 := by rw [← hn1]; exact hx.l1
  have hl2 : n2 ≤ 9223372036854775806 := by rw [← hn2]; exact hx.l2
  have hl3 : n3 ≤ 9223372036854775806 := by rw [← hn3]; exact hx.l3
  have hb0 : Below w.heap.size w (w.alloc (.cells #[.slice A1 n1 k1, .slice A2 n2 k2, .slice A3 n3 k3, .int .i64 x.sign] 93)) := (Below.refl _ _).alloc (Nat.le_refl _) _
  have hbx := eBox_new w (.slice A1 n1 k1) (.slice A2 n2 k2) (.slice A3 n3 k3) (.int .i64 x.sign)
  obtain ⟨w0, hw0⟩ : ∃ w0, w.alloc (.cells #[.slice A1 n1 k1, .slice A2 n2 k2, .slice A3 n3 k3, .int .i64 x.sign] 93) = w0 := ⟨_, rfl⟩
  rw [hw0] at hb0 hbx
  have HB0 := Lib.hid hb0
  have HR := Lib.hid (hr.below hb0)
  have R1 := Lib.hid (h1.below hb0)
  have R2 := Lib.hid (h2.below hb0)
  have R3 := Lib.hid (h3.below hb0)
  obtain ⟨-, b0, b1, b2, b3⟩ := hbx
  clear hn hn1 hn2 hn3 hok hx hb0 hr h1 h2 h3
  go_enter Tryz.func95, Tryz.ntmps95
  go_wp2
  clear hw0 b0 b1 b2 b3
  go_loopw [8, 9] (fun ev iv wr => ∃ i : Nat, iv = .int .i64 i ∧ ev = .int .i64 (eOf ((x.line.take i).any (ovP es x))) ∧ i ≤ n1 ∧ Hid ((x.line.take i).any (badP es x) = false) ∧ Hid (Below w0.heap.size w0 wr)) (fun _ iv _ => n1 - (intOf iv).toNat)
  case atStart => exact ⟨0, rfl, rfl, Nat.zero_le _, rfl, Below.refl _ _⟩
  case round =>
    obtain ⟨i, rfl, rfl, hi, hno, hb⟩ := hrel
    obtain ⟨wo, rfl⟩ : ∃ wo, wo = wr := ⟨_, rfl⟩
    have HBO := Lib.hid hb.out
    by_cases hlt : i < n1
    · have hil : i < x.line.length := by rw [HN1.out]; exact hlt
      have HNO := Lib.hid (any_take_step (p := badP es x) hil)
      have HOV := Lib.hid (any_take_step (p := ovP es x) hil)
      rw [hno.out] at HNO
      obtain ⟨O1, hO1⟩ : ∃ O1, (x.line.take i).any (ovP es x) = O1 := ⟨_, rfl⟩
      rw [hO1] at HOV ⊢
      have HBAD := Lib.hid (fun h => judge_bad (es := es) (x := x) hil h)
      obtain ⟨a1, rfl, x00⟩ := row_str_at R1.out i hil
      obtain ⟨p, hp⟩ : ∃ p, x.line[i] = p := ⟨_, rfl⟩
      rw [hp] at HNO HOV HBAD x00
      have X0 := Lib.hid x00
      have x0 := (hb.out.cell (World.block_lt_of_cell? _ _ x00)).trans x00
      clear x00
      obtain ⟨z, hz⟩ : ∃ z, cntE es p = z := ⟨_, rfl⟩
      have HZ := Lib.hid hz
      have hlti : (i : Int) < (n1 : Int) := by omega
      have hi0 : (0 : Int) ≤ (i : Int) := by omega
      clear hO1 hp hno hb hz
      by_cases hzn : z < 0
      · have e1 : decide (z < 0) = true := by simpa using hzn
        have HRES := Lib.hid (HBAD.out (by unfold badP; rw [HZ.out, e1]; rfl))
        clear hzn
        go_wp2_with (go_at_call 80; have q := rcount_any es n HN.out A c _ p wo (HR.out.below HBO.out) HOK.out hl z HZ; refine q.mono ?_; clear q; rintro e w2 ⟨rfl, hb2⟩; have HB2 := Lib.hid hb2; clear hb2)
        go_ret
        exact ⟨by rw [HRES.out]; rfl, HB0.out.trans ((HBO.out.trans (HB2.out.mono HBO.out.size)).mono HB0.out.size)⟩
      · have e1 : decide (z < 0) = false := by simpa using hzn
        have HZF := Lib.hid e1
        clear hzn
        go_wp2_with (go_at_call 80; have q := rcount_any es n HN.out A c _ p wo (HR.out.below HBO.out) HOK.out hl z HZ; refine q.mono ?_; clear q; rintro e w2 ⟨rfl, hb2⟩; have HB2 := Lib.hid (HBO.out.trans (hb2.mono HBO.out.size)); clear hb2)
        clear e1 x0
        go_loopw [8, 10] (fun ev jv wr => ∃ j : Nat, jv = .int .i64 j ∧ ev = .int .i64 (eOf (O1 || (x.scopes.take j).any fun s => x.uses.any (ovU es p s))) ∧ j ≤ n2 ∧ Hid ((x.scopes.take j).any (fun s => x.uses.any (badU es p s)) = false) ∧ Hid (Below w0.heap.size w0 wr)) (fun _ jv _ => n2 - (intOf jv).toNat)
        case atStart => exact ⟨0, rfl, by simp, Nat.zero_le _, rfl, HB2.out⟩
        case round =>
          obtain ⟨j, rfl, rfl, hj, hnj, hbj⟩ := hrel
          obtain ⟨wp, rfl⟩ : ∃ wp, wp = wr := ⟨_, rfl⟩
          have HBJ := Lib.hid hbj.out
          by_cases hltj : j < n2
          · have hjl : j < x.scopes.length := by rw [HN2.out]; exact hltj
            have HNJ := Lib.hid (any_take_step (p := fun s => x.uses.any (badU es p s)) hjl)
            have HOJ := Lib.hid (any_take_step (p := fun s => x.uses.any (ovU es p s)) hjl)
            rw [hnj.out] at HNJ
            obtain ⟨O2, hO2⟩ : ∃ O2, (O1 || (x.scopes.take j).any fun s => x.uses.any (ovU es p s)) = O2 := ⟨_, rfl⟩
            have HO2 := Lib.hid hO2
            rw [hO2]
            obtain ⟨a2, rfl, s00, s10⟩ := sc_at R2.out j hjl
            have HBAD2 := Lib.hid (fun h => HBAD.out (by unfold badP; rw [any_of (p := fun s => x.uses.any (badU es p s)) hjl h, Bool.or_true]))
            obtain ⟨s, hs⟩ : ∃ s, x.scopes[j] = s := ⟨_, rfl⟩
            rw [hs] at HNJ HOJ HBAD2 s00 s10
            have S0 := Lib.hid s00
            have S1 := Lib.hid s10
            have hltj2 : (j : Int) < (n2 : Int) := by omega
            have hj0 : (0 : Int) ≤ (j : Int) := by omega
            clear hO2 hs hnj hbj s00 s10
            go_wp2
            go_loopw [8, 11] (fun ev kv wr => ∃ k : Nat, kv = .int .i64 k ∧ ev = .int .i64 (eOf (O2 || (x.uses.take k).any (ovU es p s))) ∧ k ≤ n3 ∧ Hid ((x.uses.take k).any (badU es p s) = false) ∧ Hid (Below w0.heap.size w0 wr)) (fun _ kv _ => n3 - (intOf kv).toNat)
            case atStart => exact ⟨0, rfl, by simp, Nat.zero_le _, rfl, HBJ.out⟩
            case round =>
              obtain ⟨k, rfl, rfl, hk, hnk, hbk⟩ := hrel
              obtain ⟨wq, rfl⟩ : ∃ wq, wq = wr := ⟨_, rfl⟩
              have HBK := Lib.hid hbk.out
              by_cases hltk : k < n3
              · have hkl : k < x.uses.length := by rw [HN3.out]; exact hltk
                have HNK := Lib.hid (any_take_step (p := badU es p s) hkl)
                have HOK2 := Lib.hid (any_take_step (p := ovU es p s) hkl)
                rw [hnk.out] at HNK
                obtain ⟨O3, hO3⟩ : ∃ O3, (O2 || (x.uses.take k).any (ovU es p s)) = O3 := ⟨_, rfl⟩
                have HO3 := Lib.hid hO3
                rw [hO3]
                obtain ⟨a3, rfl, -, m00, -⟩ := amt_at R3.out k hkl
                have HBAD3 := Lib.hid (fun h => HBAD2.out (any_of (p := badU es p s) hkl h))
                obtain ⟨u, hu⟩ : ∃ u, x.uses[k] = u := ⟨_, rfl⟩
                rw [hu] at HNK HOK2 HBAD3 m00
                have M0 := Lib.hid m00
                obtain ⟨T, hT⟩ : ∃ T, totE es (p, (s.kind, s.arg), u.name) = T := ⟨_, rfl⟩
                have HT := Lib.hid hT
                have hltk2 : (k : Int) < (n3 : Int) := by omega
                have hk0 : (0 : Int) ≤ (k : Int) := by omega
                have HZ := Lib.hid (show ∀ W, Below wq.heap.size wq W → W.cell? (a1.add i) = some (.string p) ∧ W.cell? (a2.add (j * 2)) = some (.int .i64 s.kind) ∧ W.cell? ⟨(a2.add (j * 2)).block, (a2.add (j * 2)).off + 1, none⟩ = some (.int .i64 s.arg) ∧ W.cell? (a3.add (k * 2)) = some (.string u.name) from fun W hb =>
                  have hB := HBK.out.trans (hb.mono HBK.out.size)
                  ⟨(hB.cell (World.block_lt_of_cell? _ _ X0.out)).trans X0.out, (hB.cell (World.block_lt_of_cell? _ _ S0.out)).trans S0.out, (hB.cell (World.block_lt_of_cell? _ _ S1.out)).trans S1.out, (hB.cell (World.block_lt_of_cell? _ _ M0.out)).trans M0.out⟩)
                have HCU := Lib.hid (fun W (hb : Below wq.heap.size wq W) => rused_any es n HN.out A c _ p s u.name W (HR.out.below (HBK.out.trans (hb.mono HBK.out.size))) HOK.out hl T HT)
                clear hO3 hu hnk hbk m00 hT
                go_upto_region 16 with fail
                go_cut [12] (fun sv wx => ∃ q, sv = .pointer (some ⟨q, 0, none⟩) ∧ wq.heap.size ≤ q ∧ wx.heap[q]? = some (.cells #[.int .i64 (T / 4294967296), .int .i64 (T % 4294967296)] 134 (0, 0)) ∧ Below wq.heap.size wq wx)
                case first =>
                  go_region_held3 (fun w' => w'.cell? (a1.add i) = some (.string p) ∧ w'.cell? (a2.add (j * 2)) = some (.int .i64 s.kind) ∧ w'.cell? ⟨(a2.add (j * 2)).block, (a2.add (j * 2)).off + 1, none⟩ = some (.int .i64 s.arg) ∧ w'.cell? (a3.add (k * 2)) = some (.string u.name)) (exact HZ.out _ (by repeat (first | exact HB5.out | exact Below.refl _ _ | refine Below.drew ?_ | refine Below.setCell ?_ (Nat.le_refl wq.heap.size) _ | refine Below.alloc ?_ (by first | exact HB5.out.size | simp) _))) (first
                    | (go_at_call 76; refine (HCU.out _ ?_).mono ?_; (repeat (first | exact Below.refl _ _ | refine Below.drew ?_ | refine Below.alloc ?_ (by simp) _)); rintro e w5 ⟨rfl, hb5⟩; have HB5 := Lib.hid (show Below wq.heap.size wq w5 from (show Below wq.heap.size wq _ from by (repeat (first | exact Below.refl _ _ | refine Below.drew ?_ | refine Below.alloc ?_ (by simp) _))).trans (hb5.mono (by simp))); (first | (have g := (hb5.block wq.heap.size (by simp)).trans (heap_alloc_new _ _); have g0 : w5.cell? ⟨wq.heap.size, 0, none⟩ = some (.int .i64 0) := (cell_of_row _ _ _ _ _ _ g).trans rfl; have g1 : w5.cell? ⟨wq.heap.size, 1, none⟩ = some (.int .i64 0) := (cell_of_row _ _ _ _ _ _ g).trans rfl; have gf : ∀ j, w5.frozen? ⟨wq.heap.size, j, none⟩ = false := fun j => frozen_of_row _ _ _ _ _ g; have G := Lib.hid g; clear g) | skip); clear hb5))
                  all_goals (go_wp2_with fail; go_meet; first
                    | exact ⟨_, rfl, HB5.out.size, heap_alloc_new _ _, HB5.out.alloc HB5.out.size _⟩
                    | exact ⟨_, rfl, Nat.le_refl _, (heap_setCell_same _ _ _ _ _ _ ((heap_setCell_same _ _ _ _ _ _ G.out).trans rfl)).trans rfl, Below.setCell (Below.setCell HB5.out (Nat.le_refl wq.heap.size) _) (Nat.le_refl wq.heap.size) _⟩)
                case rest =>
                  obtain ⟨q, rfl, hq, hbox, hbx⟩ := hcut
                  rename World => wx
                  have HBX := Lib.hid (HBK.out.trans (hbx.mono HBK.out.size))
                  have c0 : wx.cell? ⟨q, 0, none⟩ = some (.int .i64 (T / 4294967296)) := (cell_of_row _ _ _ _ _ _ hbox).trans rfl
                  clear hbox hbx hq HZ HCU
                  by_cases hT0 : T < 0
                  · have e1 : decide (T / 4294967296 < 0) = true := by simp; omega
                    have HRES := Lib.hid (HBAD3.out (by unfold badU; rw [HT.out]; simpa using hT0))
                    clear hT0
                    go_wp2
                    go_ret
                    exact ⟨by rw [HRES.out]; rfl, HB0.out.trans (HBX.out.mono HB0.out.size)⟩
                  · have e1 : decide (T / 4294967296 < 0) = false := by simp; omega
                    have HNB := Lib.hid (show (x.uses.take (k + 1)).any (badU es p s) = false by
                      rw [HNK.out]; unfold badU; rw [HT.out]; simpa using hT0)
                    clear hT0
                    by_cases hT1 : 9223372036854775808 ≤ T
                    · have e2 : decide (T / 4294967296 ≥ 2147483648) = true := by simp; omega
                      have HE := Lib.hid (show (O2 || (x.uses.take (k + 1)).any (ovU es p s)) = true by
                        rw [HOK2.out]; unfold ovU; rw [HT.out]; simp [hT1])
                      clear hT1
                      go_wp2
                      go_roundw
                      case rel => exact ⟨k + 1, by go_num, by rw [HE.out]; rfl, hltk, HNB.out, HBX.out⟩
                      case measure => simp [intOf]; omega
                    · have e2 : decide (T / 4294967296 ≥ 2147483648) = false := by simp; omega
                      have HE := Lib.hid (show (O2 || (x.uses.take (k + 1)).any (ovU es p s)) = O3 by
                        rw [HOK2.out, ← HO3.out]; unfold ovU; rw [HT.out]; simp [hT1])
                      clear hT1
                      go_wp2
                      go_roundw
                      case rel => exact ⟨k + 1, by go_num, by rw [HE.out], hltk, HNB.out, HBX.out⟩
                      case measure => simp [intOf]; omega
              · have hge3 : ¬ ((k : Int) < (n3 : Int)) := by omega
                have htk : x.uses.take k = x.uses := List.take_of_length_le (by rw [HN3.out]; omega)
                have HE := Lib.hid (show (O1 || (x.scopes.take (j + 1)).any fun s => x.uses.any (ovU es p s)) = (O2 || (x.uses.take k).any (ovU es p s)) by
                  rw [HOJ.out, ← HO2.out, htk, Bool.or_assoc])
                have HNB := Lib.hid (show ((x.scopes.take (j + 1)).any fun s => x.uses.any (badU es p s)) = false by
                  have h1 := hnk.out
                  rw [htk] at h1
                  rw [HNJ.out, h1]; rfl)
                clear htk hnk hbk
                go_wp2
                go_roundw
                case rel => exact ⟨j + 1, by go_num, by rw [HE.out], hltj, HNB.out, HBK.out⟩
                case measure => simp [intOf]; omega
          · have hge2 : ¬ ((j : Int) < (n2 : Int)) := by omega
            have htk : x.scopes.take j = x.scopes := List.take_of_length_le (by rw [HN2.out]; omega)
            have HE := Lib.hid (show (x.line.take (i + 1)).any (ovP es x) = (O1 || (x.scopes.take j).any fun s => x.uses.any (ovU es p s)) by
              rw [HOV.out, htk]; rfl)
            have HNB := Lib.hid (show (x.line.take (i + 1)).any (badP es x) = false by
              have h1 := hnj.out
              rw [htk] at h1
              rw [HNO.out]
              unfold badP
              rw [h1, HZ.out, HZF.out]; rfl)
            clear htk hnj hbj
            go_wp2
            go_roundw
            case rel => exact ⟨i + 1, by go_num, by rw [HE.out], hlt, HNB.out, HBJ.out⟩
            case measure => simp [intOf]; omega
    · have hge : ¬ ((i : Int) < (n1 : Int)) := by omega
      have htk : x.line.take i = x.line := List.take_of_length_le (by rw [HN1.out]; omega)
      have HRES := Lib.hid (show judgeE es x = eOf ((x.line.take i).any (ovP es x)) by
        have h1 := hno.out
        rw [htk] at h1 ⊢
        unfold judgeE
        rw [h1]; rfl)
      clear htk hno hb
      go_wp2
      go_ret
      exact ⟨by rw [HRES.out]; rfl, HB0.out.trans (HBO.out.mono HB0.out.size)⟩
end Go.Proofs.YtalkdddeiebfmaaGreatDoor
