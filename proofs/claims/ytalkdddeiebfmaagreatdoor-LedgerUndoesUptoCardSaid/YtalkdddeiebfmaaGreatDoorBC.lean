/- Laid together: U1 U2 U3 U4 U5 U6 U7 U8 U9. -/
import Derived.Test.YtalkdddeiebfmaaGreatDoorBA
import Derived.Test.YtalkdddeiebfmaaGreatDoorBB
import Derived.KernelRfl
import Derived.Deep.RegionHeld3
import Derived.Deep.RegionLaw
import Derived.Deep.DeepCutAuto
import Derived.Laws.EntriesVeiled
import Derived.Sort.KeysCollected
import Derived.Maps.Views
import Derived.Test.YtalkdddeiebfmaaGreatDoorShelf
/- Scopes: amounts and parts as they lie in memory; what a scope is, in plain words; Valid. -/
namespace Go.Proofs.YtalkdddeiebfmaaGreatDoor
open Go.RowKit

structure Amt where
  name : ByteArray
  val : Int
def Amt.cells (a : Amt) : List Value := [.string a.name, .int .i64 a.val]
def kAmt : Kn Amt := Kn.enc Amt.cells 2 (by omega) (fun _ => rfl) (fun x u hu => by simp [Amt.cells] at hu; rcases hu with rfl | rfl <;> rfl)
theorem kAmt_plain : kAmt.Plain := Kn.plain_enc
theorem amtElem : Elem Tryz.prog 41 45 kAmt 24 :=
  Elem.mk_ (z := .agg #[.string ⟨#[]⟩, .int .i64 0]) Tryz.underlying41 (by kernel_rfl) rfl (by omega)
structure PartV where
  name : ByteArray
  req : List Amt
  lim : List Amt
def kPart : Kn PartV := Kn.iso (Kn.pair Kn.str (Kn.pair (Kn.slice kAmt) (Kn.slice kAmt))) (fun p : PartV => (p.name, p.req, p.lim))
theorem kPart_sz : kPart.sz = 3 := rfl
theorem partElem : Elem Tryz.prog 24 43 kPart 64 :=
  Elem.mk_ (z := .agg #[.string ⟨#[]⟩, .slice none 0 0, .slice none 0 0]) Tryz.underlying24 (by kernel_rfl) rfl (by omega)
structure AmtAt (w : World) (a : Addr) (x : Amt) : Prop where
  c0 : w.cell? a = some (.string x.name)
  c1 : w.cell? ⟨a.block, a.off + 1, none⟩ = some (.int .i64 x.val)
theorem amt_at {P : Nat → Prop} {w : World} {A : Option Addr} {xs : List Amt} (h : Row kAmt P w A xs) (i : Nat) (hi : i < xs.length) : ∃ a, A = some a ∧ P a.block ∧ AmtAt w (a.add (i * 2)) xs[i] := by
  obtain ⟨a, cs, hA, hP, hr, hc⟩ := h.at_ i hi
  obtain rfl : cs = xs[i].cells := hr
  exact ⟨a, hA, hP, hc 0 _ rfl, by rw [← add_off _ _ 1 (by omega)]; exact hc 1 _ rfl⟩
structure PartAt (P : Nat → Prop) (w : World) (a : Addr) (x : PartV) (R M : Option Addr) (cr cm : Nat) : Prop where
  c0 : w.cell? a = some (.string x.name)
  c1 : w.cell? ⟨a.block, a.off + 1, none⟩ = some (.slice R x.req.length cr)
  c2 : w.cell? ⟨a.block, a.off + 2, none⟩ = some (.slice M x.lim.length cm)
  r1 : Row kAmt P w R x.req
  r2 : Row kAmt P w M x.lim
  l1 : x.req.length ≤ cr ∧ cr ≤ maxLen
  l2 : x.lim.length ≤ cm ∧ cm ≤ maxLen
theorem part_at {P : Nat → Prop} {w : World} {A : Option Addr} {xs : List PartV} (h : Row kPart P w A xs) (i : Nat) (hi : i < xs.length) : ∃ a R M cr cm, A = some a ∧ PartAt P w (a.add (i * 3)) xs[i] R M cr cm := by
  obtain ⟨a, cs, hA, hP, hr, hc⟩ := h.at_ i hi
  obtain ⟨c1, c2, rfl, h1, c3, c4, rfl, ⟨v, rfl, R, cr, rfl, l1, l2, hrow1⟩, v', rfl, M, cm, rfl, l3, l4, hrow2⟩ := hr
  obtain rfl : c1 = [.string xs[i].name] := h1
  exact ⟨a, R, M, cr, cm, hA, hc 0 _ rfl, by rw [← add_off _ _ 1 (by omega)]; exact hc 1 _ rfl, by rw [← add_off _ _ 2 (by omega)]; exact hc 2 _ rfl, hrow1, hrow2, ⟨l1, l2⟩, ⟨l3, l4⟩⟩

/-- a scope: its kind, its argument -/
structure ScV where
  kind : Int
  arg : Int
def ScV.val (s : ScV) : Value := .agg #[.int .i64 s.kind, .int .i64 s.arg]
def validS (s : ScV) : Bool := if s.kind < 0 ∨ s.kind ≥ 6 then false else if s.kind = 5 then decide (s.arg ≥ 0) && decide (s.arg < 10) else decide (s.arg = 0)
def namedP (ps : List PartV) : Bool := ps.any fun p => decide (((p.req.length : Int) + p.lim.length) > 0)
/-- which objects lie in a scope: by priority, deadline, parts -/
def liesS (prio dl : Int) (ps : List PartV) (s : ScV) : Bool :=
  if s.kind = 1 then !namedP ps else if s.kind = 2 then namedP ps else if s.kind = 3 then decide (dl > 0) else if s.kind = 4 then decide (dl ≤ 0) else if s.kind = 5 then decide (prio = s.arg) else true
def inS (prio dl : Int) (ps : List PartV) (s : ScV) : Bool := validS s && liesS prio dl ps s
theorem valid_any (s : ScV) (w : World) : Calls Tryz.prog 58 #[s.val] w fun e w' => e = .returned (.bool (validS s)) ∧ Below w.heap.size w w' := by
  obtain ⟨k, a⟩ := s
  have hb0 := Lib.hid ((Below.refl w.heap.size w).alloc (Nat.le_refl _) (.cells #[.int .i64 k, .int .i64 a] 47))
  unfold ScV.val
  by_cases h1 : k < 0
  · have e1 : decide (k < 0) = true := by simpa using h1
    have hv := Lib.hid (show validS ⟨k, a⟩ = false by unfold validS; rw [if_pos (.inl h1)])
    go_enter Tryz.func58, Tryz.ntmps58
    go_wp2
    go_ret
    exact ⟨by rw [hv.out]; rfl, hb0.out⟩
  · have e1 : decide (k < 0) = false := by simpa using h1
    by_cases h2 : k ≥ 6
    · have e2 : decide (k ≥ 6) = true := by simpa using h2
      have hv := Lib.hid (show validS ⟨k, a⟩ = false by unfold validS; rw [if_pos (.inr h2)])
      go_enter Tryz.func58, Tryz.ntmps58
      go_wp2
      go_ret
      exact ⟨by rw [hv.out]; rfl, hb0.out⟩
    · have e2 : decide (k ≥ 6) = false := by simpa using h2
      by_cases h3 : k = 5
      · have e3 : (k == 5) = true := by simpa using h3
        have hv : validS ⟨k, a⟩ = (decide (a ≥ 0) && decide (a < 10)) := by unfold validS; rw [if_neg (by simp only; omega), if_pos (by simpa using h3)]
        by_cases h4 : a ≥ 0
        · have e4 : decide (a ≥ 0) = true := by simpa using h4
          have HV := Lib.hid (show validS ⟨k, a⟩ = decide (a < 10) by rw [hv, e4]; rfl)
          clear hv h3
          go_enter Tryz.func58, Tryz.ntmps58
          go_wp2
          go_ret
          exact ⟨by rw [HV.out]; rfl, hb0.out⟩
        · have e4 : decide (a ≥ 0) = false := by simpa using h4
          have HV := Lib.hid (show validS ⟨k, a⟩ = false by rw [hv, e4]; rfl)
          clear hv h3
          go_enter Tryz.func58, Tryz.ntmps58
          go_wp2
          go_ret
          exact ⟨by rw [HV.out]; rfl, hb0.out⟩
      · have e3 : (k == 5) = false := by simpa using h3
        have hv := Lib.hid (show validS ⟨k, a⟩ = (a == 0) by unfold validS; rw [if_neg (by simp only; omega), if_neg (by simpa using h3)]; rw [Bool.eq_iff_iff]; simp)
        clear h3
        go_enter Tryz.func58, Tryz.ntmps58
        go_wp2
        go_ret
        exact ⟨by rw [hv.out]; rfl, hb0.out⟩
end Go.Proofs.YtalkdddeiebfmaaGreatDoor
/- scope: names, the kinds' functions, In, Of. -/
namespace Go.Proofs.YtalkdddeiebfmaaGreatDoor
open Go.RowKit

/-- no part has more amounts than can be counted -/
def PartsOk (ps : List PartV) : Prop := ∀ p ∈ ps, p.req.length ≤ 1152921504606846976 ∧ p.lim.length ≤ 1152921504606846976
def namesOne (p : PartV) : Bool := decide (((p.req.length : Int) + p.lim.length) > 0)
theorem snames1_any (x : PartV) (R M : Option Addr) (cr cm : Nat) (w : World) (h1 : x.req.length ≤ 1152921504606846976) (h2 : x.lim.length ≤ 1152921504606846976) :
    Calls Tryz.prog 119 #[.agg #[.string x.name, .slice R x.req.length cr, .slice M x.lim.length cm]] w fun e w' => e = .returned (.bool (namesOne x)) ∧ Below w.heap.size w w' := by
  have hb0 := Lib.hid ((Below.refl w.heap.size w).alloc (Nat.le_refl _) (.cells #[.string x.name, .slice R x.req.length cr, .slice M x.lim.length cm] 43))
  obtain ⟨n, hn⟩ : ∃ n, x.req.length = n := ⟨_, rfl⟩
  obtain ⟨m, hm⟩ : ∃ m, x.lim.length = m := ⟨_, rfl⟩
  have HV := Lib.hid (show namesOne x = decide (((n : Int) + m) > 0) by unfold namesOne; rw [hn, hm])
  rw [hn] at h1 hb0 ⊢
  rw [hm] at h2 hb0 ⊢
  have hw : IntKind.i64.wrap ((n : Int) + m) = (n : Int) + m := by rw [IntKind.wrap_i64]; omega
  clear hn hm
  cases hd : decide (((n : Int) + m) > 0)
  · rw [hd] at HV
    go_enter Tryz.func119, Tryz.ntmps119
    go_wp2
    go_ret
    exact ⟨by rw [HV.out, ← hd]; first | rfl | (congr 2; simp), hb0.out⟩
  · rw [hd] at HV
    go_enter Tryz.func119, Tryz.ntmps119
    go_wp2
    go_ret
    exact ⟨by rw [HV.out, ← hd]; first | rfl | (congr 2; simp), hb0.out⟩
set_option maxRecDepth 100000 in
theorem partIndex_any (A : Option Addr) (c : Nat) (P : Nat → Prop) (xs : List PartV) (w : World) (hr : Row kPart P w A xs) (hn : xs.length ≤ 9223372036854775807) (hps : PartsOk xs) :
    Calls Tryz.prog 144 #[.slice A xs.length c, .func (.func 119) #[] #[]] w fun e w' => e = .returned (.int .i64 (idxFn namesOne xs)) ∧ Below w.heap.size w w' := by
  go_enter Tryz.func144, Tryz.ntmps144
  go_wp2
  go_loopw [8] (fun i wr => ∃ k : Nat, i = .int .i64 k ∧ k ≤ xs.length ∧ Below w.heap.size w wr ∧ ∀ x ∈ xs.take k, namesOne x = false) (fun i _ => xs.length - (intOf i).toNat)
  case atStart => exact ⟨0, rfl, Nat.zero_le _, Below.refl _ _, by simp⟩
  case round =>
    obtain ⟨k, rfl, hk, hbr, hall⟩ := hrel
    by_cases hlt : k < xs.length
    · obtain ⟨a, R, M, cr, cm, rfl, ⟨e0, e1, e2, _, _, q1, q2⟩⟩ := part_at (hr.below hbr) k hlt
      have hsn : ∀ (b : Bool), namesOne xs[k] = b → (b = false → ∀ x ∈ xs.take (k + 1), namesOne x = false) ∧ (b = true → idxFn namesOne xs = k) := by
        rintro b rfl
        refine ⟨fun h x hx => ?_, fun h => idxFn_some hlt hall h⟩
        rw [List.take_succ_eq_append_getElem hlt] at hx
        rcases List.mem_append.1 hx with hx | hx
        · exact hall x hx
        · rw [List.mem_singleton.1 hx]; exact h
      have HS := Lib.hid hsn
      obtain ⟨hq1, hq2⟩ := hps xs[k] (List.getElem_mem _)
      have HC := Lib.hid (snames1_any xs[k] R M cr cm wr hq1 hq2)
      clear hsn hall q1 q2 hq1 hq2
      cases hv : namesOne xs[k]
      · have HV := Lib.hid hv
        clear hv
        go_wp2_with (go_at_call 119; refine HC.out.mono ?_; rintro e w2 ⟨rfl, hb2⟩; rw [HV.out])
        go_roundw
        case rel => exact ⟨k + 1, by go_num, hlt, hbr.trans (hb2.mono hbr.size), (HS.out _ HV.out).1 rfl⟩
        case measure => simp [intOf]; omega
      · have HV := Lib.hid hv
        clear hv
        go_wp2_with (go_at_call 119; refine HC.out.mono ?_; rintro e w2 ⟨rfl, hb2⟩; rw [HV.out])
        go_ret
        exact ⟨by rw [(HS.out _ HV.out).2 rfl]; rfl, hbr.trans (hb2.mono hbr.size)⟩
    · have HI := Lib.hid (idxFn_none (p := namesOne) (xs := xs) (by rw [List.take_of_length_le (by omega)] at hall; exact hall))
      clear hall
      go_wp2
      go_ret
      exact ⟨by rw [HI.out]; rfl, hbr⟩
theorem idxFn_any {α : Type} (p : α → Bool) (xs : List α) : decide (idxFn p xs ≥ 0) = xs.any p := by
  unfold idxFn
  cases h : xs.findIdx? p with
  | none =>
    rw [List.findIdx?_eq_none_iff] at h
    have : xs.any p = false := by rw [List.any_eq_false]; intro x hx; simp [h x hx]
    rw [this]; rfl
  | some i =>
    have hi := List.findIdx?_eq_some_iff_getElem.1 h
    obtain ⟨h1, h2, _⟩ := hi
    have : xs.any p = true := List.any_eq_true.2 ⟨xs[i], List.getElem_mem _, h2⟩
    rw [this]; simp
theorem partContains_any (A : Option Addr) (c : Nat) (P : Nat → Prop) (xs : List PartV) (w : World) (hr : Row kPart P w A xs) (hn : xs.length ≤ 9223372036854775807) (hps : PartsOk xs) :
    Calls Tryz.prog 118 #[.slice A xs.length c, .func (.func 119) #[] #[]] w fun e w' => e = .returned (.bool (namedP xs)) ∧ Below w.heap.size w w' := by
  have HI := Lib.hid (show decide (idxFn namesOne xs ≥ 0) = namedP xs from idxFn_any namesOne xs)
  obtain ⟨n, hn2⟩ : ∃ n, idxFn namesOne xs = n := ⟨_, rfl⟩
  have HC := Lib.hid (partIndex_any A c P xs w hr hn hps)
  rw [hn2] at HC HI
  clear hn2
  go_enter Tryz.func118, Tryz.ntmps118
  go_wp2_with (go_at_call 144; refine HC.out.mono ?_; rintro e w2 ⟨rfl, hb2⟩)
  go_ret
  exact ⟨by rw [← HI.out]; rfl, hb2⟩

/-- an object's value: its seven fields -/
structure ObjV where
  path : ByteArray
  name : ByteArray
  labels : Value
  prio : Int
  dl : Int
  parts : List PartV
  ver : Int
def ObjV.val (o : ObjV) (A : Option Addr) (c : Nat) : Value := .agg #[.string o.path, .string o.name, o.labels, .int .i64 o.prio, .int .i64 o.dl, .slice A o.parts.length c, .int .i64 o.ver]
theorem snames_any (o : ObjV) (A : Option Addr) (c : Nat) (P : Nat → Prop) (w : World) (hl : ∃ B n m, o.labels = .slice B n m) (hr : Row kPart P w A o.parts) (hn : o.parts.length ≤ 9223372036854775807) (hps : PartsOk o.parts) :
    Calls Tryz.prog 84 #[o.val A c] w fun e w' => e = .returned (.bool (namedP o.parts)) ∧ Below w.heap.size w w' := by
  obtain ⟨B, n, m, hlab⟩ := hl
  unfold ObjV.val
  rw [hlab]
  have hb0 := (Below.refl w.heap.size w).alloc (Nat.le_refl _) (.cells #[.string o.path, .string o.name, .slice B n m, .int .i64 o.prio, .int .i64 o.dl, .slice A o.parts.length c, .int .i64 o.ver] 26)
  have HB0 := Lib.hid hb0
  have HC := Lib.hid (partContains_any A c P o.parts _ (hr.below hb0) hn hps)
  clear hb0
  go_enter Tryz.func84, Tryz.ntmps84
  go_wp2_with (go_at_call 118; refine HC.out.mono ?_; rintro e w2 ⟨rfl, hb2⟩)
  go_ret
  exact ⟨rfl, HB0.out.trans (hb2.mono HB0.out.size)⟩
end Go.Proofs.YtalkdddeiebfmaaGreatDoor
/- scope: the kinds' functions, kindOf, In. -/
namespace Go.Proofs.YtalkdddeiebfmaaGreatDoor
open Go.RowKit

/-- an object's value is a value of this form -/
structure ObjOk (w : World) (o : ObjV) (A : Option Addr) (P : Nat → Prop) : Prop where
  lab : ∃ B n m, o.labels = .slice B n m
  row : Row kPart P w A o.parts
  len : o.parts.length ≤ 9223372036854775807
  small : PartsOk o.parts
theorem ObjOk.below {w w' : World} {o : ObjV} {A : Option Addr} {P : Nat → Prop} (h : ObjOk w o A P) (hb : Below w.heap.size w w') : ObjOk w' o A P := ⟨h.lab, h.row.below hb, h.len, h.small⟩
def ObjV.cells (o : ObjV) (A : Option Addr) (c : Nat) : Array Value := #[.string o.path, .string o.name, o.labels, .int .i64 o.prio, .int .i64 o.dl, .slice A o.parts.length c, .int .i64 o.ver]
structure ObjAt (w : World) (b : Nat) (o : ObjV) (A : Option Addr) (c : Nat) : Prop where
  c0 : w.cell? ⟨b, 0, none⟩ = some (.string o.path)
  c1 : w.cell? ⟨b, 1, none⟩ = some (.string o.name)
  c2 : w.cell? ⟨b, 2, none⟩ = some o.labels
  c3 : w.cell? ⟨b, 3, none⟩ = some (.int .i64 o.prio)
  c4 : w.cell? ⟨b, 4, none⟩ = some (.int .i64 o.dl)
  c5 : w.cell? ⟨b, 5, none⟩ = some (.slice A o.parts.length c)
  c6 : w.cell? ⟨b, 6, none⟩ = some (.int .i64 o.ver)
theorem objAt_new (w : World) (o : ObjV) (A : Option Addr) (c : Nat) : ObjAt (w.alloc (.cells (o.cells A c) 26)) w.heap.size o A c := by
  have h := heap_alloc_new w (.cells (o.cells A c) 26)
  exact ⟨(cell_of_row _ _ _ _ _ _ h).trans rfl, (cell_of_row _ _ _ _ _ _ h).trans rfl, (cell_of_row _ _ _ _ _ _ h).trans rfl, (cell_of_row _ _ _ _ _ _ h).trans rfl, (cell_of_row _ _ _ _ _ _ h).trans rfl, (cell_of_row _ _ _ _ _ _ h).trans rfl, (cell_of_row _ _ _ _ _ _ h).trans rfl⟩
theorem ObjAt.below {w w' : World} {b : Nat} {o : ObjV} {A : Option Addr} {c : Nat} (h : ObjAt w b o A c) (hb : Below w.heap.size w w') : ObjAt w' b o A c := by
  have hl := World.block_lt_of_cell? w _ h.c0
  exact ⟨(hb.cell (p := ⟨b, 0, none⟩) hl).trans h.c0, (hb.cell (p := ⟨b, 1, none⟩) hl).trans h.c1, (hb.cell (p := ⟨b, 2, none⟩) hl).trans h.c2, (hb.cell (p := ⟨b, 3, none⟩) hl).trans h.c3, (hb.cell (p := ⟨b, 4, none⟩) hl).trans h.c4, (hb.cell (p := ⟨b, 5, none⟩) hl).trans h.c5, (hb.cell (p := ⟨b, 6, none⟩) hl).trans h.c6⟩

section
variable (o : ObjV) (A : Option Addr) (c : Nat) (P : Nat → Prop) (arg : Int) (w : World) (ho : ObjOk w o A P)
include ho
theorem kf1_any : Calls Tryz.prog 83 #[o.val A c, .int .i64 arg] w fun e w' => e = .returned (.bool (!namedP o.parts)) ∧ Below w.heap.size w w' := by
  obtain ⟨B, n, m, hlab⟩ := ho.lab
  have hb0 : Below w.heap.size w (w.alloc (.cells (o.cells A c) 26)) := (Below.refl _ _).alloc (Nat.le_refl _) _
  have HB0 := Lib.hid hb0
  obtain ⟨p0, p1, p2, p3, p4, p5, p6⟩ := objAt_new w o A c
  have HC := Lib.hid (snames_any o A c P _ ho.lab (ho.below hb0).row ho.len ho.small)
  unfold ObjV.cells at HB0 HC p0 p1 p2 p3 p4 p5 p6
  unfold ObjV.val at HC ⊢
  rw [hlab] at HC HB0 p0 p1 p2 p3 p4 p5 p6 ⊢
  clear hb0 hlab
  go_enter Tryz.func83, Tryz.ntmps83
  go_wp2_with (go_at_call 84; refine HC.out.mono ?_; rintro e w2 ⟨rfl, hb2⟩)
  go_ret
  exact ⟨rfl, HB0.out.trans (hb2.mono HB0.out.size)⟩
theorem kf2_any : Calls Tryz.prog 85 #[o.val A c, .int .i64 arg] w fun e w' => e = .returned (.bool (namedP o.parts)) ∧ Below w.heap.size w w' := by
  obtain ⟨B, n, m, hlab⟩ := ho.lab
  have hb0 : Below w.heap.size w (w.alloc (.cells (o.cells A c) 26)) := (Below.refl _ _).alloc (Nat.le_refl _) _
  have HB0 := Lib.hid hb0
  obtain ⟨p0, p1, p2, p3, p4, p5, p6⟩ := objAt_new w o A c
  have HC := Lib.hid (snames_any o A c P _ ho.lab (ho.below hb0).row ho.len ho.small)
  unfold ObjV.cells at HB0 HC p0 p1 p2 p3 p4 p5 p6
  unfold ObjV.val at HC ⊢
  rw [hlab] at HC HB0 p0 p1 p2 p3 p4 p5 p6 ⊢
  clear hb0 hlab
  go_enter Tryz.func85, Tryz.ntmps85
  go_wp2_with (go_at_call 84; refine HC.out.mono ?_; rintro e w2 ⟨rfl, hb2⟩)
  go_ret
  exact ⟨rfl, HB0.out.trans (hb2.mono HB0.out.size)⟩
theorem kf3_any : Calls Tryz.prog 86 #[o.val A c, .int .i64 arg] w fun e w' => e = .returned (.bool (decide (o.dl > 0))) ∧ Below w.heap.size w w' := by
  obtain ⟨B, n, m, hlab⟩ := ho.lab
  have HB0 := Lib.hid (show Below w.heap.size w (w.alloc (.cells (o.cells A c) 26)) from (Below.refl _ _).alloc (Nat.le_refl _) _)
  unfold ObjV.cells at HB0
  unfold ObjV.val
  rw [hlab] at HB0 ⊢
  cases hd : decide (o.dl > 0)
  · go_enter Tryz.func86, Tryz.ntmps86
    go_wp2
    go_ret
    exact ⟨by rw [← hd]; first | rfl | simp, HB0.out⟩
  · go_enter Tryz.func86, Tryz.ntmps86
    go_wp2
    go_ret
    exact ⟨by rw [← hd]; first | rfl | simp, HB0.out⟩
theorem kf4_any : Calls Tryz.prog 87 #[o.val A c, .int .i64 arg] w fun e w' => e = .returned (.bool (decide (o.dl ≤ 0))) ∧ Below w.heap.size w w' := by
  obtain ⟨B, n, m, hlab⟩ := ho.lab
  have HB0 := Lib.hid (show Below w.heap.size w (w.alloc (.cells (o.cells A c) 26)) from (Below.refl _ _).alloc (Nat.le_refl _) _)
  unfold ObjV.cells at HB0
  unfold ObjV.val
  rw [hlab] at HB0 ⊢
  cases hd : decide (o.dl ≤ 0)
  · go_enter Tryz.func87, Tryz.ntmps87
    go_wp2
    go_ret
    exact ⟨by rw [← hd]; first | rfl | simp, HB0.out⟩
  · go_enter Tryz.func87, Tryz.ntmps87
    go_wp2
    go_ret
    exact ⟨by rw [← hd]; first | rfl | simp, HB0.out⟩
theorem kf5_any : Calls Tryz.prog 88 #[o.val A c, .int .i64 arg] w fun e w' => e = .returned (.bool (o.prio == arg)) ∧ Below w.heap.size w w' := by
  obtain ⟨B, n, m, hlab⟩ := ho.lab
  have HB0 := Lib.hid (show Below w.heap.size w (w.alloc (.cells (o.cells A c) 26)) from (Below.refl _ _).alloc (Nat.le_refl _) _)
  unfold ObjV.cells at HB0
  unfold ObjV.val
  rw [hlab] at HB0 ⊢
  go_enter Tryz.func88, Tryz.ntmps88
  go_wp2
  go_ret
  exact ⟨rfl, HB0.out⟩
theorem kf6_any : Calls Tryz.prog 89 #[o.val A c, .int .i64 arg] w fun e w' => e = .returned (.bool true) ∧ Below w.heap.size w w' := by
  obtain ⟨B, n, m, hlab⟩ := ho.lab
  have HB0 := Lib.hid (show Below w.heap.size w (w.alloc (.cells (o.cells A c) 26)) from (Below.refl _ _).alloc (Nat.le_refl _) _)
  unfold ObjV.cells at HB0
  unfold ObjV.val
  rw [hlab] at HB0 ⊢
  go_enter Tryz.func89, Tryz.ntmps89
  go_wp2
  go_ret
  exact ⟨rfl, HB0.out⟩
end

/-- what stands in the variable 'texts' -/
structure TextsAt (w : World) : Prop where
  t0 : w.cell? ⟨0, 0, none⟩ = some (.string ⟨#[97, 108, 108]⟩)
  t1 : w.cell? ⟨0, 1, none⟩ = some (.string ⟨#[98, 101, 115, 116]⟩)
  t2 : w.cell? ⟨0, 2, none⟩ = some (.string ⟨#[110, 111, 116, 98, 101, 115, 116]⟩)
  t3 : w.cell? ⟨0, 3, none⟩ = some (.string ⟨#[101, 110, 100, 115]⟩)
  t4 : w.cell? ⟨0, 4, none⟩ = some (.string ⟨#[110, 111, 116, 101, 110, 100, 115]⟩)
  t5 : w.cell? ⟨0, 5, none⟩ = some (.string ⟨#[112, 114, 105, 111, 114, 105, 116, 121, 61]⟩)
theorem TextsAt.below {w w' : World} (h : TextsAt w) (hb : Below w.heap.size w w') : TextsAt w' := by
  have hl := World.block_lt_of_cell? w _ h.t0
  exact ⟨(hb.cell (p := ⟨0, 0, none⟩) hl).trans h.t0, (hb.cell (p := ⟨0, 1, none⟩) hl).trans h.t1, (hb.cell (p := ⟨0, 2, none⟩) hl).trans h.t2, (hb.cell (p := ⟨0, 3, none⟩) hl).trans h.t3, (hb.cell (p := ⟨0, 4, none⟩) hl).trans h.t4, (hb.cell (p := ⟨0, 5, none⟩) hl).trans h.t5⟩
def textK (k : Int) : ByteArray := if k = 0 then ⟨#[97, 108, 108]⟩ else if k = 1 then ⟨#[98, 101, 115, 116]⟩ else if k = 2 then ⟨#[110, 111, 116, 98, 101, 115, 116]⟩ else if k = 3 then ⟨#[101, 110, 100, 115]⟩ else if k = 4 then ⟨#[110, 111, 116, 101, 110, 100, 115]⟩ else ⟨#[112, 114, 105, 111, 114, 105, 116, 121, 61]⟩
def funcK (k : Int) : FuncId := if k = 1 then 83 else if k = 2 then 85 else if k = 3 then 86 else if k = 4 then 87 else if k = 5 then 88 else 89
end Go.Proofs.YtalkdddeiebfmaaGreatDoor
/- scope: kindOf, In. -/
namespace Go.Proofs.YtalkdddeiebfmaaGreatDoor
open Go.RowKit

def KindPost (t : ByteArray) (f : FuncId) (w : World) (e : Ending) (w' : World) : Prop := e = .returned (.agg #[.string t, .func (.func f) #[] #[]]) ∧ Below w.heap.size w w'
theorem kindOf0 (w : World) (ht : TextsAt w) : Calls Tryz.prog 59 #[.int .i64 0] w (KindPost (textK 0) 89 w) := by
  obtain ⟨t0, t1, t2, t3, t4, t5⟩ := ht
  have hl := World.block_lt_of_cell? w _ t0
  go_enter Tryz.func59, Tryz.ntmps59
  go_wp2
  exact bodyPost_ret (v := .agg #[.string ⟨#[97, 108, 108]⟩, .func (.func 89) #[] #[]]) (by simp [results, Tryz.results59, go_sem]) rfl ⟨rfl, (Below.refl _ _).alloc (Nat.le_refl _) _⟩
theorem kindOf1 (w : World) (ht : TextsAt w) : Calls Tryz.prog 59 #[.int .i64 1] w (KindPost (textK 1) 83 w) := by
  obtain ⟨t0, t1, t2, t3, t4, t5⟩ := ht
  have hl := World.block_lt_of_cell? w _ t0
  go_enter Tryz.func59, Tryz.ntmps59
  go_wp2
  exact bodyPost_ret (v := .agg #[.string ⟨#[98, 101, 115, 116]⟩, .func (.func 83) #[] #[]]) (by simp [results, Tryz.results59, go_sem]) rfl ⟨rfl, (Below.refl _ _).alloc (Nat.le_refl _) _⟩
theorem kindOf2 (w : World) (ht : TextsAt w) : Calls Tryz.prog 59 #[.int .i64 2] w (KindPost (textK 2) 85 w) := by
  obtain ⟨t0, t1, t2, t3, t4, t5⟩ := ht
  have hl := World.block_lt_of_cell? w _ t0
  go_enter Tryz.func59, Tryz.ntmps59
  go_wp2
  exact bodyPost_ret (v := .agg #[.string ⟨#[110, 111, 116, 98, 101, 115, 116]⟩, .func (.func 85) #[] #[]]) (by simp [results, Tryz.results59, go_sem]) rfl ⟨rfl, (Below.refl _ _).alloc (Nat.le_refl _) _⟩
theorem kindOf3 (w : World) (ht : TextsAt w) : Calls Tryz.prog 59 #[.int .i64 3] w (KindPost (textK 3) 86 w) := by
  obtain ⟨t0, t1, t2, t3, t4, t5⟩ := ht
  have hl := World.block_lt_of_cell? w _ t0
  go_enter Tryz.func59, Tryz.ntmps59
  go_wp2
  exact bodyPost_ret (v := .agg #[.string ⟨#[101, 110, 100, 115]⟩, .func (.func 86) #[] #[]]) (by simp [results, Tryz.results59, go_sem]) rfl ⟨rfl, (Below.refl _ _).alloc (Nat.le_refl _) _⟩
theorem kindOf4 (w : World) (ht : TextsAt w) : Calls Tryz.prog 59 #[.int .i64 4] w (KindPost (textK 4) 87 w) := by
  obtain ⟨t0, t1, t2, t3, t4, t5⟩ := ht
  have hl := World.block_lt_of_cell? w _ t0
  go_enter Tryz.func59, Tryz.ntmps59
  go_wp2
  exact bodyPost_ret (v := .agg #[.string ⟨#[110, 111, 116, 101, 110, 100, 115]⟩, .func (.func 87) #[] #[]]) (by simp [results, Tryz.results59, go_sem]) rfl ⟨rfl, (Below.refl _ _).alloc (Nat.le_refl _) _⟩
theorem kindOf5 (w : World) (ht : TextsAt w) : Calls Tryz.prog 59 #[.int .i64 5] w (KindPost (textK 5) 88 w) := by
  obtain ⟨t0, t1, t2, t3, t4, t5⟩ := ht
  have hl := World.block_lt_of_cell? w _ t0
  go_enter Tryz.func59, Tryz.ntmps59
  go_wp2
  exact bodyPost_ret (v := .agg #[.string ⟨#[112, 114, 105, 111, 114, 105, 116, 121, 61]⟩, .func (.func 88) #[] #[]]) (by simp [results, Tryz.results59, go_sem]) rfl ⟨rfl, (Below.refl _ _).alloc (Nat.le_refl _) _⟩
end Go.Proofs.YtalkdddeiebfmaaGreatDoor
/- What an object uses, in plain words: a rising list of names with sums. No program in sight. -/
namespace Go.Proofs.YtalkdddeiebfmaaGreatDoor
open Go.Maps

abbrev Key := List UInt8
def addK (k : Key) (v : Int) : List (Key × Int) → List (Key × Int)
  | [] => [(k, v)]
  | (x, u) :: l => if x = k then (k, v) :: l else if k < x then (k, v) :: (x, u) :: l else (x, u) :: addK k v l
def getK (k : Key) (S : List (Key × Int)) : Int := ((S.find? fun p => decide (p.1 = k)).map Prod.snd).getD 0
/-- rising by name -/
def AscK (S : List (Key × Int)) : Prop := S.Pairwise fun p q => p.1 < q.1
theorem key_lt {x s : Key} (h1 : x ≠ s) (h2 : ¬ s < x) : x < s := by
  have h3 : x ≤ s := List.not_lt.1 h2
  by_cases h4 : x < s
  · exact h4
  · exact absurd (List.le_antisymm h3 (List.not_lt.1 h4)) h1
theorem addK_keys (k : Key) (v : Int) : ∀ (S : List (Key × Int)) (x : Key), x ∈ (addK k v S).map Prod.fst ↔ x = k ∨ x ∈ S.map Prod.fst
  | [], x => by simp [addK]
  | (y, u) :: l, x => by
    unfold addK
    split
    · rename_i h
      subst h
      simp
    · split
      · simp
      · rw [List.map_cons, List.mem_cons, addK_keys k v l x, List.map_cons, List.mem_cons]
        constructor
        · rintro (h | h | h)
          · exact .inr (.inl h)
          · exact .inl h
          · exact .inr (.inr h)
        · rintro (h | h | h)
          · exact .inr (.inl h)
          · exact .inl h
          · exact .inr (.inr h)
theorem addK_asc (k : Key) (v : Int) : ∀ S : List (Key × Int), AscK S → AscK (addK k v S)
  | [], _ => by simp [addK, AscK]
  | (y, u) :: l, h => by
    unfold AscK at h
    rw [List.pairwise_cons] at h
    unfold addK
    split
    · rename_i he
      subst he
      exact List.pairwise_cons.2 h
    · rename_i hne
      split
      · rename_i hlt
        refine List.pairwise_cons.2 ⟨?_, List.pairwise_cons.2 h⟩
        intro z hz
        rcases List.mem_cons.1 hz with rfl | hz
        · exact hlt
        · exact List.lt_trans hlt (h.1 z hz)
      · rename_i hlt
        refine List.pairwise_cons.2 ⟨?_, addK_asc k v l h.2⟩
        intro z hz
        have hz' : z.1 ∈ (addK k v l).map Prod.fst := List.mem_map_of_mem hz
        rcases (addK_keys k v l z.1).1 hz' with h1 | h1
        · rw [h1]; exact key_lt hne hlt
        · obtain ⟨q, hq, he⟩ := List.mem_map.1 h1
          rw [← he]; exact h.1 q hq
theorem getK_addK (k : Key) (v : Int) : ∀ (S : List (Key × Int)) (x : Key), getK x (addK k v S) = if x = k then v else getK x S
  | [], x => by
    unfold addK getK
    by_cases h : x = k
    · subst h; simp
    · rw [if_neg h, List.find?_cons_of_neg (by simpa using fun e => h e.symm)]
  | (y, u) :: l, x => by
    have ih := getK_addK k v l x
    unfold addK
    split
    · rename_i hy
      subst hy
      unfold getK
      by_cases h : x = y
      · subst h; simp
      · rw [if_neg h, List.find?_cons_of_neg (by simpa using fun e => h e.symm), List.find?_cons_of_neg (by simpa using fun e => h e.symm)]
    · rename_i hy
      split
      · unfold getK
        by_cases h : x = k
        · subst h; simp
        · rw [if_neg h, List.find?_cons_of_neg (by simpa using fun e => h e.symm)]
      · unfold getK at ih ⊢
        by_cases h2 : y = x
        · subst h2
          rw [if_neg hy]; simp
        · rw [List.find?_cons_of_neg (by simpa using h2), ih, List.find?_cons_of_neg (by simpa using h2)]
theorem addK_len (k : Key) (v : Int) : ∀ S : List (Key × Int), (addK k v S).length ≤ S.length + 1
  | [] => by simp [addK]
  | (y, u) :: l => by
    have := addK_len k v l
    unfold addK
    split
    · simp
    · split
      · simp
      · simp; omega
def countK : Key := [99, 111, 117, 110, 116]
def reqK : Key := [114, 101, 113, 117, 101, 115, 116, 115, 46]
def limK : Key := [108, 105, 109, 105, 116, 115, 46]
def preA (s : Key) (a : Amt) : Key × Int := (s ++ a.name.data.toList, a.val)
/-- all amounts of all parts, under their names -/
def allA (ps : List PartV) : List (Key × Int) := ps.flatMap fun p => p.req.map (preA reqK) ++ p.lim.map (preA limK)
/-- each added to its own sum; none: a sum too great -/
def sumsA : List (Key × Int) → List (Key × Int) → Option (List (Key × Int))
  | S, [] => some S
  | S, a :: l => if getK a.1 S > 9223372036854775807 - a.2 then none else sumsA (addK a.1 (getK a.1 S + a.2) S) l
def usesV (ps : List PartV) : List (Key × Int) × Int :=
  if (allA ps).any (fun a => decide (a.2 < 0)) = true then ([], 1) else match sumsA [(countK, 1000)] (allA ps) with
    | some S => (S, 0)
    | none => ([], 7)

/-- the map has just these sums -/
def ValRel {H : Type} (D : DataW H) (S : List (Key × Int)) : Prop := IsMap D ∧ (∀ x, has D (.string x) = decide (x ∈ S.map Prod.fst)) ∧ ∀ x, x ∈ S.map Prod.fst → ∀ z, D.atKey (.string x) z = .lit (.int .i64 (getK x S))
section
variable {H : Type} {D : DataW H} {S : List (Key × Int)}
theorem ValRel.empty : ValRel (H := H) (.map []) [] := ⟨isMap_empty, fun x => by simp [has], fun x hx => by simp at hx⟩
theorem ValRel.put (h : ValRel D S) (k : Key) (v : Int) : ValRel (D.put (.string k) (.lit (.int .i64 v))) (addK k v S) := by
  refine ⟨h.1.put _ _, fun x => ?_, fun x hx z => ?_⟩
  · by_cases hx : x = k
    · subst hx
      rw [has_put_same h.1 (by simp [WideAt.IsKeyLit]), decide_eq_true]
      exact (addK_keys _ _ _ _).2 (.inl rfl)
    · rw [has_put_other (by simpa using hx), h.2.1 x]
      simp only [addK_keys, hx, false_or]
  · rw [getK_addK]
    by_cases he : x = k
    · subst he
      rw [if_pos rfl, atKey_put_same h.1 (by simp [WideAt.IsKeyLit])]
    · rw [if_neg he, atKey_put_other (by simpa using he)]
      exact h.2.2 x (((addK_keys k v S x).1 hx).resolve_left he) z
theorem getK_none {x : Key} (h : x ∉ S.map Prod.fst) : getK x S = 0 := by
  unfold getK
  rw [List.find?_eq_none.2]
  · rfl
  · intro p hp
    simp only [decide_eq_true_eq]
    intro e
    exact h (by rw [← e]; exact List.mem_map_of_mem hp)
/-- what a look-up gives, there or not -/
theorem ValRel.look (h : ValRel D S) (hz : ∀ x z, has D (.string x) = false → D.atKey (.string x) z = z) (x : Key) : D.atKey (.string x) (.lit (.int .i64 0)) = .lit (.int .i64 (getK x S)) := by
  by_cases hx : x ∈ S.map Prod.fst
  · exact h.2.2 x hx _
  · rw [hz x _ (by rw [h.2.1 x]; simpa using hx), getK_none hx]
end
end Go.Proofs.YtalkdddeiebfmaaGreatDoor
/- scope: In. -/
namespace Go.Proofs.YtalkdddeiebfmaaGreatDoor
open Go.RowKit

theorem valid_val (s : ScV) (b : Bool) (hb : Hid (validS s = b)) (w : World) : Calls Tryz.prog 58 #[.agg #[.int .i64 s.kind, .int .i64 s.arg]] w fun e w' => e = .returned (.bool b) ∧ Below w.heap.size w w' := by
  have := valid_any s w
  rw [hb.out] at this; exact this
theorem kind_val {k : Int} {t : ByteArray} {f : FuncId} {w : World} (h : Calls Tryz.prog 59 #[.int .i64 k] w (KindPost t f w)) : Calls Tryz.prog 59 #[.int .i64 k] w fun e w' => e = .returned (.agg #[.string t, .func (.func f) #[] #[]]) ∧ Below w.heap.size w w' := h
/-- the two boxes that In begins with -/
structure InBase (W : World) (b : Nat) (o : ObjV) (A : Option Addr) (c : Nat) (P : Nat → Prop) (s : ScV) : Prop where
  obj : ObjAt W b o A c
  s0 : W.cell? ⟨b + 1, 0, none⟩ = some (.int .i64 s.kind)
  s1 : W.cell? ⟨b + 1, 1, none⟩ = some (.int .i64 s.arg)
  ok : ObjOk W o A P
  txt : TextsAt W
theorem inBase (w : World) (o : ObjV) (A : Option Addr) (c : Nat) (P : Nat → Prop) (s : ScV) (ho : ObjOk w o A P) (ht : TextsAt w) : InBase ((w.alloc (.cells (o.cells A c) 26)).alloc (.cells #[.int .i64 s.kind, .int .i64 s.arg] 47)) w.heap.size o A c P s ∧ Below w.heap.size w ((w.alloc (.cells (o.cells A c) 26)).alloc (.cells #[.int .i64 s.kind, .int .i64 s.arg] 47)) := by
  have h1 : Below w.heap.size w (w.alloc (.cells (o.cells A c) 26)) := (Below.refl _ _).alloc (Nat.le_refl _) _
  have h2 : Below (w.alloc (.cells (o.cells A c) 26)).heap.size (w.alloc (.cells (o.cells A c) 26)) ((w.alloc (.cells (o.cells A c) 26)).alloc (.cells #[.int .i64 s.kind, .int .i64 s.arg] 47)) := (Below.refl _ _).alloc (Nat.le_refl _) _
  have h3 := heap_alloc_new (w.alloc (.cells (o.cells A c) 26)) (.cells #[.int .i64 s.kind, .int .i64 s.arg] 47)
  have hs : (w.alloc (.cells (o.cells A c) 26)).heap.size = w.heap.size + 1 := by simp
  rw [hs] at h3
  exact ⟨⟨(objAt_new w o A c).below h2, (cell_of_row _ _ _ _ _ _ h3).trans rfl, (cell_of_row _ _ _ _ _ _ h3).trans rfl, (ho.below h1).below h2, (ht.below h1).below h2⟩, h1.trans (h2.mono h1.size)⟩
theorem kf_val0 (o : ObjV) (A : Option Addr) (c : Nat) (P : Nat → Prop) (a : Int) (B : Option Addr) (n m : Nat) (hl : o.labels = .slice B n m) (w : World) (ho : ObjOk w o A P) :
    Calls Tryz.prog 89 #[.agg #[.string o.path, .string o.name, .slice B n m, .int .i64 o.prio, .int .i64 o.dl, .slice A o.parts.length c, .int .i64 o.ver], .int .i64 a] w fun e w' => e = .returned (.bool (true)) ∧ Below w.heap.size w w' := by
  have := kf6_any o A c P a w ho
  unfold ObjV.val at this
  rw [hl] at this; exact this
set_option maxRecDepth 100000 in
theorem in_k0 (a : Int) (o : ObjV) (A : Option Addr) (c : Nat) (P : Nat → Prop) (w : World) (ho : ObjOk w o A P) (ht : TextsAt w) (hv : validS ⟨0, a⟩ = true) :
    Calls Tryz.prog 28 #[o.val A c, ScV.val ⟨0, a⟩] w fun e w' => e = .returned (.bool (true)) ∧ Below w.heap.size w w' := by
  have HV := Lib.hid hv
  clear hv
  obtain ⟨hib, hbw⟩ := inBase w o A c P ⟨0, a⟩ ho ht
  obtain ⟨B, n, m, hlab⟩ := ho.lab
  have HBW := Lib.hid hbw
  unfold ObjV.val ScV.val
  unfold ObjV.cells at hib HBW
  rw [hlab] at hib HBW ⊢
  obtain ⟨W, hW⟩ : ∃ W, ((w.alloc (.cells #[.string o.path, .string o.name, .slice B n m, .int .i64 o.prio, .int .i64 o.dl, .slice A o.parts.length c, .int .i64 o.ver] 26)).alloc (.cells #[.int .i64 0, .int .i64 a] 47)) = W := ⟨_, rfl⟩
  have HWE := Lib.hid hW
  rw [hW] at hib HBW
  have hob := fun z : BW W => hib.obj.below z.h
  have x0 := fun z => (hob z).c0
  have x1 := fun z => (hob z).c1
  have x2 := fun z => ((hob z).c2).trans (congrArg some hlab)
  have x3 := fun z => (hob z).c3
  have x4 := fun z => (hob z).c4
  have x5 := fun z => (hob z).c5
  have x6 := fun z => (hob z).c6
  have y0 := fun z : BW W => (z.h.cell (p := ⟨w.heap.size + 1, 0, none⟩) (World.block_lt_of_cell? W _ hib.s0)).trans hib.s0
  have y1 := fun z : BW W => (z.h.cell (p := ⟨w.heap.size + 1, 1, none⟩) (World.block_lt_of_cell? W _ hib.s1)).trans hib.s1
  have HIB := Lib.hid hib
  have HLAB := Lib.hid hlab
  have hfld : ∀ W', (Instr.field 117 (.agg #[.string (textK 0), .func (.func 89) #[] #[]]) 1).run Tryz.prog W' = .ok (.func (.func 89) #[] #[]) W' := fun W' => by kernel_rfl
  go_enter Tryz.func28, Tryz.ntmps28
  go_upto_region 1 with fail
  clear hob hW hbw hib hlab
  refine wp_region_pure (by kernel_rfl) (by kernel_rfl) ?_
  repeat (first | go_big_quiet_step (first | (go_at_call 58; exact Calls.pure_of (valid_val ⟨0, a⟩ true HV _)) | (go_at_call 59; exact Calls.pure_of (kind_val (kindOf0 _ (HIB.out.txt.below (BW.h _))))) | (go_at_call 89; exact Calls.pure_of (kf_val0 o A c P a B n m HLAB.out _ (HIB.out.ok.below (BW.h _))))) | quiet_step (first | (go_at_call 58; exact Calls.pure_of (valid_val ⟨0, a⟩ true HV _)) | (go_at_call 59; exact Calls.pure_of (kind_val (kindOf0 _ (HIB.out.txt.below (BW.h _))))) | (go_at_call 89; exact Calls.pure_of (kf_val0 o A c P a B n m HLAB.out _ (HIB.out.ok.below (BW.h _))))))
  refine wpQuiet_nil ?_
  rintro _ ⟨z, rfl⟩
  go_wp2
  go_ret
  exact ⟨rfl, HBW.out.trans (z.h.mono HBW.out.size)⟩
theorem kf_val1 (o : ObjV) (A : Option Addr) (c : Nat) (P : Nat → Prop) (a : Int) (B : Option Addr) (n m : Nat) (hl : o.labels = .slice B n m) (w : World) (ho : ObjOk w o A P) :
    Calls Tryz.prog 83 #[.agg #[.string o.path, .string o.name, .slice B n m, .int .i64 o.prio, .int .i64 o.dl, .slice A o.parts.length c, .int .i64 o.ver], .int .i64 a] w fun e w' => e = .returned (.bool (!namedP o.parts)) ∧ Below w.heap.size w w' := by
  have := kf1_any o A c P a w ho
  unfold ObjV.val at this
  rw [hl] at this; exact this
set_option maxRecDepth 100000 in
theorem in_k1 (a : Int) (o : ObjV) (A : Option Addr) (c : Nat) (P : Nat → Prop) (w : World) (ho : ObjOk w o A P) (ht : TextsAt w) (hv : validS ⟨1, a⟩ = true) :
    Calls Tryz.prog 28 #[o.val A c, ScV.val ⟨1, a⟩] w fun e w' => e = .returned (.bool (!namedP o.parts)) ∧ Below w.heap.size w w' := by
  have HV := Lib.hid hv
  clear hv
  obtain ⟨hib, hbw⟩ := inBase w o A c P ⟨1, a⟩ ho ht
  obtain ⟨B, n, m, hlab⟩ := ho.lab
  have HBW := Lib.hid hbw
  unfold ObjV.val ScV.val
  unfold ObjV.cells at hib HBW
  rw [hlab] at hib HBW ⊢
  obtain ⟨W, hW⟩ : ∃ W, ((w.alloc (.cells #[.string o.path, .string o.name, .slice B n m, .int .i64 o.prio, .int .i64 o.dl, .slice A o.parts.length c, .int .i64 o.ver] 26)).alloc (.cells #[.int .i64 1, .int .i64 a] 47)) = W := ⟨_, rfl⟩
  have HWE := Lib.hid hW
  rw [hW] at hib HBW
  have hob := fun z : BW W => hib.obj.below z.h
  have x0 := fun z => (hob z).c0
  have x1 := fun z => (hob z).c1
  have x2 := fun z => ((hob z).c2).trans (congrArg some hlab)
  have x3 := fun z => (hob z).c3
  have x4 := fun z => (hob z).c4
  have x5 := fun z => (hob z).c5
  have x6 := fun z => (hob z).c6
  have y0 := fun z : BW W => (z.h.cell (p := ⟨w.heap.size + 1, 0, none⟩) (World.block_lt_of_cell? W _ hib.s0)).trans hib.s0
  have y1 := fun z : BW W => (z.h.cell (p := ⟨w.heap.size + 1, 1, none⟩) (World.block_lt_of_cell? W _ hib.s1)).trans hib.s1
  have HIB := Lib.hid hib
  have HLAB := Lib.hid hlab
  have hfld : ∀ W', (Instr.field 117 (.agg #[.string (textK 1), .func (.func 83) #[] #[]]) 1).run Tryz.prog W' = .ok (.func (.func 83) #[] #[]) W' := fun W' => by kernel_rfl
  go_enter Tryz.func28, Tryz.ntmps28
  go_upto_region 1 with fail
  clear hob hW hbw hib hlab
  refine wp_region_pure (by kernel_rfl) (by kernel_rfl) ?_
  repeat (first | go_big_quiet_step (first | (go_at_call 58; exact Calls.pure_of (valid_val ⟨1, a⟩ true HV _)) | (go_at_call 59; exact Calls.pure_of (kind_val (kindOf1 _ (HIB.out.txt.below (BW.h _))))) | (go_at_call 83; exact Calls.pure_of (kf_val1 o A c P a B n m HLAB.out _ (HIB.out.ok.below (BW.h _))))) | quiet_step (first | (go_at_call 58; exact Calls.pure_of (valid_val ⟨1, a⟩ true HV _)) | (go_at_call 59; exact Calls.pure_of (kind_val (kindOf1 _ (HIB.out.txt.below (BW.h _))))) | (go_at_call 83; exact Calls.pure_of (kf_val1 o A c P a B n m HLAB.out _ (HIB.out.ok.below (BW.h _))))))
  refine wpQuiet_nil ?_
  rintro _ ⟨z, rfl⟩
  go_wp2
  go_ret
  exact ⟨rfl, HBW.out.trans (z.h.mono HBW.out.size)⟩
theorem kf_val2 (o : ObjV) (A : Option Addr) (c : Nat) (P : Nat → Prop) (a : Int) (B : Option Addr) (n m : Nat) (hl : o.labels = .slice B n m) (w : World) (ho : ObjOk w o A P) :
    Calls Tryz.prog 85 #[.agg #[.string o.path, .string o.name, .slice B n m, .int .i64 o.prio, .int .i64 o.dl, .slice A o.parts.length c, .int .i64 o.ver], .int .i64 a] w fun e w' => e = .returned (.bool (namedP o.parts)) ∧ Below w.heap.size w w' := by
  have := kf2_any o A c P a w ho
  unfold ObjV.val at this
  rw [hl] at this; exact this
set_option maxRecDepth 100000 in
theorem in_k2 (a : Int) (o : ObjV) (A : Option Addr) (c : Nat) (P : Nat → Prop) (w : World) (ho : ObjOk w o A P) (ht : TextsAt w) (hv : validS ⟨2, a⟩ = true) :
    Calls Tryz.prog 28 #[o.val A c, ScV.val ⟨2, a⟩] w fun e w' => e = .returned (.bool (namedP o.parts)) ∧ Below w.heap.size w w' := by
  have HV := Lib.hid hv
  clear hv
  obtain ⟨hib, hbw⟩ := inBase w o A c P ⟨2, a⟩ ho ht
  obtain ⟨B, n, m, hlab⟩ := ho.lab
  have HBW := Lib.hid hbw
  unfold ObjV.val ScV.val
  unfold ObjV.cells at hib HBW
  rw [hlab] at hib HBW ⊢
  obtain ⟨W, hW⟩ : ∃ W, ((w.alloc (.cells #[.string o.path, .string o.name, .slice B n m, .int .i64 o.prio, .int .i64 o.dl, .slice A o.parts.length c, .int .i64 o.ver] 26)).alloc (.cells #[.int .i64 2, .int .i64 a] 47)) = W := ⟨_, rfl⟩
  have HWE := Lib.hid hW
  rw [hW] at hib HBW
  have hob := fun z : BW W => hib.obj.below z.h
  have x0 := fun z => (hob z).c0
  have x1 := fun z => (hob z).c1
  have x2 := fun z => ((hob z).c2).trans (congrArg some hlab)
  have x3 := fun z => (hob z).c3
  have x4 := fun z => (hob z).c4
  have x5 := fun z => (hob z).c5
  have x6 := fun z => (hob z).c6
  have y0 := fun z : BW W => (z.h.cell (p := ⟨w.heap.size + 1, 0, none⟩) (World.block_lt_of_cell? W _ hib.s0)).trans hib.s0
  have y1 := fun z : BW W => (z.h.cell (p := ⟨w.heap.size + 1, 1, none⟩) (World.block_lt_of_cell? W _ hib.s1)).trans hib.s1
  have HIB := Lib.hid hib
  have HLAB := Lib.hid hlab
  have hfld : ∀ W', (Instr.field 117 (.agg #[.string (textK 2), .func (.func 85) #[] #[]]) 1).run Tryz.prog W' = .ok (.func (.func 85) #[] #[]) W' := fun W' => by kernel_rfl
  go_enter Tryz.func28, Tryz.ntmps28
  go_upto_region 1 with fail
  clear hob hW hbw hib hlab
  refine wp_region_pure (by kernel_rfl) (by kernel_rfl) ?_
  repeat (first | go_big_quiet_step (first | (go_at_call 58; exact Calls.pure_of (valid_val ⟨2, a⟩ true HV _)) | (go_at_call 59; exact Calls.pure_of (kind_val (kindOf2 _ (HIB.out.txt.below (BW.h _))))) | (go_at_call 85; exact Calls.pure_of (kf_val2 o A c P a B n m HLAB.out _ (HIB.out.ok.below (BW.h _))))) | quiet_step (first | (go_at_call 58; exact Calls.pure_of (valid_val ⟨2, a⟩ true HV _)) | (go_at_call 59; exact Calls.pure_of (kind_val (kindOf2 _ (HIB.out.txt.below (BW.h _))))) | (go_at_call 85; exact Calls.pure_of (kf_val2 o A c P a B n m HLAB.out _ (HIB.out.ok.below (BW.h _))))))
  refine wpQuiet_nil ?_
  rintro _ ⟨z, rfl⟩
  go_wp2
  go_ret
  exact ⟨rfl, HBW.out.trans (z.h.mono HBW.out.size)⟩
theorem kf_val3 (o : ObjV) (A : Option Addr) (c : Nat) (P : Nat → Prop) (a : Int) (B : Option Addr) (n m : Nat) (hl : o.labels = .slice B n m) (w : World) (ho : ObjOk w o A P) :
    Calls Tryz.prog 86 #[.agg #[.string o.path, .string o.name, .slice B n m, .int .i64 o.prio, .int .i64 o.dl, .slice A o.parts.length c, .int .i64 o.ver], .int .i64 a] w fun e w' => e = .returned (.bool (decide (o.dl > 0))) ∧ Below w.heap.size w w' := by
  have := kf3_any o A c P a w ho
  unfold ObjV.val at this
  rw [hl] at this; exact this
set_option maxRecDepth 100000 in
theorem in_k3 (a : Int) (o : ObjV) (A : Option Addr) (c : Nat) (P : Nat → Prop) (w : World) (ho : ObjOk w o A P) (ht : TextsAt w) (hv : validS ⟨3, a⟩ = true) :
    Calls Tryz.prog 28 #[o.val A c, ScV.val ⟨3, a⟩] w fun e w' => e = .returned (.bool (decide (o.dl > 0))) ∧ Below w.heap.size w w' := by
  have HV := Lib.hid hv
  clear hv
  obtain ⟨hib, hbw⟩ := inBase w o A c P ⟨3, a⟩ ho ht
  obtain ⟨B, n, m, hlab⟩ := ho.lab
  have HBW := Lib.hid hbw
  unfold ObjV.val ScV.val
  unfold ObjV.cells at hib HBW
  rw [hlab] at hib HBW ⊢
  obtain ⟨W, hW⟩ : ∃ W, ((w.alloc (.cells #[.string o.path, .string o.name, .slice B n m, .int .i64 o.prio, .int .i64 o.dl, .slice A o.parts.length c, .int .i64 o.ver] 26)).alloc (.cells #[.int .i64 3, .int .i64 a] 47)) = W := ⟨_, rfl⟩
  have HWE := Lib.hid hW
  rw [hW] at hib HBW
  have hob := fun z : BW W => hib.obj.below z.h
  have x0 := fun z => (hob z).c0
  have x1 := fun z => (hob z).c1
  have x2 := fun z => ((hob z).c2).trans (congrArg some hlab)
  have x3 := fun z => (hob z).c3
  have x4 := fun z => (hob z).c4
  have x5 := fun z => (hob z).c5
  have x6 := fun z => (hob z).c6
  have y0 := fun z : BW W => (z.h.cell (p := ⟨w.heap.size + 1, 0, none⟩) (World.block_lt_of_cell? W _ hib.s0)).trans hib.s0
  have y1 := fun z : BW W => (z.h.cell (p := ⟨w.heap.size + 1, 1, none⟩) (World.block_lt_of_cell? W _ hib.s1)).trans hib.s1
  have HIB := Lib.hid hib
  have HLAB := Lib.hid hlab
  have hfld : ∀ W', (Instr.field 117 (.agg #[.string (textK 3), .func (.func 86) #[] #[]]) 1).run Tryz.prog W' = .ok (.func (.func 86) #[] #[]) W' := fun W' => by kernel_rfl
  go_enter Tryz.func28, Tryz.ntmps28
  go_upto_region 1 with fail
  clear hob hW hbw hib hlab
  refine wp_region_pure (by kernel_rfl) (by kernel_rfl) ?_
  repeat (first | go_big_quiet_step (first | (go_at_call 58; exact Calls.pure_of (valid_val ⟨3, a⟩ true HV _)) | (go_at_call 59; exact Calls.pure_of (kind_val (kindOf3 _ (HIB.out.txt.below (BW.h _))))) | (go_at_call 86; exact Calls.pure_of (kf_val3 o A c P a B n m HLAB.out _ (HIB.out.ok.below (BW.h _))))) | quiet_step (first | (go_at_call 58; exact Calls.pure_of (valid_val ⟨3, a⟩ true HV _)) | (go_at_call 59; exact Calls.pure_of (kind_val (kindOf3 _ (HIB.out.txt.below (BW.h _))))) | (go_at_call 86; exact Calls.pure_of (kf_val3 o A c P a B n m HLAB.out _ (HIB.out.ok.below (BW.h _))))))
  refine wpQuiet_nil ?_
  rintro _ ⟨z, rfl⟩
  go_wp2
  go_ret
  exact ⟨rfl, HBW.out.trans (z.h.mono HBW.out.size)⟩
theorem kf_val4 (o : ObjV) (A : Option Addr) (c : Nat) (P : Nat → Prop) (a : Int) (B : Option Addr) (n m : Nat) (hl : o.labels = .slice B n m) (w : World) (ho : ObjOk w o A P) :
    Calls Tryz.prog 87 #[.agg #[.string o.path, .string o.name, .slice B n m, .int .i64 o.prio, .int .i64 o.dl, .slice A o.parts.length c, .int .i64 o.ver], .int .i64 a] w fun e w' => e = .returned (.bool (decide (o.dl ≤ 0))) ∧ Below w.heap.size w w' := by
  have := kf4_any o A c P a w ho
  unfold ObjV.val at this
  rw [hl] at this; exact this
set_option maxRecDepth 100000 in
theorem in_k4 (a : Int) (o : ObjV) (A : Option Addr) (c : Nat) (P : Nat → Prop) (w : World) (ho : ObjOk w o A P) (ht : TextsAt w) (hv : validS ⟨4, a⟩ = true) :
    Calls Tryz.prog 28 #[o.val A c, ScV.val ⟨4, a⟩] w fun e w' => e = .returned (.bool (decide (o.dl ≤ 0))) ∧ Below w.heap.size w w' := by
  have HV := Lib.hid hv
  clear hv
  obtain ⟨hib, hbw⟩ := inBase w o A c P ⟨4, a⟩ ho ht
  obtain ⟨B, n, m, hlab⟩ := ho.lab
  have HBW := Lib.hid hbw
  unfold ObjV.val ScV.val
  unfold ObjV.cells at hib HBW
  rw [hlab] at hib HBW ⊢
  obtain ⟨W, hW⟩ : ∃ W, ((w.alloc (.cells #[.string o.path, .string o.name, .slice B n m, .int .i64 o.prio, .int .i64 o.dl, .slice A o.parts.length c, .int .i64 o.ver] 26)).alloc (.cells #[.int .i64 4, .int .i64 a] 47)) = W := ⟨_, rfl⟩
  have HWE := Lib.hid hW
  rw [hW] at hib HBW
  have hob := fun z : BW W => hib.obj.below z.h
  have x0 := fun z => (hob z).c0
  have x1 := fun z => (hob z).c1
  have x2 := fun z => ((hob z).c2).trans (congrArg some hlab)
  have x3 := fun z => (hob z).c3
  have x4 := fun z => (hob z).c4
  have x5 := fun z => (hob z).c5
  have x6 := fun z => (hob z).c6
  have y0 := fun z : BW W => (z.h.cell (p := ⟨w.heap.size + 1, 0, none⟩) (World.block_lt_of_cell? W _ hib.s0)).trans hib.s0
  have y1 := fun z : BW W => (z.h.cell (p := ⟨w.heap.size + 1, 1, none⟩) (World.block_lt_of_cell? W _ hib.s1)).trans hib.s1
  have HIB := Lib.hid hib
  have HLAB := Lib.hid hlab
  have hfld : ∀ W', (Instr.field 117 (.agg #[.string (textK 4), .func (.func 87) #[] #[]]) 1).run Tryz.prog W' = .ok (.func (.func 87) #[] #[]) W' := fun W' => by kernel_rfl
  go_enter Tryz.func28, Tryz.ntmps28
  go_upto_region 1 with fail
  clear hob hW hbw hib hlab
  refine wp_region_pure (by kernel_rfl) (by kernel_rfl) ?_
  repeat (first | go_big_quiet_step (first | (go_at_call 58; exact Calls.pure_of (valid_val ⟨4, a⟩ true HV _)) | (go_at_call 59; exact Calls.pure_of (kind_val (kindOf4 _ (HIB.out.txt.below (BW.h _))))) | (go_at_call 87; exact Calls.pure_of (kf_val4 o A c P a B n m HLAB.out _ (HIB.out.ok.below (BW.h _))))) | quiet_step (first | (go_at_call 58; exact Calls.pure_of (valid_val ⟨4, a⟩ true HV _)) | (go_at_call 59; exact Calls.pure_of (kind_val (kindOf4 _ (HIB.out.txt.below (BW.h _))))) | (go_at_call 87; exact Calls.pure_of (kf_val4 o A c P a B n m HLAB.out _ (HIB.out.ok.below (BW.h _))))))
  refine wpQuiet_nil ?_
  rintro _ ⟨z, rfl⟩
  go_wp2
  go_ret
  exact ⟨rfl, HBW.out.trans (z.h.mono HBW.out.size)⟩
theorem kf_val5 (o : ObjV) (A : Option Addr) (c : Nat) (P : Nat → Prop) (a : Int) (B : Option Addr) (n m : Nat) (hl : o.labels = .slice B n m) (w : World) (ho : ObjOk w o A P) :
    Calls Tryz.prog 88 #[.agg #[.string o.path, .string o.name, .slice B n m, .int .i64 o.prio, .int .i64 o.dl, .slice A o.parts.length c, .int .i64 o.ver], .int .i64 a] w fun e w' => e = .returned (.bool ((o.prio == a))) ∧ Below w.heap.size w w' := by
  have := kf5_any o A c P a w ho
  unfold ObjV.val at this
  rw [hl] at this; exact this
set_option maxRecDepth 100000 in
theorem in_k5 (a : Int) (o : ObjV) (A : Option Addr) (c : Nat) (P : Nat → Prop) (w : World) (ho : ObjOk w o A P) (ht : TextsAt w) (hv : validS ⟨5, a⟩ = true) :
    Calls Tryz.prog 28 #[o.val A c, ScV.val ⟨5, a⟩] w fun e w' => e = .returned (.bool ((o.prio == a))) ∧ Below w.heap.size w w' := by
  have HV := Lib.hid hv
  clear hv
  obtain ⟨hib, hbw⟩ := inBase w o A c P ⟨5, a⟩ ho ht
  obtain ⟨B, n, m, hlab⟩ := ho.lab
  have HBW := Lib.hid hbw
  unfold ObjV.val ScV.val
  unfold ObjV.cells at hib HBW
  rw [hlab] at hib HBW ⊢
  obtain ⟨W, hW⟩ : ∃ W, ((w.alloc (.cells #[.string o.path, .string o.name, .slice B n m, .int .i64 o.prio, .int .i64 o.dl, .slice A o.parts.length c, .int .i64 o.ver] 26)).alloc (.cells #[.int .i64 5, .int .i64 a] 47)) = W := ⟨_, rfl⟩
  have HWE := Lib.hid hW
  rw [hW] at hib HBW
  have hob := fun z : BW W => hib.obj.below z.h
  have x0 := fun z => (hob z).c0
  have x1 := fun z => (hob z).c1
  have x2 := fun z => ((hob z).c2).trans (congrArg some hlab)
  have x3 := fun z => (hob z).c3
  have x4 := fun z => (hob z).c4
  have x5 := fun z => (hob z).c5
  have x6 := fun z => (hob z).c6
  have y0 := fun z : BW W => (z.h.cell (p := ⟨w.heap.size + 1, 0, none⟩) (World.block_lt_of_cell? W _ hib.s0)).trans hib.s0
  have y1 := fun z : BW W => (z.h.cell (p := ⟨w.heap.size + 1, 1, none⟩) (World.block_lt_of_cell? W _ hib.s1)).trans hib.s1
  have HIB := Lib.hid hib
  have HLAB := Lib.hid hlab
  have hfld : ∀ W', (Instr.field 117 (.agg #[.string (textK 5), .func (.func 88) #[] #[]]) 1).run Tryz.prog W' = .ok (.func (.func 88) #[] #[]) W' := fun W' => by kernel_rfl
  go_enter Tryz.func28, Tryz.ntmps28
  go_upto_region 1 with fail
  clear hob hW hbw hib hlab
  refine wp_region_pure (by kernel_rfl) (by kernel_rfl) ?_
  repeat (first | go_big_quiet_step (first | (go_at_call 58; exact Calls.pure_of (valid_val ⟨5, a⟩ true HV _)) | (go_at_call 59; exact Calls.pure_of (kind_val (kindOf5 _ (HIB.out.txt.below (BW.h _))))) | (go_at_call 88; exact Calls.pure_of (kf_val5 o A c P a B n m HLAB.out _ (HIB.out.ok.below (BW.h _))))) | quiet_step (first | (go_at_call 58; exact Calls.pure_of (valid_val ⟨5, a⟩ true HV _)) | (go_at_call 59; exact Calls.pure_of (kind_val (kindOf5 _ (HIB.out.txt.below (BW.h _))))) | (go_at_call 88; exact Calls.pure_of (kf_val5 o A c P a B n m HLAB.out _ (HIB.out.ok.below (BW.h _))))))
  refine wpQuiet_nil ?_
  rintro _ ⟨z, rfl⟩
  go_wp2
  go_ret
  exact ⟨rfl, HBW.out.trans (z.h.mono HBW.out.size)⟩
set_option maxRecDepth 100000 in
theorem in_bad (s : ScV) (o : ObjV) (A : Option Addr) (c : Nat) (P : Nat → Prop) (w : World) (ho : ObjOk w o A P) (ht : TextsAt w) (hv : validS s = false) :
    Calls Tryz.prog 28 #[o.val A c, s.val] w fun e w' => e = .returned (.bool false) ∧ Below w.heap.size w w' := by
  have HV := Lib.hid hv
  clear hv
  obtain ⟨k, a⟩ := s
  obtain ⟨hib, hbw⟩ := inBase w o A c P ⟨k, a⟩ ho ht
  obtain ⟨B, n, m, hlab⟩ := ho.lab
  have HBW := Lib.hid hbw
  unfold ObjV.val ScV.val
  unfold ObjV.cells at hib HBW
  rw [hlab] at hib HBW ⊢
  obtain ⟨W, hW⟩ : ∃ W, ((w.alloc (.cells #[.string o.path, .string o.name, .slice B n m, .int .i64 o.prio, .int .i64 o.dl, .slice A o.parts.length c, .int .i64 o.ver] 26)).alloc (.cells #[.int .i64 k, .int .i64 a] 47)) = W := ⟨_, rfl⟩
  rw [hW] at hib HBW
  have y0 := fun z : BW W => (z.h.cell (p := ⟨w.heap.size + 1, 0, none⟩) (World.block_lt_of_cell? W _ hib.s0)).trans hib.s0
  have y1 := fun z : BW W => (z.h.cell (p := ⟨w.heap.size + 1, 1, none⟩) (World.block_lt_of_cell? W _ hib.s1)).trans hib.s1
  go_enter Tryz.func28, Tryz.ntmps28
  go_upto_region 1 with fail
  clear hW hbw hib hlab
  refine wp_region_pure (by kernel_rfl) (by kernel_rfl) ?_
  repeat (first | go_big_quiet_step ((go_at_call 58; exact Calls.pure_of (valid_val ⟨k, a⟩ false HV _))) | quiet_step ((go_at_call 58; exact Calls.pure_of (valid_val ⟨k, a⟩ false HV _))))
  refine wpQuiet_nil ?_
  rintro _ ⟨z, rfl⟩
  go_wp2
  go_ret
  exact ⟨rfl, HBW.out.trans (z.h.mono HBW.out.size)⟩
theorem validS_kinds {k a : Int} (h : validS ⟨k, a⟩ = true) : k = 0 ∨ k = 1 ∨ k = 2 ∨ k = 3 ∨ k = 4 ∨ k = 5 := by
  unfold validS at h
  split at h
  · cases h
  · simp only at *; omega
theorem in_any (s : ScV) (o : ObjV) (A : Option Addr) (c : Nat) (P : Nat → Prop) (w : World) (ho : ObjOk w o A P) (ht : TextsAt w) :
    Calls Tryz.prog 28 #[o.val A c, s.val] w fun e w' => e = .returned (.bool (inS o.prio o.dl o.parts s)) ∧ Below w.heap.size w w' := by
  obtain ⟨k, a⟩ := s
  cases hv : validS ⟨k, a⟩
  · have := in_bad ⟨k, a⟩ o A c P w ho ht hv
    unfold inS; rw [hv]; exact this
  · unfold inS
    rw [hv, Bool.true_and]
    rcases validS_kinds hv with rfl | rfl | rfl | rfl | rfl | rfl
    · exact in_k0 a o A c P w ho ht hv
    · exact in_k1 a o A c P w ho ht hv
    · exact in_k2 a o A c P w ho ht hv
    · exact in_k3 a o A c P w ho ht hv
    · exact in_k4 a o A c P w ho ht hv
    · have := in_k5 a o A c P w ho ht hv
      have e : liesS o.prio o.dl o.parts ⟨5, a⟩ = (o.prio == a) := by
        unfold liesS
        rw [Bool.eq_iff_iff]; simp
      rw [e]; exact this
end Go.Proofs.YtalkdddeiebfmaaGreatDoor
/- scope.Within. -/
namespace Go.Proofs.YtalkdddeiebfmaaGreatDoor
open Go.RowKit

instance : DecidableEq ScV := fun a b => decidable_of_iff (a.kind = b.kind ∧ a.arg = b.arg) (by cases a; cases b; simp)
def eqSc (x y : ScV) : Bool := x.kind == y.kind && x.arg == y.arg
theorem eqSc_iff (x y : ScV) : eqSc x y = decide (x = y) := by
  obtain ⟨a1, a2⟩ := x
  obtain ⟨b1, b2⟩ := y
  rw [Bool.eq_iff_iff]
  simp [eqSc]
theorem run_eqSc (x y : ScV) (W : World) : (Op.equalIn 10000 47 (.agg #[.int .i64 x.kind, .int .i64 x.arg]) (.agg #[.int .i64 y.kind, .int .i64 y.arg])).run Tryz.prog W = .ok (eqSc x y) W := by
  refine eqf_struct Tryz.underlying47 (by kernel_rfl) ?_
  refine eqf_more (by rfl) (by go_simp; rfl) (by go_simp; rfl) (by go_simp) ?_
  exact eqf_end (by rfl) (by go_simp; rfl) (by go_simp; rfl) (by go_simp)
theorem run_eqlSc (x y : ScV) (b : Bool) (hb : eqSc x y = b) (W : World) : (binOp .eql 47 (.agg #[.int .i64 x.kind, .int .i64 x.arg]) (.agg #[.int .i64 y.kind, .int .i64 y.arg])).run Tryz.prog W = .ok (.bool b) W := by
  rw [run_eql_struct, run_eqSc, hb]; rfl
theorem run_neqSc (x y : ScV) (b : Bool) (hb : eqSc x y = b) (W : World) : (binOp .neq 47 (.agg #[.int .i64 x.kind, .int .i64 x.arg]) (.agg #[.int .i64 y.kind, .int .i64 y.arg])).run Tryz.prog W = .ok (.bool (!b)) W := by
  rw [run_neq_struct, run_eqSc, hb]; rfl
def withinS (a b : ScV) : Bool := validS a && validS b && (decide (a = b) || b.kind == 0)
/-- two scopes' boxes -/
structure TwoSc (w : World) (p q : Nat) (a b : ScV) : Prop where
  x0 : w.cell? ⟨p, 0, none⟩ = some (.int .i64 a.kind)
  x1 : w.cell? ⟨p, 1, none⟩ = some (.int .i64 a.arg)
  y0 : w.cell? ⟨q, 0, none⟩ = some (.int .i64 b.kind)
  y1 : w.cell? ⟨q, 1, none⟩ = some (.int .i64 b.arg)
theorem TwoSc.below {w w' : World} {p q : Nat} {a b : ScV} (h : TwoSc w p q a b) (hb : Below w.heap.size w w') : TwoSc w' p q a b :=
  ⟨(hb.cell (p := ⟨p, 0, none⟩) (World.block_lt_of_cell? w _ h.x0)).trans h.x0, (hb.cell (p := ⟨p, 1, none⟩) (World.block_lt_of_cell? w _ h.x1)).trans h.x1, (hb.cell (p := ⟨q, 0, none⟩) (World.block_lt_of_cell? w _ h.y0)).trans h.y0, (hb.cell (p := ⟨q, 1, none⟩) (World.block_lt_of_cell? w _ h.y1)).trans h.y1⟩
theorem twoSc (w : World) (a b : ScV) : TwoSc ((w.alloc (.cells #[.int .i64 a.kind, .int .i64 a.arg] 47)).alloc (.cells #[.int .i64 b.kind, .int .i64 b.arg] 47)) w.heap.size (w.heap.size + 1) a b := by
  have h1 := heap_alloc_new w (.cells #[.int .i64 a.kind, .int .i64 a.arg] 47)
  have h2 : Below (w.alloc (.cells #[.int .i64 a.kind, .int .i64 a.arg] 47)).heap.size (w.alloc (.cells #[.int .i64 a.kind, .int .i64 a.arg] 47)) ((w.alloc (.cells #[.int .i64 a.kind, .int .i64 a.arg] 47)).alloc (.cells #[.int .i64 b.kind, .int .i64 b.arg] 47)) := (Below.refl _ _).alloc (Nat.le_refl _) _
  have h3 := heap_alloc_new (w.alloc (.cells #[.int .i64 a.kind, .int .i64 a.arg] 47)) (.cells #[.int .i64 b.kind, .int .i64 b.arg] 47)
  have hs : (w.alloc (.cells #[.int .i64 a.kind, .int .i64 a.arg] 47)).heap.size = w.heap.size + 1 := by simp
  rw [hs] at h3
  exact ⟨(h2.cell (p := ⟨w.heap.size, 0, none⟩) (by rw [hs]; exact Nat.lt_succ_self _)).trans ((cell_of_row _ _ _ _ _ _ h1).trans rfl), (h2.cell (p := ⟨w.heap.size, 1, none⟩) (by rw [hs]; exact Nat.lt_succ_self _)).trans ((cell_of_row _ _ _ _ _ _ h1).trans rfl), (cell_of_row _ _ _ _ _ _ h3).trans rfl, (cell_of_row _ _ _ _ _ _ h3).trans rfl⟩
end Go.Proofs.YtalkdddeiebfmaaGreatDoor
/- scope.Of. -/
namespace Go.Proofs.YtalkdddeiebfmaaGreatDoor
open Go.RowKit

def ScV.cells (s : ScV) : List Value := [.int .i64 s.kind, .int .i64 s.arg]
def kSc : Kn ScV := Kn.enc ScV.cells 2 (by omega) (fun _ => rfl) (fun x u hu => by simp [ScV.cells] at hu; rcases hu with rfl | rfl <;> rfl)
theorem kSc_plain : kSc.Plain := Kn.plain_enc
theorem scElem : Elem Tryz.prog 91 47 kSc 16 :=
  Elem.mk_ (z := .agg #[.int .i64 0, .int .i64 0]) Tryz.underlying91 (by kernel_rfl) rfl (by omega)
/-- the scope of a kind that an object of this priority is asked for -/
def scopeK (prio : Int) (k : Nat) : ScV := ⟨k, if k = 5 then prio else 0⟩
def ofS (o : ObjV) (k : Nat) : List ScV := ((List.range k).map (scopeK o.prio)).filter (inS o.prio o.dl o.parts)
theorem ofS_step {o : ObjV} {k : Nat} (hk : k < 6) (b : Bool) (hb : inS o.prio o.dl o.parts (scopeK o.prio k) = b) : ofS o (k + 1) = ofS o k ++ (if b then [scopeK o.prio k] else []) := by
  unfold ofS
  rw [List.range_succ, List.map_append, List.filter_append]
  congr 1
  cases b <;> simp [hb]
structure ScAt (w : World) (p : Nat) (k a : Int) : Prop where
  s0 : w.cell? ⟨p, 0, none⟩ = some (.int .i64 k)
  s1 : w.cell? ⟨p, 1, none⟩ = some (.int .i64 a)
def OfPost (o : ObjV) (w : World) (e : Ending) (w' : World) : Prop :=
  ∃ A c, e = .returned (.slice A (ofS o 6).length c) ∧ Own kSc 47 w.heap.size (fun _ => True) w' (.slice A (ofS o 6).length c) (ofS o 6) ∧ Below w.heap.size w w'
set_option maxRecDepth 100000 in
set_option maxHeartbeats 1000000 in
theorem of_any (o : ObjV) (A : Option Addr) (c : Nat) (P : Nat → Prop) (w : World) (ho : ObjOk w o A P) (ht : TextsAt w) : Calls Tryz.prog 53 #[o.val A c] w (OfPost o w) := by
  obtain ⟨B0, n0, m0, hlab⟩ := ho.lab
  have hb0 : Below w.heap.size w (w.alloc (.cells (o.cells A c) 26)) := (Below.refl _ _).alloc (Nat.le_refl _) _
  have hob := objAt_new w o A c
  have hok := ho.below hb0
  have htx := ht.below hb0
  unfold ObjV.val
  obtain ⟨w0, hw0⟩ : ∃ w0, w.alloc (.cells (o.cells A c) 26) = w0 := ⟨_, rfl⟩
  rw [hw0] at hb0 hob hok htx
  unfold ObjV.cells at hw0
  rw [hlab] at hw0 ⊢
  have HB0 := Lib.hid hb0
  have OB := Lib.hid hob
  have OK := Lib.hid hok
  have TX := Lib.hid htx
  have HLAB := Lib.hid hlab
  clear hb0 hob hok htx hlab ho ht
  go_enter Tryz.func53, Tryz.ntmps53
  go_wp2
  clear hw0
  go_loopw [3, 6] (fun lv iv wr => ∃ (k n : Nat) (B : Option Addr) (M : List ScV), iv = .int .i64 k ∧ lv = .slice B M.length n ∧ k ≤ 6 ∧ M.length ≤ k ∧ Hid (Own kSc 47 w0.heap.size (fun _ => True) wr (.slice B M.length n) M) ∧ Hid (Below w0.heap.size w0 wr) ∧ Hid (M = ofS o k)) (fun _ iv _ => 6 - (intOf iv).toNat)
  case atStart => exact ⟨0, 0, none, [], rfl, rfl, Nat.zero_le _, Nat.le_refl _, Own.nil _ _ _ _ _, Lib.hid (Below.refl _ _), by simp [Hid, ofS]⟩
  case round =>
    obtain ⟨k, n, B, M, rfl, rfl, hk, hM, hown, hbr, HM⟩ := hrel
    obtain ⟨wo, rfl⟩ : ∃ wo, wo = wr := ⟨_, rfl⟩
    have hsz := hbr.out.size
    have h16 : (M.length + 1) * 16 ≤ 140737488355328 := by omega
    by_cases hlt : k < 6
    · have hkl : (k : Int) < 6 := by omega
      by_cases h5 : k = 5
      · subst h5
        have hsc : scopeK o.prio 5 = ⟨5, o.prio⟩ := rfl
        obtain ⟨p0, p1, p2, p3, p4, p5, p6⟩ := OB.out.below (hbr.out.trans (((Below.refl wo.heap.size wo).alloc (Nat.le_refl _) (.cells #[.int .i64 5, .int .i64 0] 47)).mono hsz))
        go_upto_region 7 with fail
        go_cut [] (fun wx => ScAt wx wo.heap.size 5 o.prio ∧ Below wo.heap.size wo wx)
        case first =>
          go_wp2_with fail
          go_meet
          have hg := heap_alloc_new wo (.cells #[.int .i64 5, .int .i64 o.prio] 47)
          exact ⟨⟨(cell_of_row _ _ _ _ _ _ hg).trans rfl, (cell_of_row _ _ _ _ _ _ hg).trans rfl⟩, (Below.refl _ _).alloc (Nat.le_refl _) _⟩
        case rest =>
          clear p0 p1 p2 p3 p4 p5 p6
          obtain ⟨⟨s0, s1⟩, hb1⟩ := hcut
          have HB1 := Lib.hid hb1
          have hw1 := hbr.out.trans (hb1.mono hsz)
          have HIN := Lib.hid (in_any ⟨5, o.prio⟩ o A c P _ ((OK.out.below hw1)) ((TX.out.below hw1)))
          unfold ObjV.val ScV.val at HIN
          rw [HLAB.out] at HIN
          obtain ⟨p0, p1, p2, p3, p4, p5, p6⟩ := OB.out.below hw1
          rw [HLAB.out] at p2
          clear hb1 hw1
          cases hin : inS o.prio o.dl o.parts ⟨5, o.prio⟩
          · have HI := Lib.hid hin
            have HM2 := Lib.hid (ofS_step (o := o) (k := 5) (by omega) false (by rw [hsc]; exact hin))
            clear hin
            go_wp2_with (first
              | (go_at_call 28; refine HIN.out.mono ?_; rintro e w2 ⟨rfl, hb2⟩; rw [HI.out]; have HB2 := Lib.hid (HB1.out.trans (hb2.mono HB1.out.size)); have m0 := (hb2.cell (World.block_lt_of_cell? _ _ s0)).trans s0; have m1 := (hb2.cell (World.block_lt_of_cell? _ _ s1)).trans s1; clear hb2))
            go_roundw
            case rel => exact ⟨6, n, B, M, by go_num, rfl, hlt, by omega, hown.out.below HB2.out, hbr.out.trans (HB2.out.mono hsz), by unfold Hid; rw [HM2.out, ← HM.out]; simp⟩
            case measure => simp [intOf]
          · have HI := Lib.hid hin
            have HM2 := Lib.hid (ofS_step (o := o) (k := 5) (by omega) true (by rw [hsc]; exact hin))
            clear hin
            go_wp2_with (first
              | (go_at_call 28; refine HIN.out.mono ?_; rintro e w2 ⟨rfl, hb2⟩; rw [HI.out]; have HB2 := Lib.hid (HB1.out.trans (hb2.mono HB1.out.size)); have m0 := (hb2.cell (World.block_lt_of_cell? _ _ s0)).trans s0; have m1 := (hb2.cell (World.block_lt_of_cell? _ _ s1)).trans s1; clear hb2)
              | (at_builtin; refine wpList_app_plain scElem kSc_plain w0.heap.size rfl (.tmp 19) (.tmp 21) rfl (v := .slice B M.length n) (xs := M) (ys := [(⟨5, o.prio⟩ : ScV)]) rfl ((hown.out.below HB2.out).alloc _) rfl rfl (Row.newOnePlain (cs := ScV.cells ⟨5, o.prio⟩) kSc_plain rfl) (by exact h16) (by have := HB2.out.size; simp; omega) ?_; intro A7 c7 w7 happ; have HA7 := Lib.hid happ; clear happ))
            go_roundw
            case rel =>
              have hl1 : (M ++ [(⟨5, o.prio⟩ : ScV)]).length = M.length + 1 := by rw [List.length_append]; rfl
              refine ⟨6, c7, A7, M ++ [⟨5, o.prio⟩], by go_num, by rw [hl1], hlt, by rw [hl1]; omega, by have := HA7.out.own; rw [hl1]; exact this, HA7.out.below ((hbr.out.trans (HB2.out.mono hsz)).alloc (Nat.le_trans hsz HB2.out.size) _) (by have := HB2.out.size; simp; omega) (fun q hq => (hown.out.block_lt q hq).1), ?_⟩
              unfold Hid; rw [HM2.out, ← HM.out, hsc]; rfl
            case measure => simp [intOf]
      · have e5 : ((k : Int) == 5) = false := by simp; omega
        have hsc : scopeK o.prio k = ⟨(k : Int), 0⟩ := by unfold scopeK; rw [if_neg h5]
        go_upto_region 5 with fail
        go_cut [5] (fun s wx => s = .pointer (some ⟨wo.heap.size, 0, none⟩) ∧ ScAt wx wo.heap.size k 0 ∧ Below wo.heap.size wo wx)
        case first =>
          go_wp2_with fail
          go_meet
          have hg := heap_alloc_new wo (.cells #[.int .i64 k, .int .i64 0] 47)
          exact ⟨rfl, ⟨(cell_of_row _ _ _ _ _ _ hg).trans rfl, (cell_of_row _ _ _ _ _ _ hg).trans rfl⟩, (Below.refl _ _).alloc (Nat.le_refl _) _⟩
        case rest =>
          obtain ⟨rfl, ⟨s0, s1⟩, hb1⟩ := hcut
          have HB1 := Lib.hid hb1
          have hw1 := hbr.out.trans (hb1.mono hsz)
          have HIN := Lib.hid (in_any ⟨(k : Int), 0⟩ o A c P _ ((OK.out.below hw1)) ((TX.out.below hw1)))
          unfold ObjV.val ScV.val at HIN
          rw [HLAB.out] at HIN
          obtain ⟨p0, p1, p2, p3, p4, p5, p6⟩ := OB.out.below hw1
          rw [HLAB.out] at p2
          clear hb1 hw1
          cases hin : inS o.prio o.dl o.parts ⟨(k : Int), 0⟩
          · have HI := Lib.hid hin
            have HM2 := Lib.hid (ofS_step (o := o) hlt false (by rw [hsc]; exact hin))
            clear hin
            go_wp2_with (first
              | (go_at_call 28; refine HIN.out.mono ?_; rintro e w2 ⟨rfl, hb2⟩; rw [HI.out]; have HB2 := Lib.hid (HB1.out.trans (hb2.mono HB1.out.size)); have m0 := (hb2.cell (World.block_lt_of_cell? _ _ s0)).trans s0; have m1 := (hb2.cell (World.block_lt_of_cell? _ _ s1)).trans s1; clear hb2))
            go_roundw
            case rel => exact ⟨k + 1, n, B, M, by go_num, rfl, hlt, by omega, hown.out.below HB2.out, hbr.out.trans (HB2.out.mono hsz), by unfold Hid; rw [HM2.out, ← HM.out]; simp⟩
            case measure => simp [intOf]; omega
          · have HI := Lib.hid hin
            have HM2 := Lib.hid (ofS_step (o := o) hlt true (by rw [hsc]; exact hin))
            clear hin
            go_wp2_with (first
              | (go_at_call 28; refine HIN.out.mono ?_; rintro e w2 ⟨rfl, hb2⟩; rw [HI.out]; have HB2 := Lib.hid (HB1.out.trans (hb2.mono HB1.out.size)); have m0 := (hb2.cell (World.block_lt_of_cell? _ _ s0)).trans s0; have m1 := (hb2.cell (World.block_lt_of_cell? _ _ s1)).trans s1; clear hb2)
              | (at_builtin; refine wpList_app_plain scElem kSc_plain w0.heap.size rfl (.tmp 19) (.tmp 21) rfl (v := .slice B M.length n) (xs := M) (ys := [(⟨(k : Int), 0⟩ : ScV)]) rfl ((hown.out.below HB2.out).alloc _) rfl rfl (Row.newOnePlain (cs := ScV.cells ⟨(k : Int), 0⟩) kSc_plain rfl) (by exact h16) (by have := HB2.out.size; simp; omega) ?_; intro A7 c7 w7 happ; have HA7 := Lib.hid happ; clear happ))
            go_roundw
            case rel =>
              have hl1 : (M ++ [(⟨(k : Int), 0⟩ : ScV)]).length = M.length + 1 := by rw [List.length_append]; rfl
              refine ⟨k + 1, c7, A7, M ++ [⟨(k : Int), 0⟩], by go_num, by rw [hl1], hlt, by rw [hl1]; omega, by have := HA7.out.own; rw [hl1]; exact this, HA7.out.below ((hbr.out.trans (HB2.out.mono hsz)).alloc (Nat.le_trans hsz HB2.out.size) _) (by have := HB2.out.size; simp; omega) (fun q hq => (hown.out.block_lt q hq).1), ?_⟩
              unfold Hid; rw [HM2.out, ← HM.out, hsc]; rfl
            case measure => simp [intOf]; omega
    · have hkl : ¬ (k : Int) < 6 := by omega
      have hk6 : k = 6 := by omega
      have HF := Lib.hid (show OfPost o w (.returned (.slice B M.length n)) wo by
        have h1 := HM.out
        rw [hk6] at h1
        rw [h1] at hown ⊢
        exact ⟨B, n, rfl, hown.out.lower HB0.out.size, HB0.out.trans (hbr.out.mono HB0.out.size)⟩)
      clear hk6
      go_wp2
      go_ret
      exact HF.out
end Go.Proofs.YtalkdddeiebfmaaGreatDoor
/- scope.Uses: quant.Add, the functions that are handed on. -/
namespace Go.Proofs.YtalkdddeiebfmaaGreatDoor
open Go.RowKit

def addQ (a b : Int) : Int × Int := if a < 0 ∨ b < 0 then (0, 1) else if a > 9223372036854775807 - b then (0, 7) else (a + b, 0)
theorem qAdd_any (a b : Int) (w : World) (ha : a ≤ 9223372036854775807) (hb : -9223372036854775808 ≤ b ∧ b ≤ 9223372036854775807) : Calls Tryz.prog 62 #[.int .i64 a, .int .i64 b] w fun e w' => e = .returned (.tuple #[.int .i64 (addQ a b).1, .int .i64 (addQ a b).2]) ∧ w = w' := by
  obtain ⟨hb1, hb2⟩ := hb
  by_cases h1 : a < 0
  · have e1 : decide (a < 0) = true := by simpa using h1
    have hr := Lib.hid (show addQ a b = (0, 1) by unfold addQ; rw [if_pos (.inl h1)])
    go_enter Tryz.func62, Tryz.ntmps62
    go_wp2
    go_ret2
    exact ⟨by rw [hr.out]; rfl, rfl⟩
  · have e1 : decide (a < 0) = false := by simpa using h1
    by_cases h2 : b < 0
    · have e2 : decide (b < 0) = true := by simpa using h2
      have hr := Lib.hid (show addQ a b = (0, 1) by unfold addQ; rw [if_pos (.inr h2)])
      go_enter Tryz.func62, Tryz.ntmps62
      go_wp2
      go_ret2
      exact ⟨by rw [hr.out]; rfl, rfl⟩
    · have e2 : decide (b < 0) = false := by simpa using h2
      have hw : IntKind.i64.wrap (9223372036854775807 - b) = 9223372036854775807 - b := by rw [IntKind.wrap_i64]; omega
      by_cases h3 : a > 9223372036854775807 - b
      · have e3 : decide (a > 9223372036854775807 - b) = true := by simpa using h3
        have hr := Lib.hid (show addQ a b = (0, 7) by unfold addQ; rw [if_neg (by omega), if_pos h3])
        go_enter Tryz.func62, Tryz.ntmps62
        go_wp2
        go_ret2
        exact ⟨by rw [hr.out]; rfl, rfl⟩
      · have e3 : decide (a > 9223372036854775807 - b) = false := by simpa using h3
        have hr := Lib.hid (show addQ a b = (a + b, 0) by unfold addQ; rw [if_neg (by omega), if_neg h3])
        have hw2 : IntKind.i64.wrap (a + b) = a + b := by rw [IntKind.wrap_i64]; omega
        go_enter Tryz.func62, Tryz.ntmps62
        go_wp2
        go_ret2
        exact ⟨by rw [hr.out]; rfl, rfl⟩
def negA (x : Amt) : Bool := decide (x.val < 0)
theorem uses1_any (x : Amt) (w : World) : Calls Tryz.prog 61 #[.agg #[.string x.name, .int .i64 x.val]] w fun e w' => e = .returned (.bool (negA x)) ∧ Below w.heap.size w w' := by
  have hb0 := Lib.hid ((Below.refl w.heap.size w).alloc (Nat.le_refl _) (.cells #[.string x.name, .int .i64 x.val] 45))
  obtain ⟨v, hv⟩ : ∃ v, x.val = v := ⟨_, rfl⟩
  have HV := Lib.hid (show negA x = decide (v < 0) by unfold negA; rw [hv])
  rw [hv] at hb0 ⊢
  clear hv
  cases hd : decide (v < 0)
  · go_enter Tryz.func61, Tryz.ntmps61
    go_wp2
    go_ret
    exact ⟨by rw [HV.out, hd]; rfl, hb0.out⟩
  · go_enter Tryz.func61, Tryz.ntmps61
    go_wp2
    go_ret
    exact ⟨by rw [HV.out, hd]; rfl, hb0.out⟩
set_option maxRecDepth 100000 in
theorem amtIndex_any (A : Option Addr) (c : Nat) (P : Nat → Prop) (xs : List Amt) (w : World) (hr : Row kAmt P w A xs) (hn : xs.length ≤ 9223372036854775807) :
    Calls Tryz.prog 90 #[.slice A xs.length c, .func (.func 61) #[] #[]] w fun e w' => e = .returned (.int .i64 (idxFn negA xs)) ∧ Below w.heap.size w w' := by
  go_enter Tryz.func90, Tryz.ntmps90
  go_wp2
  go_loopw [8] (fun i wr => ∃ k : Nat, i = .int .i64 k ∧ k ≤ xs.length ∧ Below w.heap.size w wr ∧ ∀ x ∈ xs.take k, negA x = false) (fun i _ => xs.length - (intOf i).toNat)
  case atStart => exact ⟨0, rfl, Nat.zero_le _, Below.refl _ _, by simp⟩
  case round =>
    obtain ⟨k, rfl, hk, hbr, hall⟩ := hrel
    by_cases hlt : k < xs.length
    · obtain ⟨a, rfl, _, ⟨e0, e1⟩⟩ := amt_at (hr.below hbr) k hlt
      have hsn : ∀ (b : Bool), negA xs[k] = b → (b = false → ∀ x ∈ xs.take (k + 1), negA x = false) ∧ (b = true → idxFn negA xs = k) := by
        rintro b rfl
        refine ⟨fun h x hx => ?_, fun h => idxFn_some hlt hall h⟩
        rw [List.take_succ_eq_append_getElem hlt] at hx
        rcases List.mem_append.1 hx with hx | hx
        · exact hall x hx
        · rw [List.mem_singleton.1 hx]; exact h
      have HS := Lib.hid hsn
      have HC := Lib.hid (uses1_any xs[k] wr)
      clear hsn hall
      cases hv : negA xs[k]
      · have HV := Lib.hid hv
        clear hv
        go_wp2_with (go_at_call 61; refine HC.out.mono ?_; rintro e w2 ⟨rfl, hb2⟩; rw [HV.out])
        go_roundw
        case rel => exact ⟨k + 1, by go_num, hlt, hbr.trans (hb2.mono hbr.size), (HS.out _ HV.out).1 rfl⟩
        case measure => simp [intOf]; omega
      · have HV := Lib.hid hv
        clear hv
        go_wp2_with (go_at_call 61; refine HC.out.mono ?_; rintro e w2 ⟨rfl, hb2⟩; rw [HV.out])
        go_ret
        exact ⟨by rw [(HS.out _ HV.out).2 rfl]; rfl, hbr.trans (hb2.mono hbr.size)⟩
    · have HI := Lib.hid (idxFn_none (p := negA) (xs := xs) (by rw [List.take_of_length_le (by omega)] at hall; exact hall))
      clear hall
      go_wp2
      go_ret
      exact ⟨by rw [HI.out]; rfl, hbr⟩
theorem amtContains_any (A : Option Addr) (c : Nat) (P : Nat → Prop) (xs : List Amt) (w : World) (hr : Row kAmt P w A xs) (hn : xs.length ≤ 9223372036854775807) :
    Calls Tryz.prog 60 #[.slice A xs.length c, .func (.func 61) #[] #[]] w fun e w' => e = .returned (.bool (xs.any negA)) ∧ Below w.heap.size w w' := by
  have HI := Lib.hid (idxFn_any negA xs)
  obtain ⟨n, hn2⟩ : ∃ n, idxFn negA xs = n := ⟨_, rfl⟩
  have HC := Lib.hid (amtIndex_any A c P xs w hr hn)
  rw [hn2] at HC HI
  clear hn2
  go_enter Tryz.func60, Tryz.ntmps60
  go_wp2_with (go_at_call 90; refine HC.out.mono ?_; rintro e w2 ⟨rfl, hb2⟩)
  go_ret
  exact ⟨by rw [← HI.out]; rfl, hb2⟩
end Go.Proofs.YtalkdddeiebfmaaGreatDoor
