/- Scopes: amounts and parts as they lie in memory; what a scope is, in plain words; Valid. -/
import Derived.Test.YtdchffghgajbfaaK3
import Derived.Test.YtdchffghgajbfaaA2
import Derived.Test.YtdchffghgajbfaaQ
import Derived.KernelRfl
namespace Go.Proofs.Ytdchffghgajbfaa
open Go.RowKit

structure Amt where
  name : ByteArray
  val : Int
def Amt.cells (a : Amt) : List Value := [.string a.name, .int .i64 a.val]
def kAmt : Kn Amt := Kn.enc Amt.cells 2 (by omega) (fun _ => rfl) (fun x u hu => by simp [Amt.cells] at hu; rcases hu with rfl | rfl <;> rfl)
theorem kAmt_plain : kAmt.Plain := Kn.plain_enc
theorem amtElem : Elem Try.prog 27 36 kAmt 24 :=
  Elem.mk_ (z := .agg #[.string ⟨#[]⟩, .int .i64 0]) Try.underlying27 (by kernel_rfl) rfl (by omega)
structure PartV where
  name : ByteArray
  req : List Amt
  lim : List Amt
def kPart : Kn PartV := Kn.iso (Kn.pair Kn.str (Kn.pair (Kn.slice kAmt) (Kn.slice kAmt))) (fun p : PartV => (p.name, p.req, p.lim))
theorem kPart_sz : kPart.sz = 3 := rfl
theorem partElem : Elem Try.prog 23 33 kPart 64 :=
  Elem.mk_ (z := .agg #[.string ⟨#[]⟩, .slice none 0 0, .slice none 0 0]) Try.underlying23 (by kernel_rfl) rfl (by omega)
structure AmtAt (w : World) (a : Addr) (x : Amt) : Prop where
  c0 : w.cell? a = some (.string x.name)
  c1 : w.cell? ⟨a.block, a.off + 1, none⟩ = some (.int .i64 x.val)
theorem amt_at {P : Nat → Prop} {w : World} {A : Option Addr} {xs : List Amt} (h : Row kAmt P w A xs) (i : Nat) (hi : i < xs.length) : ∃ a, A = some a ∧ P a.block ∧ AmtAt w (a.add (i * 2)) xs[i] := by
  obtain ⟨a, cs, hA, hP, hr, hc⟩ := h.at_ i hi
  obtain rfl : cs = xs[i].cells := hr
  exact ⟨a, hA, hP, hc 0 _ rfl, by rw [← add_off _ _ 1 (by omega)]; exact hc 1 _ rfl⟩
structure PartAt (P : Nat → Prop) (w : World) (a : Addr) (x : PartV) (R M : Option Addr) (cr cm : Nat) : Prop where
  c0 : w.cell? a = some (.string x.name)
  c1 : w.cell? ⟨a.block, a.off + 1, none⟩ = some (.slice R x.req.length cr)
  c2 : w.cell? ⟨a.block, a.off + 2, none⟩ = some (.slice M x.lim.length cm)
  r1 : Row kAmt P w R x.req
  r2 : Row kAmt P w M x.lim
  l1 : x.req.length ≤ cr ∧ cr ≤ maxLen
  l2 : x.lim.length ≤ cm ∧ cm ≤ maxLen
theorem part_at {P : Nat → Prop} {w : World} {A : Option Addr} {xs : List PartV} (h : Row kPart P w A xs) (i : Nat) (hi : i < xs.length) : ∃ a R M cr cm, A = some a ∧ PartAt P w (a.add (i * 3)) xs[i] R M cr cm := by
  obtain ⟨a, cs, hA, hP, hr, hc⟩ := h.at_ i hi
  obtain ⟨c1, c2, rfl, h1, c3, c4, rfl, ⟨v, rfl, R, cr, rfl, l1, l2, hrow1⟩, v', rfl, M, cm, rfl, l3, l4, hrow2⟩ := hr
  obtain rfl : c1 = [.string xs[i].name] := h1
  exact ⟨a, R, M, cr, cm, hA, hc 0 _ rfl, by rw [← add_off _ _ 1 (by omega)]; exact hc 1 _ rfl, by rw [← add_off _ _ 2 (by omega)]; exact hc 2 _ rfl, hrow1, hrow2, ⟨l1, l2⟩, ⟨l3, l4⟩⟩

/-- a scope: its kind, its argument -/
structure ScV where
  kind : Int
  arg : Int
def ScV.val (s : ScV) : Value := .agg #[.int .i64 s.kind, .int .i64 s.arg]
def validS (s : ScV) : Bool := if s.kind < 0 ∨ s.kind ≥ 6 then false else if s.kind = 5 then decide (s.arg ≥ 0) && decide (s.arg < 10) else decide (s.arg = 0)
def namedP (ps : List PartV) : Bool := ps.any fun p => decide (((p.req.length : Int) + p.lim.length) > 0)
/-- which objects lie in a scope: by priority, deadline, parts -/
def liesS (prio dl : Int) (ps : List PartV) (s : ScV) : Bool :=
  if s.kind = 1 then !namedP ps else if s.kind = 2 then namedP ps else if s.kind = 3 then decide (dl > 0) else if s.kind = 4 then decide (dl ≤ 0) else if s.kind = 5 then decide (prio = s.arg) else true
def inS (prio dl : Int) (ps : List PartV) (s : ScV) : Bool := validS s && liesS prio dl ps s
theorem valid_any (s : ScV) (w : World) : Calls Try.prog 10 #[s.val] w fun e w' => e = .returned (.bool (validS s)) ∧ Below w.heap.size w w' := by
  obtain ⟨k, a⟩ := s
  have hb0 := Lib.hid ((Below.refl w.heap.size w).alloc (Nat.le_refl _) (.cells #[.int .i64 k, .int .i64 a] 42))
  unfold ScV.val
  by_cases h1 : k < 0
  · have e1 : decide (k < 0) = true := by simpa using h1
    have hv := Lib.hid (show validS ⟨k, a⟩ = false by unfold validS; rw [if_pos (.inl h1)])
    go_enter Try.func10, Try.ntmps10
    go_wp2
    go_ret
    exact ⟨by rw [hv.out]; rfl, hb0.out⟩
  · have e1 : decide (k < 0) = false := by simpa using h1
    by_cases h2 : k ≥ 6
    · have e2 : decide (k ≥ 6) = true := by simpa using h2
      have hv := Lib.hid (show validS ⟨k, a⟩ = false by unfold validS; rw [if_pos (.inr h2)])
      go_enter Try.func10, Try.ntmps10
      go_wp2
      go_ret
      exact ⟨by rw [hv.out]; rfl, hb0.out⟩
    · have e2 : decide (k ≥ 6) = false := by simpa using h2
      by_cases h3 : k = 5
      · have e3 : (k == 5) = true := by simpa using h3
        have hv : validS ⟨k, a⟩ = (decide (a ≥ 0) && decide (a < 10)) := by unfold validS; rw [if_neg (by simp only; omega), if_pos (by simpa using h3)]
        by_cases h4 : a ≥ 0
        · have e4 : decide (a ≥ 0) = true := by simpa using h4
          have HV := Lib.hid (show validS ⟨k, a⟩ = decide (a < 10) by rw [hv, e4]; rfl)
          clear hv h3
          go_enter Try.func10, Try.ntmps10
          go_wp2
          go_ret
          exact ⟨by rw [HV.out]; rfl, hb0.out⟩
        · have e4 : decide (a ≥ 0) = false := by simpa using h4
          have HV := Lib.hid (show validS ⟨k, a⟩ = false by rw [hv, e4]; rfl)
          clear hv h3
          go_enter Try.func10, Try.ntmps10
          go_wp2
          go_ret
          exact ⟨by rw [HV.out]; rfl, hb0.out⟩
      · have e3 : (k == 5) = false := by simpa using h3
        have hv := Lib.hid (show validS ⟨k, a⟩ = (a == 0) by unfold validS; rw [if_neg (by simp only; omega), if_neg (by simpa using h3)]; rw [Bool.eq_iff_iff]; simp)
        clear h3
        go_enter Try.func10, Try.ntmps10
        go_wp2
        go_ret
        exact ⟨by rw [hv.out]; rfl, hb0.out⟩
end Go.Proofs.Ytdchffghgajbfaa
