/- LedgerUndoes: two ledgers behind the script, and the calls on them (printed by mkundo.py). -/
import Derived.Test.YtalkdddeiebfmaaGreatDoorJ63
import Derived.Test.YtalkdddeiebfmaaGreatDoorJ66
namespace Go.Proofs.YtalkdddeiebfmaaGreatDoor
open Go.RowKit

/-- two ledgers and the boxes that hold them: their blocks -/
structure UndB (w0 : World) (bb g b1 b2 cb h c1 c2 : Nat) : Prop where
  lo : ∀ i, (i = bb ∨ ledB g b1 b2 i) ∨ (i = cb ∨ ledB h c1 c2 i) → w0.heap.size ≤ i
  ab : ∀ i, mapB b1 b2 i → i ≠ bb ∧ i ≠ cb ∧ ¬ ledB h c1 c2 i
  ac : ∀ i, mapB c1 c2 i → i ≠ cb ∧ i ≠ bb ∧ ¬ ledB g b1 b2 i
  bc : bb ≠ cb
  bh : ∀ i, ledB h c1 c2 i → i ≠ bb
  cg : ∀ i, ledB g b1 b2 i → i ≠ cb
  ml : Ml w0
  tx : TextsAt w0
  sg : 1 < w0.heap.size
  st : 0 < w0.heap.size
/-- the two ledgers, and two lists of rows that were told -/
structure Und (w0 w : World) (bb g b1 b2 cb h c1 c2 M : Nat) (S : Pl → Int) (C : ByteArray → Int) (S' : Pl → Int) (C' : ByteArray → Int) (A1 : Option Addr) (Ra : List Sh) (A2 : Option Addr) (Rb : List Sh) : Prop where
  k0 : w.cell? ⟨bb, 0, none⟩ = some (.pointer (some ⟨g, 0, none⟩))
  k1 : w.cell? ⟨cb, 0, none⟩ = some (.pointer (some ⟨h, 0, none⟩))
  b : IsLed w g b1 b2 M S C
  c : IsLed w h c1 c2 M S' C'
  ra : Row kSh (fun k => ¬ mapB b1 b2 k ∧ ¬ mapB c1 c2 k) w A1 Ra
  rb : Row kSh (fun k => ¬ mapB b1 b2 k ∧ ¬ mapB c1 c2 k) w A2 Rb
  below : Below w0.heap.size w0 w
section
variable {w0 w w' : World} {bb g b1 b2 cb h c1 c2 M : Nat} {S S' S2 : Pl → Int} {C C' C2 : ByteArray → Int} {A1 A2 : Option Addr} {Ra Rb : List Sh}
theorem UndB.swap (s : UndB w0 bb g b1 b2 cb h c1 c2) : UndB w0 cb h c1 c2 bb g b1 b2 := ⟨fun i hi => s.lo i hi.symm, s.ac, s.ab, s.bc.symm, s.cg, s.bh, s.ml, s.tx, s.sg, s.st⟩
theorem Und.swap (u : Und w0 w bb g b1 b2 cb h c1 c2 M S C S' C' A1 Ra A2 Rb) : Und w0 w cb h c1 c2 bb g b1 b2 M S' C' S C A1 Ra A2 Rb := ⟨u.k1, u.k0, u.c, u.b, u.ra.mono fun _ hk => hk.symm, u.rb.mono fun _ hk => hk.symm, u.below⟩
theorem Und.then_ (u : Und w0 w bb g b1 b2 cb h c1 c2 M S C S' C' A1 Ra A2 Rb) (hb : Below w.heap.size w w') : Und w0 w' bb g b1 b2 cb h c1 c2 M S C S' C' A1 Ra A2 Rb :=
  ⟨(hb.cell (World.block_lt_of_cell? _ _ u.k0)).trans u.k0, (hb.cell (World.block_lt_of_cell? _ _ u.k1)).trans u.k1, u.b.below hb, u.c.below hb, u.ra.below hb, u.rb.below hb, u.below.trans (hb.mono u.below.size)⟩
theorem Und.drew (u : Und w0 w bb g b1 b2 cb h c1 c2 M S C S' C' A1 Ra A2 Rb) : Und w0 w.drew bb g b1 b2 cb h c1 c2 M S C S' C' A1 Ra A2 Rb := u.then_ (Below.refl _ _).drew
theorem Und.on (u : Und w0 w bb g b1 b2 cb h c1 c2 M S C S' C' A1 Ra A2 Rb) (s : UndB w0 bb g b1 b2 cb h c1 c2) {n : Nat} (hl : IsLed w' g b1 b2 n S2 C2) (ok : LedOk M S2 C2) (ht : Turn (mapB b1 b2) w w') : Und w0 w' bb g b1 b2 cb h c1 c2 M S2 C2 S' C' A1 Ra A2 Rb :=
  ⟨ht.cell u.k0 fun e => (s.ab _ e).1 rfl, ht.cell u.k1 fun e => (s.ab _ e).2.1 rfl, hl.tight ok, u.c.turn ht fun i hi e => (s.ab i e).2.2 hi, u.ra.turn ht fun _ hk => hk.1, u.rb.turn ht fun _ hk => hk.1, u.below.trans (ht.below u.below.size fun k e => s.lo k (.inl (.inr (.inr e))))⟩
theorem Und.charge (u : Und w0 w bb g b1 b2 cb h c1 c2 M S C S' C' A1 Ra A2 Rb) (s : UndB w0 bb g b1 b2 cb h c1 c2) (ok : LedOk M S C) (hM : M ≤ 2400000000000) {x : ObjM} (hx : ObjMOk x) (L3 : Option Addr) (m3 : Nat) (B3 : Option Addr) (e3 : Nat) (Q : Nat → Prop) (hr : Row kPart Q w B3 x.parts) {z : Int} (hz : chargeV S C x.v = (z, S2, C2)) (ok2 : LedOk M S2 C2) :
    Calls Tryz.prog 17 #[.pointer (some ⟨g, 0, none⟩), .agg #[.string x.path, .string x.name, .slice L3 x.ls.length m3, .int .i64 x.prio, .int .i64 x.dl, .slice B3 x.parts.length e3, .int .i64 x.ver]] w fun e w' => e = .returned (.int .i64 z) ∧ Und w0 w' bb g b1 b2 cb h c1 c2 M S2 C2 S' C' A1 Ra A2 Rb := by
  refine (charge_any x.v M L3 x.ls.length m3 B3 e3 Q w (oarg_row L3 m3 hr hx (s.ml.below u.below) (s.tx.below u.below)) u.b ok (by omega) (M + 60000000000) (Nat.le_refl _) (by unfold maxLen; omega)).mono fun e w' hp => ?_
  unfold LedPost at hp
  rw [hz] at hp
  exact ⟨hp.1, u.on s hp.2.1 ok2 hp.2.2⟩
theorem Und.release (u : Und w0 w bb g b1 b2 cb h c1 c2 M S C S' C' A1 Ra A2 Rb) (s : UndB w0 bb g b1 b2 cb h c1 c2) (ok : LedOk M S C) (hM : M ≤ 2400000000000) {x : ObjM} (hx : ObjMOk x) (L3 : Option Addr) (m3 : Nat) (B3 : Option Addr) (e3 : Nat) (Q : Nat → Prop) (hr : Row kPart Q w B3 x.parts) {z : Int} (hz : releaseV S C x.v = (z, S2, C2)) (ok2 : LedOk M S2 C2) :
    Calls Tryz.prog 18 #[.pointer (some ⟨g, 0, none⟩), .agg #[.string x.path, .string x.name, .slice L3 x.ls.length m3, .int .i64 x.prio, .int .i64 x.dl, .slice B3 x.parts.length e3, .int .i64 x.ver]] w fun e w' => e = .returned (.int .i64 z) ∧ Und w0 w' bb g b1 b2 cb h c1 c2 M S2 C2 S' C' A1 Ra A2 Rb := by
  refine (release_any x.v M L3 x.ls.length m3 B3 e3 Q w (oarg_row L3 m3 hr hx (s.ml.below u.below) (s.tx.below u.below)) u.b ok (by omega) (M + 60000000000) (Nat.le_refl _) (by unfold maxLen; omega)).mono fun e w' hp => ?_
  unfold LedPost at hp
  rw [hz] at hp
  exact ⟨hp.1, u.on s hp.2.1 ok2 hp.2.2⟩
theorem Und.change (u : Und w0 w bb g b1 b2 cb h c1 c2 M S C S' C' A1 Ra A2 Rb) (s : UndB w0 bb g b1 b2 cb h c1 c2) (ok : LedOk M S C) (hM : M ≤ 2400000000000) {x y : ObjM} (hx : ObjMOk x) (hy : ObjMOk y) (L3 : Option Addr) (m3 : Nat) (B3 : Option Addr) (e3 : Nat) (Q : Nat → Prop) (hr : Row kPart Q w B3 x.parts)
    (L4 : Option Addr) (m4 : Nat) (B4 : Option Addr) (e4 : Nat) (Q' : Nat → Prop) (hr' : Row kPart Q' w B4 y.parts) (hQ : ∀ i, Q' i → ¬ mapB b1 b2 i) {z : Int} (hz : changeV S C x.v y.v = (z, S2, C2)) (ok2 : LedOk M S2 C2) :
    Calls Tryz.prog 24 #[.pointer (some ⟨g, 0, none⟩), .agg #[.string x.path, .string x.name, .slice L3 x.ls.length m3, .int .i64 x.prio, .int .i64 x.dl, .slice B3 x.parts.length e3, .int .i64 x.ver], .agg #[.string y.path, .string y.name, .slice L4 y.ls.length m4, .int .i64 y.prio, .int .i64 y.dl, .slice B4 y.parts.length e4, .int .i64 y.ver]] w fun e w' => e = .returned (.int .i64 z) ∧ Und w0 w' bb g b1 b2 cb h c1 c2 M S2 C2 S' C' A1 Ra A2 Rb := by
  have hl : ∀ i, mapB b1 b2 i → w0.heap.size ≤ i := fun i hi => s.lo i (.inl (.inr (.inr hi)))
  have h1 := hl b1 (.inl rfl)
  have h2 := hl b2 (.inr rfl)
  have h3 := s.sg
  have h4 := s.st
  refine (change_any x.v y.v M L3 x.ls.length m3 B3 e3 Q L4 y.ls.length m4 B4 e4 Q' w (oarg_row L3 m3 hr hx (s.ml.below u.below) (s.tx.below u.below)) (oarg_row L4 m4 hr' hy (s.ml.below u.below) (s.tx.below u.below)) u.b ok (by omega) (M + 180000000000) (Nat.le_refl _) (by unfold maxLen; omega)
    ⟨fun e => by omega, fun e => by omega⟩ ⟨fun e => by omega, fun e => by omega⟩ (fun i hi => ⟨fun e => hQ i hi (.inl e), fun e => hQ i hi (.inr e)⟩)).mono fun e w' hp => ?_
  unfold LedPost at hp
  rw [hz] at hp
  exact ⟨hp.1, u.on s hp.2.1 ok2 hp.2.2⟩
/-- rows are told -/
theorem Und.rows (u : Und w0 w bb g b1 b2 cb h c1 c2 M S C S' C' A1 Ra A2 Rb) (s : UndB w0 bb g b1 b2 cb h c1 c2) (ok : LedOk M S C) (hM : M ≤ 2400000000000) : Calls Tryz.prog 14 #[.pointer (some ⟨g, 0, none⟩)] w fun e w' => ∃ A c R, e = .returned (.slice A (List.length R) c) ∧ RowsOf S R ∧ R.length ≤ 9223372036854775807 ∧ Row kSh (fun k => ¬ mapB b1 b2 k ∧ ¬ mapB c1 c2 k) w' A R ∧ Und w0 w' bb g b1 b2 cb h c1 c2 M S C S' C' A1 Ra A2 Rb := by
  refine (lrows_any w (s.ml.below u.below) u.b ok (by omega)).mono fun e w' hp => ?_
  obtain ⟨A, c, R, rfl, ho, hr, hb⟩ := hp
  refine ⟨A, c, R, rfl, hr, by have h1 := ho.row'.2.2.1; have h2 := ho.row'.2.2.2; unfold maxLen at h2; omega, (own_from ho (Nat.le_refl _)).mono fun k hk => ⟨fun e => ?_, fun e => ?_⟩, u.then_ hb⟩
  · have := u.b.lt k (.inr e); omega
  · have := u.c.lt k (.inr e); omega
def UndX (w0 w : World) (bb g b1 b2 cb h c1 c2 M : Nat) : Prop := ∃ (S : Pl → Int) (C : ByteArray → Int) (S' : Pl → Int) (C' : ByteArray → Int) (A1 : Option Addr) (Ra : List Sh) (A2 : Option Addr) (Rb : List Sh), Und w0 w bb g b1 b2 cb h c1 c2 M S C S' C' A1 Ra A2 Rb
theorem Und.x (u : Und w0 w bb g b1 b2 cb h c1 c2 M S C S' C' A1 Ra A2 Rb) : UndX w0 w bb g b1 b2 cb h c1 c2 M := ⟨_, _, _, _, _, _, _, _, u⟩
theorem UndX.drew (u : UndX w0 w bb g b1 b2 cb h c1 c2 M) : UndX w0 w.drew bb g b1 b2 cb h c1 c2 M := let ⟨_, _, _, _, _, _, _, _, u⟩ := u; u.drew.x
theorem Und.put1 (u : Und w0 w bb g b1 b2 cb h c1 c2 M S C S' C' A1 Ra A2 Rb) {A : Option Addr} {R : List Sh} (hh : Row kSh (fun k => ¬ mapB b1 b2 k ∧ ¬ mapB c1 c2 k) w A R) : Und w0 w bb g b1 b2 cb h c1 c2 M S C S' C' A R A2 Rb := ⟨u.k0, u.k1, u.b, u.c, hh, u.rb, u.below⟩
theorem Und.put2 (u : Und w0 w bb g b1 b2 cb h c1 c2 M S C S' C' A1 Ra A2 Rb) {A : Option Addr} {R : List Sh} (hh : Row kSh (fun k => ¬ mapB b1 b2 k ∧ ¬ mapB c1 c2 k) w A R) : Und w0 w bb g b1 b2 cb h c1 c2 M S C S' C' A1 Ra A R := ⟨u.k0, u.k1, u.b, u.c, u.ra, hh, u.below⟩
end
end Go.Proofs.YtalkdddeiebfmaaGreatDoor
