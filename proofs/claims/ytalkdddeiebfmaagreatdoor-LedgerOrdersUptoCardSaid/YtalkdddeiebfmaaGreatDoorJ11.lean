/- The ledger's Charge and gone: the walks. -/
import Derived.Test.YtalkdddeiebfmaaGreatDoorJ10
namespace Go.Proofs.YtalkdddeiebfmaaGreatDoor
open Go.RowKit Go.Maps Go.WideMaps

/-- an object as it is handed to a ledger -/
structure OArg (w : World) (o : ObjV) (L : Option Addr) (n m : Nat) (B : Option Addr) (P : Nat → Prop) : Prop where
  ml : Ml w
  tx : TextsAt w
  ok : ObjOk w (o.re L n m) B P
  use : UseOk o
section
variable {w w' : World} {o : ObjV} {L : Option Addr} {n m : Nat} {B : Option Addr} {P : Nat → Prop}
theorem OArg.below (h : OArg w o L n m B P) (hb : Below w.heap.size w w') : OArg w' o L n m B P := ⟨h.ml.below hb, h.tx.below hb, h.ok.below hb, h.use⟩
theorem OArg.turn {T : Nat → Prop} (h : OArg w o L n m B P) (ht : Turn T w w') (h1 : ¬ T 1) (h2 : ¬ T 0) (hP : ∀ k, P k → ¬ T k) : OArg w' o L n m B P :=
  ⟨h.ml.turn ht h1, h.tx.turn ht h2, ⟨h.ok.lab, h.ok.row.turn ht hP, h.ok.len, h.ok.small⟩, h.use⟩
end
theorem shares_at (o : ObjV) (l : List ByteArray) (T : List Sh) (z : Int) (nl nt : Nat) (hV : Hid (sharesV o = (l, T, z))) (hl : l.length = nl) (ht : T.length = nt) (L : Option Addr) (n m : Nat) (B : Option Addr) (c : Nat) (P : Nat → Prop) (w : World) (h : OArg w o L n m B P) :
    Calls Tryz.prog 41 #[.agg #[.string o.path, .string o.name, .slice L n m, .int .i64 o.prio, .int .i64 o.dl, .slice B o.parts.length c, .int .i64 o.ver]] w fun e w' =>
      ∃ A c B d, e = .returned (.tuple #[.slice A nl c, .slice B nt d, .int .i64 z]) ∧ Row Kn.str (fun k => w.heap.size ≤ k ∧ k < w'.heap.size) w' A l ∧ Row kSh (fun k => w.heap.size ≤ k ∧ k < w'.heap.size) w' B T ∧ Below w.heap.size w w' := by
  subst hl
  subst ht
  refine (shares_any o L n m B c P w h.ml h.tx h.ok h.use).mono fun e w' hp => ?_
  unfold SharesPost at hp
  rw [hV.out] at hp
  obtain ⟨A, c, B, d, h1, h2, h3, h4⟩ := hp
  refine ⟨A, c, B, d, h1, ?_, ?_, h4⟩
  · obtain ⟨A', c', hv, _, _, hr⟩ := h2.row
    cases hv
    exact hr.mono fun k hk => hk.elim (fun f => f.elim) (fun e => h2.block_lt k e)
  · obtain ⟨A', c', hv, _, _, hr⟩ := h3.row
    cases hv
    exact hr.mono fun k hk => hk.elim (fun f => f.elim) (fun e => h3.block_lt k e)
section
variable {g b1 b2 n : Nat} {S : Pl → Int} {C : ByteArray → Int}
theorem judge_above (T : List Sh) (nt : Nat) (ht : T.length = nt) (z : Int) (hz : Hid (judgeA S T = z)) (hs : ∀ s ∈ T, ShOk s) (hl : nt ≤ 9223372036854775807) (A : Option Addr) (c : Nat) (P : Nat → Prop) (w : World) (k : IsLed w g b1 b2 n S C) (hr : Row kSh P w A T) :
    Calls Tryz.prog 42 #[.pointer (some ⟨g, 0, none⟩), .slice A nt c, .func (.func 43) #[] #[]] w fun e w' => e = .returned (.int .i64 z) ∧ Below w.heap.size w w' := by
  subst ht
  have := judged_above0 (fun s => if S s.1 > 9223372036854775807 - s.2 then 7 else 0) A c P T w k hr hl fun s hm W kW => above_at s (hs s hm) W kW (S s.1) rfl
  rw [show judgeL (fun s => if S s.1 > 9223372036854775807 - s.2 then 7 else 0) T = z from hz.out] at this
  exact this
theorem judge_under (T : List Sh) (nt : Nat) (ht : T.length = nt) (z : Int) (hz : Hid (judgeU S T = z)) (hs : ∀ s ∈ T, ShOk s) (hl : nt ≤ 9223372036854775807) (A : Option Addr) (c : Nat) (P : Nat → Prop) (w : World) (k : IsLed w g b1 b2 n S C) (hr : Row kSh P w A T) :
    Calls Tryz.prog 42 #[.pointer (some ⟨g, 0, none⟩), .slice A nt c, .func (.func 77) #[] #[]] w fun e w' => e = .returned (.int .i64 z) ∧ Below w.heap.size w w' := by
  subst ht
  have := judged_under0 (fun s => if S s.1 < s.2 then 170 else 0) A c P T w k hr hl fun s hm W kW => under_at s (hs s hm) W kW (S s.1) rfl
  rw [show judgeL (fun s => if S s.1 < s.2 then 170 else 0) T = z from hz.out] at this
  exact this
theorem IsLed.mono {w : World} (k : IsLed w g b1 b2 n S C) {m : Nat} (h : n ≤ m) : IsLed w g b1 b2 m S C := ⟨k.box, k.sums.mono h, k.cnts.mono h, k.ne12⟩
theorem move_at (b : Int) (l : List ByteArray) (T : List Sh) (nl nt : Nat) (hl : l.length = nl) (ht : T.length = nt) (A B : Option Addr) (c d : Nat) (P Q : Nat → Prop) (w : World) (k : IsLed w g b1 b2 n S C) (ho : MoveOk b C S l T)
    (hr : Row Kn.str P w A l) (hq : Row kSh Q w B T) (hP : ∀ i, P i → i ≠ b1 ∧ i ≠ b2) (hQ : ∀ i, Q i → i ≠ b1 ∧ i ≠ b2) (h9 : nl ≤ 9) (hL : nt ≤ 57982058550) (n' : Nat) (hn : n + 60000000000 ≤ n') (hx : n' < maxLen) :
    Calls Tryz.prog 44 #[.pointer (some ⟨g, 0, none⟩), .slice A nl c, .slice B nt d, .int .i64 b] w fun e w' =>
      e = .returned (.tuple #[]) ∧ IsLed w' g b1 b2 n' (addS b S T) (addC b C l) ∧ Turn (mapB b1 b2) w w' := by
  subst hl
  subst ht
  refine (move_any b l T A B c d P Q g b1 b2 n S C w k ho hr hq hP hQ (by omega) (by omega)).mono fun e w' ⟨h1, h2, h3⟩ => ⟨h1, h2.mono (by omega), h3⟩
/-- what a call on a ledger leaves -/
def LedPost (g b1 b2 n : Nat) (r : LRes) (w : World) (e : Ending) (w' : World) : Prop := e = .returned (.int .i64 r.1) ∧ IsLed w' g b1 b2 n r.2.1 r.2.2 ∧ Turn (mapB b1 b2) w w'
theorem LedPost.kept {m : Nat} {z : Int} {w w' : World} {r : LRes} (h : r = (z, S, C)) (k : IsLed w g b1 b2 n S C) (hb : Below w.heap.size w w') (hm : n ≤ m) : LedPost g b1 b2 m r w (.returned (.int .i64 z)) w' := by
  subst h
  exact ⟨rfl, (k.below hb).mono hm, Turn.of_below hb⟩
theorem moveOk_charge {m : Nat} (ok : LedOk m S C) (hm : m ≤ 4611686018427387904) {o : ObjV} {l : List ByteArray} {T : List Sh} (h : SharesOk o l T) (hj : judgeA S T = 0) : MoveOk 1 C S l T :=
  ⟨.inl rfl, fun p hp => (h.path p hp).2, by have := h.few; omega, fun x => by have := ok.clo x; have := ok.chi x; omega, fun s hs => (h.sh s hs).1, h.nod, fun s hs => by
    have h1 := judgeA_zero hj s hs
    have h2 := ok.lo s.1
    have h3 := (h.sh s hs).1.pos
    unfold in64; omega⟩
theorem moveOk_release {m : Nat} (ok : LedOk m S C) (hm : m ≤ 4611686018427387904) {o : ObjV} {l : List ByteArray} {T : List Sh} (h : SharesOk o l T) (hj : judgeU S T = 0) : MoveOk (-1) C S l T :=
  ⟨.inr rfl, fun p hp => (h.path p hp).2, by have := h.few; omega, fun x => by have := ok.clo x; have := ok.chi x; omega, fun s hs => (h.sh s hs).1, h.nod, fun s hs => by
    have h1 := judgeU_zero hj s hs
    have h2 := ok.hi s.1
    have h3 := (h.sh s hs).1.pos
    unfold in64; omega⟩
set_option maxRecDepth 100000 in
set_option maxHeartbeats 1000000 in
theorem charge_any (o : ObjV) (mm : Nat) (L : Option Addr) (no mo : Nat) (B : Option Addr) (c : Nat) (P : Nat → Prop) (w : World) (h : OArg w o L no mo B P) (k : IsLed w g b1 b2 n S C) (ok : LedOk mm S C) (hm : mm ≤ 4611686018427387904) (n' : Nat) (hn : n + 60000000000 ≤ n') (hnx : n' < maxLen) :
    Calls Tryz.prog 17 #[.pointer (some ⟨g, 0, none⟩), .agg #[.string o.path, .string o.name, .slice L no mo, .int .i64 o.prio, .int .i64 o.dl, .slice B o.parts.length c, .int .i64 o.ver]] w (LedPost g b1 b2 n' (chargeV S C o) w) := by
  have hb0 := (Below.refl w.heap.size w).alloc (Nat.le_refl _) (.cells #[.string o.path, .string o.name, .slice L no mo, .int .i64 o.prio, .int .i64 o.dl, .slice B o.parts.length c, .int .i64 o.ver] 26)
  have hx := OBox.of (heap_alloc_new w (.cells #[.string o.path, .string o.name, .slice L no mo, .int .i64 o.prio, .int .i64 o.dl, .slice B o.parts.length c, .int .i64 o.ver] 26))
  obtain ⟨⟨l, T, z⟩, hV⟩ : ∃ r, sharesV o = r := ⟨_, rfl⟩
  have hcv : chargeV S C o = if z ≠ 0 then (z, S, C) else if judgeA S T ≠ 0 then (judgeA S T, S, C) else (0, addS 1 S T, addC 1 C l) := by unfold chargeV; rw [hV]
  have HV := Lib.hid hV
  have hso : z = 0 → SharesOk o l T := fun hz => sharesV_ok h.use (by rw [hV, hz])
  have HA := Lib.hid h
  have HK := Lib.hid k
  have HOK := Lib.hid ok
  have HB0 := Lib.hid hb0
  have HX := Lib.hid hx
  have HCV := Lib.hid hcv
  have HSO := Lib.hid hso
  obtain ⟨nl, hnl⟩ : ∃ n, l.length = n := ⟨_, rfl⟩
  obtain ⟨nt, hnt⟩ : ∃ n, T.length = n := ⟨_, rfl⟩
  have HNL := Lib.hid hnl
  have HNT := Lib.hid hnt
  have HLT := Lib.hid k.lt
  obtain ⟨-, r0, r1, r2, r3, r4, r5, r6, -⟩ := HX.out
  clear hV hcv hso h k ok hb0 hx hnl hnt
  go_enter Tryz.func17, Tryz.ntmps17
  go_upto_region 2 with (go_at_call 41; refine (shares_at o l T z nl nt HV HNL.out HNT.out L no mo B c P _ (HA.out.below HB0.out)).mono ?_; rintro e w1 ⟨A1, c1, B1, d1, rfl, hr1, hq1, hb1⟩; have HR1 := Lib.hid hr1; have HQ1 := Lib.hid hq1; have HB1 := Lib.hid (HB0.out.trans (hb1.mono HB0.out.size)); have HBB := Lib.hid hb1; clear hr1 hq1 hb1)
  clear r0 r1 r2 r3 r4 r5 r6
  by_cases hz : z = 0
  · subst hz
    have so := HSO.out rfl
    have SO := Lib.hid so
    obtain ⟨j, hj⟩ : ∃ j, judgeA S T = j := ⟨_, rfl⟩
    have HJ := Lib.hid hj
    have hnt9 : nt ≤ 9223372036854775807 := by have := so.len; rw [HNT.out] at this; omega
    have HS := Lib.hid (fun s hs => (so.sh s hs).1 : ∀ s ∈ T, ShOk s)
    have HC2 := HCV.out
    rw [if_neg (by simp), hj] at HC2
    have HCV2 := Lib.hid HC2
    clear so hj HC2 HCV
    go_upto_region 5 with (go_at_call 42; refine (judge_above T nt HNT.out j HJ HS.out hnt9 B1 d1 _ w1 (HK.out.below HB1.out) HQ1.out).mono ?_; rintro e w2 ⟨rfl, hb2⟩; have HB2 := Lib.hid hb2; have HBA := Lib.hid (HB1.out.trans (hb2.mono HB1.out.size)); clear hb2)
    by_cases hj0 : j = 0
    · subst hj0
      have HC2 := HCV2.out
      rw [if_neg (by simp)] at HC2
      have HCV3 := Lib.hid HC2
      have hsz0 := HB0.out.size
      have hl9 : nl ≤ 9 := by rw [← HNL.out]; exact SO.out.few
      have hT9 : nt ≤ 57982058550 := by rw [← HNT.out]; exact SO.out.len
      have HNE := Lib.hid (fun i (hi : (w.alloc (.cells #[.string o.path, .string o.name, .slice L no mo, .int .i64 o.prio, .int .i64 o.dl, .slice B o.parts.length c, .int .i64 o.ver] 26)).heap.size ≤ i ∧ i < w1.heap.size) => (show i ≠ b1 ∧ i ≠ b2 from
        ⟨fun e => by have := HLT.out b1 (.inr (.inl rfl)); omega, fun e => by have := HLT.out b2 (.inr (.inr rfl)); omega⟩))
      clear HC2 HCV2 hsz0
      go_wp2_with (go_at_call 44; refine (move_at 1 l T nl nt HNL.out HNT.out A1 B1 c1 d1 _ _ w2 (HK.out.below HBA.out) (moveOk_charge HOK.out hm SO.out HJ.out) (HR1.out.below HB2.out) (HQ1.out.below HB2.out) HNE.out HNE.out hl9 hT9 n' hn hnx).mono ?_; rintro e w3 ⟨rfl, hk3, ht3⟩; have HK3 := Lib.hid hk3; have HT3 := Lib.hid ht3; clear hk3 ht3)
      go_ret
      rw [HCV3.out]
      exact ⟨rfl, HK3.out, (Turn.of_below HBA.out).trans (HT3.out.mono fun j _ hj => .inl hj)⟩
    · have HC2 := HCV2.out
      rw [if_pos hj0] at HC2
      have HCV3 := Lib.hid HC2
      have e1 : (j != 0) = true := by simpa using hj0
      clear HC2 hj0
      go_wp2
      go_ret
      exact LedPost.kept HCV3.out HK.out HBA.out (by omega)
  · have HC2 := HCV.out
    rw [if_pos hz] at HC2
    have HCV3 := Lib.hid HC2
    have e1 : (z != 0) = true := by simpa using hz
    clear HC2 hz
    go_wp2
    go_ret
    exact LedPost.kept HCV3.out HK.out HB1.out (by omega)
end
end Go.Proofs.YtalkdddeiebfmaaGreatDoor
