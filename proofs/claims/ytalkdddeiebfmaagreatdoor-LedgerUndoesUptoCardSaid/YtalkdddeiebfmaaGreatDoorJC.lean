/- Laid together: J11 J12 J13 J14. -/
import Derived.Test.YtalkdddeiebfmaaGreatDoorJB
/- The ledger's Charge and gone: the walks. -/
namespace Go.Proofs.YtalkdddeiebfmaaGreatDoor
open Go.RowKit Go.Maps Go.WideMaps

/-- an object as it is handed to a ledger -/
structure OArg (w : World) (o : ObjV) (L : Option Addr) (n m : Nat) (B : Option Addr) (P : Nat → Prop) : Prop where
  ml : Ml w
  tx : TextsAt w
  ok : ObjOk w (o.re L n m) B P
  use : UseOk o
section
variable {w w' : World} {o : ObjV} {L : Option Addr} {n m : Nat} {B : Option Addr} {P : Nat → Prop}
theorem OArg.below (h : OArg w o L n m B P) (hb : Below w.heap.size w w') : OArg w' o L n m B P := ⟨h.ml.below hb, h.tx.below hb, h.ok.below hb, h.use⟩
theorem OArg.turn {T : Nat → Prop} (h : OArg w o L n m B P) (ht : Turn T w w') (h1 : ¬ T 1) (h2 : ¬ T 0) (hP : ∀ k, P k → ¬ T k) : OArg w' o L n m B P :=
  ⟨h.ml.turn ht h1, h.tx.turn ht h2, ⟨h.ok.lab, h.ok.row.turn ht hP, h.ok.len, h.ok.small⟩, h.use⟩
end
theorem shares_at (o : ObjV) (l : List ByteArray) (T : List Sh) (z : Int) (nl nt : Nat) (hV : Hid (sharesV o = (l, T, z))) (hl : l.length = nl) (ht : T.length = nt) (L : Option Addr) (n m : Nat) (B : Option Addr) (c : Nat) (P : Nat → Prop) (w : World) (h : OArg w o L n m B P) :
    Calls Tryz.prog 41 #[.agg #[.string o.path, .string o.name, .slice L n m, .int .i64 o.prio, .int .i64 o.dl, .slice B o.parts.length c, .int .i64 o.ver]] w fun e w' =>
      ∃ A c B d, e = .returned (.tuple #[.slice A nl c, .slice B nt d, .int .i64 z]) ∧ Row Kn.str (fun k => w.heap.size ≤ k ∧ k < w'.heap.size) w' A l ∧ Row kSh (fun k => w.heap.size ≤ k ∧ k < w'.heap.size) w' B T ∧ Below w.heap.size w w' := by
  subst hl
  subst ht
  refine (shares_any o L n m B c P w h.ml h.tx h.ok h.use).mono fun e w' hp => ?_
  unfold SharesPost at hp
  rw [hV.out] at hp
  obtain ⟨A, c, B, d, h1, h2, h3, h4⟩ := hp
  refine ⟨A, c, B, d, h1, ?_, ?_, h4⟩
  · obtain ⟨A', c', hv, _, _, hr⟩ := h2.row
    cases hv
    exact hr.mono fun k hk => hk.elim (fun f => f.elim) (fun e => h2.block_lt k e)
  · obtain ⟨A', c', hv, _, _, hr⟩ := h3.row
    cases hv
    exact hr.mono fun k hk => hk.elim (fun f => f.elim) (fun e => h3.block_lt k e)
section
variable {g b1 b2 n : Nat} {S : Pl → Int} {C : ByteArray → Int}
theorem judge_above (T : List Sh) (nt : Nat) (ht : T.length = nt) (z : Int) (hz : Hid (judgeA S T = z)) (hs : ∀ s ∈ T, ShOk s) (hl : nt ≤ 9223372036854775807) (A : Option Addr) (c : Nat) (P : Nat → Prop) (w : World) (k : IsLed w g b1 b2 n S C) (hr : Row kSh P w A T) :
    Calls Tryz.prog 42 #[.pointer (some ⟨g, 0, none⟩), .slice A nt c, .func (.func 43) #[] #[]] w fun e w' => e = .returned (.int .i64 z) ∧ Below w.heap.size w w' := by
  subst ht
  have := judged_above0 (fun s => if S s.1 > 9223372036854775807 - s.2 then 7 else 0) A c P T w k hr hl fun s hm W kW => above_at s (hs s hm) W kW (S s.1) rfl
  rw [show judgeL (fun s => if S s.1 > 9223372036854775807 - s.2 then 7 else 0) T = z from hz.out] at this
  exact this
theorem judge_under (T : List Sh) (nt : Nat) (ht : T.length = nt) (z : Int) (hz : Hid (judgeU S T = z)) (hs : ∀ s ∈ T, ShOk s) (hl : nt ≤ 9223372036854775807) (A : Option Addr) (c : Nat) (P : Nat → Prop) (w : World) (k : IsLed w g b1 b2 n S C) (hr : Row kSh P w A T) :
    Calls Tryz.prog 42 #[.pointer (some ⟨g, 0, none⟩), .slice A nt c, .func (.func 77) #[] #[]] w fun e w' => e = .returned (.int .i64 z) ∧ Below w.heap.size w w' := by
  subst ht
  have := judged_under0 (fun s => if S s.1 < s.2 then 170 else 0) A c P T w k hr hl fun s hm W kW => under_at s (hs s hm) W kW (S s.1) rfl
  rw [show judgeL (fun s => if S s.1 < s.2 then 170 else 0) T = z from hz.out] at this
  exact this
theorem IsLed.mono {w : World} (k : IsLed w g b1 b2 n S C) {m : Nat} (h : n ≤ m) : IsLed w g b1 b2 m S C := ⟨k.box, k.sums.mono h, k.cnts.mono h, k.ne12⟩
theorem move_at (b : Int) (l : List ByteArray) (T : List Sh) (nl nt : Nat) (hl : l.length = nl) (ht : T.length = nt) (A B : Option Addr) (c d : Nat) (P Q : Nat → Prop) (w : World) (k : IsLed w g b1 b2 n S C) (ho : MoveOk b C S l T)
    (hr : Row Kn.str P w A l) (hq : Row kSh Q w B T) (hP : ∀ i, P i → i ≠ b1 ∧ i ≠ b2) (hQ : ∀ i, Q i → i ≠ b1 ∧ i ≠ b2) (h9 : nl ≤ 9) (hL : nt ≤ 57982058550) (n' : Nat) (hn : n + 60000000000 ≤ n') (hx : n' < maxLen) :
    Calls Tryz.prog 44 #[.pointer (some ⟨g, 0, none⟩), .slice A nl c, .slice B nt d, .int .i64 b] w fun e w' =>
      e = .returned (.tuple #[]) ∧ IsLed w' g b1 b2 n' (addS b S T) (addC b C l) ∧ Turn (mapB b1 b2) w w' := by
  subst hl
  subst ht
  refine (move_any b l T A B c d P Q g b1 b2 n S C w k ho hr hq hP hQ (by omega) (by omega)).mono fun e w' ⟨h1, h2, h3⟩ => ⟨h1, h2.mono (by omega), h3⟩
/-- what a call on a ledger leaves -/
def LedPost (g b1 b2 n : Nat) (r : LRes) (w : World) (e : Ending) (w' : World) : Prop := e = .returned (.int .i64 r.1) ∧ IsLed w' g b1 b2 n r.2.1 r.2.2 ∧ Turn (mapB b1 b2) w w'
theorem LedPost.kept {m : Nat} {z : Int} {w w' : World} {r : LRes} (h : r = (z, S, C)) (k : IsLed w g b1 b2 n S C) (hb : Below w.heap.size w w') (hm : n ≤ m) : LedPost g b1 b2 m r w (.returned (.int .i64 z)) w' := by
  subst h
  exact ⟨rfl, (k.below hb).mono hm, Turn.of_below hb⟩
theorem moveOk_charge {m : Nat} (ok : LedOk m S C) (hm : m ≤ 4611686018427387904) {o : ObjV} {l : List ByteArray} {T : List Sh} (h : SharesOk o l T) (hj : judgeA S T = 0) : MoveOk 1 C S l T :=
  ⟨.inl rfl, fun p hp => (h.path p hp).2, by have := h.few; omega, fun x => by have := ok.clo x; have := ok.chi x; omega, fun s hs => (h.sh s hs).1, h.nod, fun s hs => by
    have h1 := judgeA_zero hj s hs
    have h2 := ok.lo s.1
    have h3 := (h.sh s hs).1.pos
    unfold in64; omega⟩
theorem moveOk_release {m : Nat} (ok : LedOk m S C) (hm : m ≤ 4611686018427387904) {o : ObjV} {l : List ByteArray} {T : List Sh} (h : SharesOk o l T) (hj : judgeU S T = 0) : MoveOk (-1) C S l T :=
  ⟨.inr rfl, fun p hp => (h.path p hp).2, by have := h.few; omega, fun x => by have := ok.clo x; have := ok.chi x; omega, fun s hs => (h.sh s hs).1, h.nod, fun s hs => by
    have h1 := judgeU_zero hj s hs
    have h2 := ok.hi s.1
    have h3 := (h.sh s hs).1.pos
    unfold in64; omega⟩
set_option maxRecDepth 100000 in
set_option maxHeartbeats 1000000 in
theorem charge_any (o : ObjV) (mm : Nat) (L : Option Addr) (no mo : Nat) (B : Option Addr) (c : Nat) (P : Nat → Prop) (w : World) (h : OArg w o L no mo B P) (k : IsLed w g b1 b2 n S C) (ok : LedOk mm S C) (hm : mm ≤ 4611686018427387904) (n' : Nat) (hn : n + 60000000000 ≤ n') (hnx : n' < maxLen) :
    Calls Tryz.prog 17 #[.pointer (some ⟨g, 0, none⟩), .agg #[.string o.path, .string o.name, .slice L no mo, .int .i64 o.prio, .int .i64 o.dl, .slice B o.parts.length c, .int .i64 o.ver]] w (LedPost g b1 b2 n' (chargeV S C o) w) := by
  have hb0 := (Below.refl w.heap.size w).alloc (Nat.le_refl _) (.cells #[.string o.path, .string o.name, .slice L no mo, .int .i64 o.prio, .int .i64 o.dl, .slice B o.parts.length c, .int .i64 o.ver] 26)
  have hx := OBox.of (heap_alloc_new w (.cells #[.string o.path, .string o.name, .slice L no mo, .int .i64 o.prio, .int .i64 o.dl, .slice B o.parts.length c, .int .i64 o.ver] 26))
  obtain ⟨⟨l, T, z⟩, hV⟩ : ∃ r, sharesV o = r := ⟨_, rfl⟩
  have hcv : chargeV S C o = if z ≠ 0 then (z, S, C) else if judgeA S T ≠ 0 then (judgeA S T, S, C) else (0, addS 1 S T, addC 1 C l) := by unfold chargeV; rw [hV]
  have HV := Lib.hid hV
  have hso : z = 0 → SharesOk o l T := fun hz => sharesV_ok h.use (by rw [hV, hz])
  have HA := Lib.hid h
  have HK := Lib.hid k
  have HOK := Lib.hid ok
  have HB0 := Lib.hid hb0
  have HX := Lib.hid hx
  have HCV := Lib.hid hcv
  have HSO := Lib.hid hso
  obtain ⟨nl, hnl⟩ : ∃ n, l.length = n := ⟨_, rfl⟩
  obtain ⟨nt, hnt⟩ : ∃ n, T.length = n := ⟨_, rfl⟩
  have HNL := Lib.hid hnl
  have HNT := Lib.hid hnt
  have HLT := Lib.hid k.lt
  obtain ⟨-, r0, r1, r2, r3, r4, r5, r6, -⟩ := HX.out
  clear hV hcv hso h k ok hb0 hx hnl hnt
  go_enter Tryz.func17, Tryz.ntmps17
  go_upto_region 2 with (go_at_call 41; refine (shares_at o l T z nl nt HV HNL.out HNT.out L no mo B c P _ (HA.out.below HB0.out)).mono ?_; rintro e w1 ⟨A1, c1, B1, d1, rfl, hr1, hq1, hb1⟩; have HR1 := Lib.hid hr1; have HQ1 := Lib.hid hq1; have HB1 := Lib.hid (HB0.out.trans (hb1.mono HB0.out.size)); have HBB := Lib.hid hb1; clear hr1 hq1 hb1)
  clear r0 r1 r2 r3 r4 r5 r6
  by_cases hz : z = 0
  · subst hz
    have so := HSO.out rfl
    have SO := Lib.hid so
    obtain ⟨j, hj⟩ : ∃ j, judgeA S T = j := ⟨_, rfl⟩
    have HJ := Lib.hid hj
    have hnt9 : nt ≤ 9223372036854775807 := by have := so.len; rw [HNT.out] at this; omega
    have HS := Lib.hid (fun s hs => (so.sh s hs).1 : ∀ s ∈ T, ShOk s)
    have HC2 := HCV.out
    rw [if_neg (by simp), hj] at HC2
    have HCV2 := Lib.hid HC2
    clear so hj HC2 HCV
    go_upto_region 5 with (go_at_call 42; refine (judge_above T nt HNT.out j HJ HS.out hnt9 B1 d1 _ w1 (HK.out.below HB1.out) HQ1.out).mono ?_; rintro e w2 ⟨rfl, hb2⟩; have HB2 := Lib.hid hb2; have HBA := Lib.hid (HB1.out.trans (hb2.mono HB1.out.size)); clear hb2)
    by_cases hj0 : j = 0
    · subst hj0
      have HC2 := HCV2.out
      rw [if_neg (by simp)] at HC2
      have HCV3 := Lib.hid HC2
      have hsz0 := HB0.out.size
      have hl9 : nl ≤ 9 := by rw [← HNL.out]; exact SO.out.few
      have hT9 : nt ≤ 57982058550 := by rw [← HNT.out]; exact SO.out.len
      have HNE := Lib.hid (fun i (hi : (w.alloc (.cells #[.string o.path, .string o.name, .slice L no mo, .int .i64 o.prio, .int .i64 o.dl, .slice B o.parts.length c, .int .i64 o.ver] 26)).heap.size ≤ i ∧ i < w1.heap.size) => (show i ≠ b1 ∧ i ≠ b2 from
        ⟨fun e => by have := HLT.out b1 (.inr (.inl rfl)); omega, fun e => by have := HLT.out b2 (.inr (.inr rfl)); omega⟩))
      clear HC2 HCV2 hsz0
      go_wp2_with (go_at_call 44; refine (move_at 1 l T nl nt HNL.out HNT.out A1 B1 c1 d1 _ _ w2 (HK.out.below HBA.out) (moveOk_charge HOK.out hm SO.out HJ.out) (HR1.out.below HB2.out) (HQ1.out.below HB2.out) HNE.out HNE.out hl9 hT9 n' hn hnx).mono ?_; rintro e w3 ⟨rfl, hk3, ht3⟩; have HK3 := Lib.hid hk3; have HT3 := Lib.hid ht3; clear hk3 ht3)
      go_ret
      rw [HCV3.out]
      exact ⟨rfl, HK3.out, (Turn.of_below HBA.out).trans (HT3.out.mono fun j _ hj => .inl hj)⟩
    · have HC2 := HCV2.out
      rw [if_pos hj0] at HC2
      have HCV3 := Lib.hid HC2
      have e1 : (j != 0) = true := by simpa using hj0
      clear HC2 hj0
      go_wp2
      go_ret
      exact LedPost.kept HCV3.out HK.out HBA.out (by omega)
  · have HC2 := HCV.out
    rw [if_pos hz] at HC2
    have HCV3 := Lib.hid HC2
    have e1 : (z != 0) = true := by simpa using hz
    clear HC2 hz
    go_wp2
    go_ret
    exact LedPost.kept HCV3.out HK.out HB1.out (by omega)
end
end Go.Proofs.YtalkdddeiebfmaaGreatDoor
/- The ledger's gone, Release and Change: the walks. -/
namespace Go.Proofs.YtalkdddeiebfmaaGreatDoor
open Go.RowKit Go.Maps Go.WideMaps

theorem any_take_false {C : ByteArray → Int} {l : List ByteArray} : l.any (fun p => C p == 0) = false ↔ ∀ p ∈ l, C p ≠ 0 := by
  rw [List.any_eq_false]
  exact ⟨fun h p hp => by simpa using h p hp, fun h p hp => by simpa using h p hp⟩
section
variable {g b1 b2 n : Nat} {S : Pl → Int} {C : ByteArray → Int}
def GonePost (r : List ByteArray × List Sh × Int) (w : World) (e : Ending) (w' : World) : Prop :=
  ∃ A c B d, e = .returned (.tuple #[.slice A r.1.length c, .slice B r.2.1.length d, .int .i64 r.2.2]) ∧ Row Kn.str (fun k => w.heap.size ≤ k ∧ k < w'.heap.size) w' A r.1 ∧ Row kSh (fun k => w.heap.size ≤ k ∧ k < w'.heap.size) w' B r.2.1 ∧ Below w.heap.size w w'
theorem GonePost.none {r : List ByteArray × List Sh × Int} {z : Int} (h : r = ([], [], z)) {w w' : World} (hb : Below w.heap.size w w') : GonePost r w (.returned (.tuple #[.slice none 0 0, .slice none 0 0, .int .i64 z])) w' := by
  subst h
  exact ⟨Option.none, 0, Option.none, 0, rfl, Row.nil _ _ _ _, Row.nil _ _ _ _, hb⟩
theorem GonePost.mk_ {r : List ByteArray × List Sh × Int} {l : List ByteArray} {T : List Sh} {nl nt : Nat} (h : r = (l, T, 0)) (hl : l.length = nl) (ht : T.length = nt) {w w1 w' : World} {A B : Option Addr} {c d : Nat} {P Q : Nat → Prop} (h1 : Row Kn.str P w' A l) (h2 : Row kSh Q w' B T)
    (hP : ∀ k, P k → w.heap.size ≤ k ∧ k < w'.heap.size) (hQ : ∀ k, Q k → w.heap.size ≤ k ∧ k < w'.heap.size) (hb : Below w.heap.size w w') : GonePost r w (.returned (.tuple #[.slice A nl c, .slice B nt d, .int .i64 0])) w' := by
  subst h
  subst hl
  subst ht
  exact ⟨A, c, B, d, rfl, h1.mono hP, h2.mono hQ, hb⟩
set_option maxRecDepth 100000 in
set_option maxHeartbeats 1000000 in
theorem gone_any (o : ObjV) (L : Option Addr) (no mo : Nat) (B : Option Addr) (c : Nat) (P : Nat → Prop) (w : World) (h : OArg w o L no mo B P) (k : IsLed w g b1 b2 n S C) :
    Calls Tryz.prog 45 #[.pointer (some ⟨g, 0, none⟩), .agg #[.string o.path, .string o.name, .slice L no mo, .int .i64 o.prio, .int .i64 o.dl, .slice B o.parts.length c, .int .i64 o.ver]] w (GonePost (goneV S C o) w) := by
  have hb0 := (Below.refl w.heap.size w).alloc (Nat.le_refl _) (.cells #[.string o.path, .string o.name, .slice L no mo, .int .i64 o.prio, .int .i64 o.dl, .slice B o.parts.length c, .int .i64 o.ver] 26)
  have hx := OBox.of (heap_alloc_new w (.cells #[.string o.path, .string o.name, .slice L no mo, .int .i64 o.prio, .int .i64 o.dl, .slice B o.parts.length c, .int .i64 o.ver] 26))
  obtain ⟨⟨l, T, z⟩, hV⟩ : ∃ r, sharesV o = r := ⟨_, rfl⟩
  have hcv : goneV S C o = if z ≠ 0 then ([], [], z) else if judgeU S T ≠ 0 then ([], [], judgeU S T) else if l.any (fun p => C p == 0) = true then ([], [], 170) else (l, T, 0) := by unfold goneV; rw [hV]
  have HV := Lib.hid hV
  have hso : z = 0 → SharesOk o l T := fun hz => sharesV_ok h.use (by rw [hV, hz])
  have HA := Lib.hid h
  have HK := Lib.hid k
  have HB0 := Lib.hid hb0
  have HX := Lib.hid hx
  have HCV := Lib.hid hcv
  have HSO := Lib.hid hso
  obtain ⟨nl, hnl⟩ : ∃ n, l.length = n := ⟨_, rfl⟩
  obtain ⟨nt, hnt⟩ : ∃ n, T.length = n := ⟨_, rfl⟩
  have HNL := Lib.hid hnl
  have HNT := Lib.hid hnt
  obtain ⟨-, r0, r1, r2, r3, r4, r5, r6, -⟩ := HX.out
  clear hV hcv hso h k hb0 hx hnl hnt
  go_enter Tryz.func45, Tryz.ntmps45
  go_upto_region 2 with (go_at_call 41; refine (shares_at o l T z nl nt HV HNL.out HNT.out L no mo B c P _ (HA.out.below HB0.out)).mono ?_; rintro e w1 ⟨A1, c1, B1, d1, rfl, hr1, hq1, hb1⟩; have HR1 := Lib.hid hr1; have HQ1 := Lib.hid hq1; have HB1 := Lib.hid (HB0.out.trans (hb1.mono HB0.out.size)); have HBB := Lib.hid hb1; clear hr1 hq1 hb1)
  clear r0 r1 r2 r3 r4 r5 r6
  by_cases hz : z = 0
  · subst hz
    have so := HSO.out rfl
    have SO := Lib.hid so
    obtain ⟨j, hj⟩ : ∃ j, judgeU S T = j := ⟨_, rfl⟩
    have HJ := Lib.hid hj
    have hnt9 : nt ≤ 9223372036854775807 := by have := so.len; rw [HNT.out] at this; omega
    have HS := Lib.hid (fun s hs => (so.sh s hs).1 : ∀ s ∈ T, ShOk s)
    have HC2 := HCV.out
    rw [if_neg (by simp), hj] at HC2
    have HCV2 := Lib.hid HC2
    clear so hj HC2 HCV
    go_upto_region 5 with (go_at_call 42; refine (judge_under T nt HNT.out j HJ HS.out hnt9 B1 d1 _ w1 (HK.out.below HB1.out) HQ1.out).mono ?_; rintro e w2 ⟨rfl, hb2⟩; have HB2 := Lib.hid hb2; have HBA := Lib.hid (HB1.out.trans (hb2.mono HB1.out.size)); clear hb2)
    by_cases hj0 : j = 0
    · subst hj0
      have HC2 := HCV2.out
      rw [if_neg (by simp)] at HC2
      have HCV3 := Lib.hid HC2
      have hl9 : nl ≤ 9 := by rw [← HNL.out]; exact SO.out.few
      clear HC2 HCV2
      go_wp2
      go_loopw [30] (fun iv wr => ∃ i : Nat, iv = .int .i64 i ∧ i ≤ nl ∧ Hid (Below w2.heap.size w2 wr) ∧ Hid (∀ p ∈ l.take i, C p ≠ 0)) (fun iv _ => nl - (intOf iv).toNat)
      case atStart => exact ⟨0, rfl, Nat.zero_le _, Below.refl _ _, by simp [Hid]⟩
      case round =>
        obtain ⟨i, rfl, hi, hbr, hnz⟩ := hrel
        obtain ⟨wo, rfl⟩ : ∃ wo, wo = wr := ⟨_, rfl⟩
        have HBW := Lib.hid (HBA.out.trans (hbr.out.mono HBA.out.size))
        by_cases hlt : i < nl
        · have hltx : i < l.length := by rw [HNL.out]; exact hlt
          obtain ⟨a, rfl, x0⟩ := row_str_at ((HR1.out.below HB2.out).below hbr.out) i hltx
          obtain ⟨p, hp⟩ : ∃ p, l[i] = p := ⟨_, rfl⟩
          have hpm : p ∈ l := by rw [← hp]; exact List.getElem_mem _
          rw [hp] at x0
          have kw := HK.out.below HBW.out
          have g1 := kw.g1
          have lk := kw.cnts.look (SO.out.path p hpm).2
          obtain ⟨z, hz⟩ : ∃ z, C p = z := ⟨_, rfl⟩
          rw [hz] at lk
          have hlti : (i : Int) < (nl : Int) := by omega
          by_cases h0 : z = 0
          · have hf := Lib.hid (show goneV S C o = ([], [], 170) by
              rw [HCV3.out, if_pos]
              rw [List.any_eq_true]
              exact ⟨p, hpm, by simp [hz, h0]⟩)
            have e1 : (z == 0) = true := by simpa using h0
            subst h0
            clear kw hp hpm hz hnz
            go_wp2
            go_ret3
            exact GonePost.none hf.out HBW.out
          · have e1 : (z == 0) = false := by simpa using h0
            have HN2 := Lib.hid (show ∀ p ∈ l.take (i + 1), C p ≠ 0 by
              rw [List.take_succ_eq_append_getElem hltx]
              intro y hy
              rcases List.mem_append.1 hy with hy | hy
              · exact hnz.out y hy
              · rw [List.mem_singleton.1 hy, hp, hz]; exact h0)
            have HBR := Lib.hid hbr.out
            clear kw hp hpm hz hnz h0 hbr
            go_wp2
            go_roundw
            case rel => exact ⟨i + 1, by go_num, hlt, HBR.out, HN2.out⟩
            case measure => simp [intOf]; omega
        · have hge : ¬ ((i : Int) < (nl : Int)) := by omega
          have hf := Lib.hid (show goneV S C o = (l, T, 0) by
            rw [HCV3.out, if_neg]
            rw [Bool.not_eq_true, any_take_false]
            have := hnz.out
            rwa [List.take_of_length_le (by rw [HNL.out]; omega)] at this)
          have HBR := Lib.hid hbr.out
          have hs0 := HB0.out.size
          have hs2 := HB2.out.size
          have hs3 := hbr.out.size
          have HFIN := Lib.hid (GonePost.mk_ (w := w) (w1 := w1) (w' := wo) (c := c1) (d := d1) hf.out HNL.out HNT.out ((HR1.out.below HB2.out).below hbr.out) ((HQ1.out.below HB2.out).below hbr.out) (fun k hk => by omega) (fun k hk => by omega) HBW.out)
          clear hbr hnz hs0 hs2 hs3
          go_wp2
          go_ret3
          exact HFIN.out
    · have HC2 := HCV2.out
      rw [if_pos hj0] at HC2
      have HCV3 := Lib.hid HC2
      have e1 : (j != 0) = true := by simpa using hj0
      clear HC2 hj0
      go_wp2
      go_ret3
      exact GonePost.none HCV3.out HBA.out
  · have HC2 := HCV.out
    rw [if_pos hz] at HC2
    have HCV3 := Lib.hid HC2
    have e1 : (z != 0) = true := by simpa using hz
    clear HC2 hz
    go_wp2
    go_ret3
    exact GonePost.none HCV3.out HB1.out

theorem gone_at (o : ObjV) (l : List ByteArray) (T : List Sh) (z : Int) (nl nt : Nat) (hV : Hid (goneV S C o = (l, T, z))) (hl : l.length = nl) (ht : T.length = nt) (L : Option Addr) (no mo : Nat) (B : Option Addr) (c : Nat) (P : Nat → Prop) (w : World) (h : OArg w o L no mo B P) (k : IsLed w g b1 b2 n S C) :
    Calls Tryz.prog 45 #[.pointer (some ⟨g, 0, none⟩), .agg #[.string o.path, .string o.name, .slice L no mo, .int .i64 o.prio, .int .i64 o.dl, .slice B o.parts.length c, .int .i64 o.ver]] w fun e w' =>
      ∃ A c B d, e = .returned (.tuple #[.slice A nl c, .slice B nt d, .int .i64 z]) ∧ Row Kn.str (fun k => w.heap.size ≤ k ∧ k < w'.heap.size) w' A l ∧ Row kSh (fun k => w.heap.size ≤ k ∧ k < w'.heap.size) w' B T ∧ Below w.heap.size w w' := by
  subst hl
  subst ht
  have := gone_any o L no mo B c P w h k
  unfold GonePost at this
  rw [hV.out] at this
  exact this
theorem goneV_ok {o : ObjV} (hu : UseOk o) {l : List ByteArray} {T : List Sh} (h : goneV S C o = (l, T, 0)) : SharesOk o l T ∧ judgeU S T = 0 ∧ l.any (fun p => C p == 0) = false := by
  unfold goneV at h
  split at h
  · rename_i h1
    exact absurd (congrArg (fun z => z.2.2) h) h1
  · rename_i h1
    split at h
    · rename_i h2
      exact absurd (congrArg (fun z => z.2.2) h) h2
    · rename_i h2
      split at h
      · have : (170 : Int) = 0 := congrArg (fun z => z.2.2) h
        omega
      · rename_i h3
        cases h
        refine ⟨sharesV_ok hu ?_, by simpa using h2, by simpa using h3⟩
        have : (sharesV o).2.2 = 0 := by simpa using h1
        rw [← this]
theorem chargeV_err {o : ObjV} (h : (chargeV S C o).1 ≠ 0) : chargeV S C o = ((chargeV S C o).1, S, C) := by
  unfold chargeV at h ⊢
  split
  · rfl
  · split
    · rfl
    · rename_i h1 h2
      rw [if_neg h1, if_neg h2] at h
      exact absurd rfl h
set_option maxRecDepth 100000 in
set_option maxHeartbeats 1000000 in
theorem release_any (o : ObjV) (mm : Nat) (L : Option Addr) (no mo : Nat) (B : Option Addr) (c : Nat) (P : Nat → Prop) (w : World) (h : OArg w o L no mo B P) (k : IsLed w g b1 b2 n S C) (ok : LedOk mm S C) (hm : mm ≤ 4611686018427387904) (n' : Nat) (hn : n + 60000000000 ≤ n') (hnx : n' < maxLen) :
    Calls Tryz.prog 18 #[.pointer (some ⟨g, 0, none⟩), .agg #[.string o.path, .string o.name, .slice L no mo, .int .i64 o.prio, .int .i64 o.dl, .slice B o.parts.length c, .int .i64 o.ver]] w (LedPost g b1 b2 n' (releaseV S C o) w) := by
  have hb0 := (Below.refl w.heap.size w).alloc (Nat.le_refl _) (.cells #[.string o.path, .string o.name, .slice L no mo, .int .i64 o.prio, .int .i64 o.dl, .slice B o.parts.length c, .int .i64 o.ver] 26)
  have hx := OBox.of (heap_alloc_new w (.cells #[.string o.path, .string o.name, .slice L no mo, .int .i64 o.prio, .int .i64 o.dl, .slice B o.parts.length c, .int .i64 o.ver] 26))
  obtain ⟨⟨l, T, z⟩, hV⟩ : ∃ r, goneV S C o = r := ⟨_, rfl⟩
  have HCV := Lib.hid (show releaseV S C o = if z = 0 then (0, addS (-1) S T, addC (-1) C l) else (z, S, C) by unfold releaseV; rw [hV])
  have HV := Lib.hid hV
  have HGO := Lib.hid (fun (hz : z = 0) => goneV_ok (S := S) (C := C) h.use (show goneV S C o = (l, T, 0) by rw [hV, hz]))
  have HA := Lib.hid h
  have HK := Lib.hid k
  have HOK := Lib.hid ok
  have HB0 := Lib.hid hb0
  have HX := Lib.hid hx
  obtain ⟨nl, hnl⟩ : ∃ n, l.length = n := ⟨_, rfl⟩
  obtain ⟨nt, hnt⟩ : ∃ n, T.length = n := ⟨_, rfl⟩
  have HNL := Lib.hid hnl
  have HNT := Lib.hid hnt
  have HLT := Lib.hid k.lt
  obtain ⟨-, r0, r1, r2, r3, r4, r5, r6, -⟩ := HX.out
  clear hV h k ok hb0 hx hnl hnt
  go_enter Tryz.func18, Tryz.ntmps18
  go_upto_region 2 with (go_at_call 45; refine (gone_at o l T z nl nt HV HNL.out HNT.out L no mo B c P _ (HA.out.below HB0.out) (HK.out.below HB0.out)).mono ?_; rintro e w1 ⟨A1, c1, B1, d1, rfl, hr1, hq1, hb1⟩; have HR1 := Lib.hid hr1; have HQ1 := Lib.hid hq1; have HB1 := Lib.hid (HB0.out.trans (hb1.mono HB0.out.size)); clear hr1 hq1 hb1)
  clear r0 r1 r2 r3 r4 r5 r6
  by_cases hz : z = 0
  · subst hz
    obtain ⟨so, hj, hc⟩ := HGO.out rfl
    have HC2 := HCV.out
    rw [if_pos rfl] at HC2
    have HCV2 := Lib.hid HC2
    have hl9 : nl ≤ 9 := by rw [← HNL.out]; exact so.few
    have hT9 : nt ≤ 57982058550 := by rw [← HNT.out]; exact so.len
    have hsz0 := HB0.out.size
    have HMO := Lib.hid (moveOk_release HOK.out hm so hj)
    have HNE := Lib.hid (fun i (hi : (w.alloc (.cells #[.string o.path, .string o.name, .slice L no mo, .int .i64 o.prio, .int .i64 o.dl, .slice B o.parts.length c, .int .i64 o.ver] 26)).heap.size ≤ i ∧ i < w1.heap.size) => (show i ≠ b1 ∧ i ≠ b2 from
      ⟨fun e => by have := HLT.out b1 (.inr (.inl rfl)); omega, fun e => by have := HLT.out b2 (.inr (.inr rfl)); omega⟩))
    clear HC2 HCV hsz0 so hj hc
    go_wp2_with (go_at_call 44; refine (move_at (-1) l T nl nt HNL.out HNT.out A1 B1 c1 d1 _ _ w1 (HK.out.below HB1.out) HMO.out HR1.out HQ1.out HNE.out HNE.out hl9 hT9 n' hn hnx).mono ?_; rintro e w3 ⟨rfl, hk3, ht3⟩; have HK3 := Lib.hid hk3; have HT3 := Lib.hid ht3; clear hk3 ht3)
    go_ret
    rw [HCV2.out]
    exact ⟨rfl, HK3.out, (Turn.of_below HB1.out).trans (HT3.out.mono fun j _ hj => .inl hj)⟩
  · have HC2 := HCV.out
    rw [if_neg hz] at HC2
    have HCV3 := Lib.hid HC2
    have e1 : (z == 0) = false := by simpa using hz
    clear HC2 hz
    go_wp2
    go_ret
    exact LedPost.kept HCV3.out HK.out HB1.out (by omega)
end
end Go.Proofs.YtalkdddeiebfmaaGreatDoor
/- The ledger's Change, Used, Count, Of: the walks. -/
namespace Go.Proofs.YtalkdddeiebfmaaGreatDoor
open Go.RowKit Go.Maps Go.WideMaps

section
variable {g b1 b2 n : Nat} {S : Pl → Int} {C : ByteArray → Int}
theorem moveOk_back {m : Nat} (ok : LedOk m S C) (hm : m ≤ 4611686018427387904) {o : ObjV} {l : List ByteArray} {T : List Sh} (h : SharesOk o l T) (hj : judgeU S T = 0) (hc : l.any (fun p => C p == 0) = false) : MoveOk 1 (addC (-1) C l) (addS (-1) S T) l T := by
  have ok2 := ok.release h hj hc
  refine ⟨.inl rfl, fun p hp => (h.path p hp).2, by have := h.few; omega, fun x => by have := ok2.clo x; have := ok2.chi x; omega, fun s hs => (h.sh s hs).1, h.nod, fun s hs => ?_⟩
  rw [addS_svL, svL_in h.nod s hs]
  have h1 := ok.lo s.1
  have h2 := ok.hi s.1
  unfold in64; omega
set_option maxRecDepth 100000 in
set_option maxHeartbeats 1000000 in
theorem change_any (o p : ObjV) (mm : Nat) (L : Option Addr) (no mo : Nat) (B : Option Addr) (c : Nat) (P : Nat → Prop) (L' : Option Addr) (no' mo' : Nat) (B' : Option Addr) (c' : Nat) (P' : Nat → Prop) (w : World) (h : OArg w o L no mo B P) (h' : OArg w p L' no' mo' B' P')
    (k : IsLed w g b1 b2 n S C) (ok : LedOk mm S C) (hm : mm ≤ 4611686018427387904) (n3 : Nat) (hn : n + 180000000000 ≤ n3) (hnx : n3 < maxLen) (hne1 : b1 ≠ 1 ∧ b2 ≠ 1) (hne2 : b1 ≠ 0 ∧ b2 ≠ 0) (hP : ∀ i, P' i → i ≠ b1 ∧ i ≠ b2) :
    Calls Tryz.prog 24 #[.pointer (some ⟨g, 0, none⟩), .agg #[.string o.path, .string o.name, .slice L no mo, .int .i64 o.prio, .int .i64 o.dl, .slice B o.parts.length c, .int .i64 o.ver], .agg #[.string p.path, .string p.name, .slice L' no' mo', .int .i64 p.prio, .int .i64 p.dl, .slice B' p.parts.length c', .int .i64 p.ver]] w
      (LedPost g b1 b2 n3 (changeV S C o p) w) := by
  have hba := (Below.refl w.heap.size w).alloc (Nat.le_refl _) (.cells #[.string o.path, .string o.name, .slice L no mo, .int .i64 o.prio, .int .i64 o.dl, .slice B o.parts.length c, .int .i64 o.ver] 26)
  have hxa := OBox.of (heap_alloc_new w (.cells #[.string o.path, .string o.name, .slice L no mo, .int .i64 o.prio, .int .i64 o.dl, .slice B o.parts.length c, .int .i64 o.ver] 26))
  obtain ⟨wa, hwa⟩ : ∃ wa, w.alloc (.cells #[.string o.path, .string o.name, .slice L no mo, .int .i64 o.prio, .int .i64 o.dl, .slice B o.parts.length c, .int .i64 o.ver] 26) = wa := ⟨_, rfl⟩
  rw [hwa] at hba hxa
  have hbb := (Below.refl wa.heap.size wa).alloc (Nat.le_refl _) (.cells #[.string p.path, .string p.name, .slice L' no' mo', .int .i64 p.prio, .int .i64 p.dl, .slice B' p.parts.length c', .int .i64 p.ver] 26)
  have hxb := OBox.of (heap_alloc_new wa (.cells #[.string p.path, .string p.name, .slice L' no' mo', .int .i64 p.prio, .int .i64 p.dl, .slice B' p.parts.length c', .int .i64 p.ver] 26))
  obtain ⟨w0, hw0⟩ : ∃ w0, wa.alloc (.cells #[.string p.path, .string p.name, .slice L' no' mo', .int .i64 p.prio, .int .i64 p.dl, .slice B' p.parts.length c', .int .i64 p.ver] 26) = w0 := ⟨_, rfl⟩
  rw [hw0] at hbb hxb
  have HB0 := Lib.hid (hba.trans (hbb.mono hba.size))
  have HXA := Lib.hid (hxa.below hbb)
  have HXB := Lib.hid hxb
  have HBXB := Lib.hid (show wa.heap.size ≠ b1 ∧ wa.heap.size ≠ b2 from ⟨fun e => by have := k.lt b1 (.inr (.inl rfl)); have := hba.size; omega, fun e => by have := k.lt b2 (.inr (.inr rfl)); have := hba.size; omega⟩)
  obtain ⟨⟨l, T, z⟩, hV⟩ : ∃ r, goneV S C o = r := ⟨_, rfl⟩
  have HR := Lib.hid (fun (hz : z = 0) => (show releaseV S C o = (0, addS (-1) S T, addC (-1) C l) by unfold releaseV; rw [hV, hz, if_pos rfl]))
  have HCV := Lib.hid (show changeV S C o p = if z ≠ 0 then (z, S, C) else if (chargeV (releaseV S C o).2.1 (releaseV S C o).2.2 p).1 ≠ 0 then ((chargeV (releaseV S C o).2.1 (releaseV S C o).2.2 p).1, S, C) else chargeV (releaseV S C o).2.1 (releaseV S C o).2.2 p by unfold changeV; rw [hV])
  have HV := Lib.hid hV
  have HGO := Lib.hid (fun (hz : z = 0) => goneV_ok (S := S) (C := C) h.use (show goneV S C o = (l, T, 0) by rw [hV, hz]))
  have HA := Lib.hid (h.below HB0.out)
  have HA' := Lib.hid (h'.below HB0.out)
  have HK := Lib.hid (k.below HB0.out)
  have HK00 := Lib.hid k
  have HOK := Lib.hid ok
  obtain ⟨nl, hnl⟩ : ∃ n, l.length = n := ⟨_, rfl⟩
  obtain ⟨nt, hnt⟩ : ∃ n, T.length = n := ⟨_, rfl⟩
  have HNL := Lib.hid hnl
  have HNT := Lib.hid hnt
  have HLT := Lib.hid HK.out.lt
  have HP := Lib.hid hP
  obtain ⟨-, r0, r1, r2, r3, r4, r5, r6, -⟩ := HXA.out
  obtain ⟨-, s0, s1, s2, s3, s4, s5, s6, -⟩ := HXB.out
  clear hV h h' k ok hba hbb hxa hxb hnl hnt hP
  go_enter Tryz.func24, Tryz.ntmps24
  go_upto_region 2 with (go_at_call 45; refine (gone_at o l T z nl nt HV HNL.out HNT.out L no mo B c P _ HA.out HK.out).mono ?_; rintro e w1 ⟨A1, c1, B1, d1, rfl, hr1, hq1, hb1⟩; have HR1 := Lib.hid hr1; have HQ1 := Lib.hid hq1; have HB1 := Lib.hid hb1; clear hr1 hq1 hb1)
  clear hw0 hwa r0 r1 r2 r3 r4 r5 r6 s0 s1 s2 s3 s4 s5 s6
  have HB01 := Lib.hid (HB0.out.trans (HB1.out.mono HB0.out.size))
  by_cases hz : z = 0
  · subst hz
    obtain ⟨so, hj, hc⟩ := HGO.out rfl
    have hrv := HR.out rfl
    have HC2 := HCV.out
    rw [if_neg (by simp), hrv] at HC2
    have hl9 : nl ≤ 9 := by rw [← HNL.out]; exact so.few
    have hT9 : nt ≤ 57982058550 := by rw [← HNT.out]; exact so.len
    have HMO := Lib.hid (moveOk_release HOK.out hm so hj)
    have HMB := Lib.hid (moveOk_back HOK.out hm so hj hc)
    have HOK1 := Lib.hid (HOK.out.release so hj hc)
    have HBK := Lib.hid (addS_back T S)
    have HBC := Lib.hid (addC_back l C)
    have HNE := Lib.hid (fun i (hi : w0.heap.size ≤ i ∧ i < w1.heap.size) => (show i ≠ b1 ∧ i ≠ b2 from
      ⟨fun e => by have := HLT.out b1 (.inr (.inl rfl)); omega, fun e => by have := HLT.out b2 (.inr (.inr rfl)); omega⟩))
    obtain ⟨S1, hS1⟩ : ∃ S1, addS (-1) S T = S1 := ⟨_, rfl⟩
    obtain ⟨C1, hC1⟩ : ∃ C1, addC (-1) C l = C1 := ⟨_, rfl⟩
    simp only at HC2
    rw [hS1, hC1] at HC2 HMB HOK1
    rw [hS1] at HBK
    rw [hC1] at HBC
    have HC3 := Lib.hid HC2
    obtain ⟨n1, hn1⟩ : ∃ n1, n + 60000000000 = n1 := ⟨_, rfl⟩
    obtain ⟨n2, hn2⟩ : ∃ n2, n1 + 60000000000 = n2 := ⟨_, rfl⟩
    have H1 := Lib.hid (show n + 60000000000 ≤ n1 by omega)
    have H2 := Lib.hid (show n1 + 60000000000 ≤ n2 by omega)
    have H3 := Lib.hid (show n2 + 60000000000 ≤ n3 by omega)
    have H4 := Lib.hid (show n1 < maxLen by omega)
    have H5 := Lib.hid (show n2 < maxLen by omega)
    have H6 := Lib.hid (show n2 ≤ n3 by omega)
    clear hn1 hn2
    have HS1 := Lib.hid hS1
    have HC1 := Lib.hid hC1
    clear hj hc so hrv HC2 hS1 hC1 HCV
    go_upto_region 5 with (go_at_call 44; refine (move_at (-1) l T nl nt HNL.out HNT.out A1 B1 c1 d1 _ _ w1 (HK.out.below HB1.out) HMO.out HR1.out HQ1.out HNE.out HNE.out hl9 hT9 n1 H1.out H4.out).mono ?_; rintro e w3 ⟨rfl, hk3, ht3⟩; rw [HS1.out, HC1.out] at hk3; have HK3 := Lib.hid hk3; have HT3 := Lib.hid ht3; clear hk3 ht3)
    have HA3 := Lib.hid ((HA'.out.below HB1.out).turn HT3.out (fun e => e.elim (fun e => hne1.1 e.symm) (fun e => hne1.2 e.symm)) (fun e => e.elim (fun e => hne2.1 e.symm) (fun e => hne2.2 e.symm)) (fun i hi e => e.elim (HP.out i hi).1 (HP.out i hi).2))
    have HX3 := Lib.hid ((HXB.out.below HB1.out).turn HT3.out (fun e => e.elim HBXB.out.1 HBXB.out.2))
    have HR3 := Lib.hid (HR1.out.turn HT3.out (fun i hi e => e.elim (HNE.out i hi).1 (HNE.out i hi).2))
    have HQ3 := Lib.hid (HQ1.out.turn HT3.out (fun i hi e => e.elim (HNE.out i hi).1 (HNE.out i hi).2))
    have HT03 := Lib.hid ((Turn.of_below (S := mapB b1 b2) HB01.out).trans (HT3.out.mono fun j _ hj => .inl hj))
    obtain ⟨-, s0, s1, s2, s3, s4, s5, s6, -⟩ := HX3.out
    have HCC := Lib.hid (charge_any (g := g) (b1 := b1) (b2 := b2) p mm L' no' mo' B' c' P' w3 HA3.out HK3.out HOK1.out hm n2 H2.out H5.out)
    obtain ⟨⟨z2, S2, C2⟩, hr2⟩ : ∃ r, chargeV S1 C1 p = r := ⟨_, rfl⟩
    have HE2 := Lib.hid (fun (hz : z2 ≠ 0) => (show S2 = S1 ∧ C2 = C1 by
      have := chargeV_err (S := S1) (C := C1) (o := p) (by rw [hr2]; exact hz)
      rw [hr2] at this
      simp only [Prod.mk.injEq] at this
      exact this.2))
    have hcc := HCC.out
    unfold LedPost at hcc
    rw [hr2] at hcc
    have HCQ := Lib.hid hcc
    have HC4 := HC3.out
    rw [hr2] at HC4
    have HC5 := Lib.hid HC4
    clear hcc HCC hr2 HC4 HC3
    go_upto_region 6 with (go_at_call 17; refine HCQ.out.mono ?_; rintro e w4 ⟨rfl, hk4, ht4⟩; have HK4 := Lib.hid hk4; have HT4 := Lib.hid ht4; clear hk4 ht4)
    clear s0 s1 s2 s3 s4 s5 s6
    have HT04 := Lib.hid (HT03.out.trans (HT4.out.mono fun j _ hj => .inl hj))
    by_cases hz2 : z2 = 0
    · have HC6 := HC5.out
      rw [if_neg (by simpa using hz2)] at HC6
      have HC7 := Lib.hid HC6
      subst hz2
      clear HC6
      go_wp2
      go_ret
      rw [HC7.out]
      exact ⟨rfl, HK4.out.mono H6.out, HT04.out⟩
    · have HC6 := HC5.out
      rw [if_pos hz2] at HC6
      have HC7 := Lib.hid HC6
      obtain ⟨rfl, rfl⟩ := HE2.out hz2
      have e1 : (z2 != 0) = true := by simpa using hz2
      have HR4 := Lib.hid (HR3.out.turn HT4.out (fun i hi e => e.elim (HNE.out i hi).1 (HNE.out i hi).2))
      have HQ4 := Lib.hid (HQ3.out.turn HT4.out (fun i hi e => e.elim (HNE.out i hi).1 (HNE.out i hi).2))
      clear HC6 hz2
      go_wp2_with (go_at_call 44; refine (move_at 1 l T nl nt HNL.out HNT.out A1 B1 c1 d1 _ _ w4 HK4.out HMB.out HR4.out HQ4.out HNE.out HNE.out hl9 hT9 n3 H3.out hnx).mono ?_; rintro e w5 ⟨rfl, hk5, ht5⟩; rw [HBK.out, HBC.out] at hk5; have HK5 := Lib.hid hk5; have HT5 := Lib.hid ht5; clear hk5 ht5)
      go_ret
      rw [HC7.out]
      exact ⟨rfl, HK5.out, HT04.out.trans (HT5.out.mono fun j _ hj => .inl hj)⟩
  · have HC2 := HCV.out
    rw [if_pos hz] at HC2
    have HCV3 := Lib.hid HC2
    have e1 : (z != 0) = true := by simpa using hz
    clear HC2 hz
    go_wp2
    go_ret
    exact LedPost.kept HCV3.out HK00.out HB01.out (Nat.le_trans (Nat.le_add_right _ _) hn)

set_option maxRecDepth 100000 in
theorem used_any (x : Pl) (hx : PlOk x) (z : Int) (hz : Hid (S x = z)) (w : World) (k : IsLed w g b1 b2 n S C) :
    Calls Tryz.prog 27 #[.pointer (some ⟨g, 0, none⟩), .string x.1, .agg #[.int .i64 x.2.1.1, .int .i64 x.2.1.2], .string x.2.2] w fun e w' => e = .returned (.int .i64 z) ∧ Below w.heap.size w w' := by
  have hb0 := (Below.refl w.heap.size w).alloc (Nat.le_refl _) (.cells #[.int .i64 x.2.1.1, .int .i64 x.2.1.2] 47)
  have k1 := k.below hb0
  have hlk := fun q => k1.look1 hx q
  rw [hz.out] at hlk
  have g0 := k1.g0
  obtain ⟨p, ⟨a, b⟩, r⟩ := x
  simp only at hlk hb0 k1 ⊢
  have HB0 := Lib.hid hb0
  clear hx k k1 hb0 hz
  go_enter Tryz.func27, Tryz.ntmps27
  go_wp2
  go_quiet (fail)
  go_wp2
  go_ret
  exact ⟨rfl, below_drewN HB0.out _⟩
set_option maxRecDepth 100000 in
theorem count_any (p : ByteArray) (hp : StOk p) (z : Int) (hz : Hid (C p = z)) (w : World) (k : IsLed w g b1 b2 n S C) :
    Calls Tryz.prog 19 #[.pointer (some ⟨g, 0, none⟩), .string p] w fun e w' => e = .returned (.int .i64 z) ∧ Below w.heap.size w w' := by
  have g1 := k.g1
  have hlk := k.cnts.look hp
  rw [hz.out] at hlk
  clear hp k hz
  go_enter Tryz.func19, Tryz.ntmps19
  go_wp2
  go_ret
  exact ⟨rfl, Below.refl _ _⟩
end
end Go.Proofs.YtalkdddeiebfmaaGreatDoor
/- label.Split once more: how the world's draws go. -/
namespace Go.Proofs.YtalkdddeiebfmaaGreatDoor
namespace D
open Go.RowKit

/-- Go.RowKit.Below, and no draw is taken back -/
structure Below (B : Nat) (w w' : World) : Prop where
  toB : Go.RowKit.Below B w w'
  dr : w.drawn ≤ w'.drawn
instance instCoe {B : Nat} {w w' : World} : Coe (Below B w w') (Go.RowKit.Below B w w') := ⟨Below.toB⟩
section
variable {B B' : Nat} {a b c w w' : World}
theorem Below.refl (B : Nat) (w : World) : Below B w w := ⟨Go.RowKit.Below.refl _ _, Nat.le_refl _⟩
theorem Below.trans (h : Below B a b) (k : Below B b c) : Below B a c := ⟨h.toB.trans k.toB, Nat.le_trans h.dr k.dr⟩
theorem Below.mono (h : Below B w w') (hB : B' ≤ B) : Below B' w w' := ⟨h.toB.mono hB, h.dr⟩
theorem Below.alloc (h : Below B a w) (hB : B ≤ w.heap.size) (o : Obj) : Below B a (w.alloc o) := ⟨h.toB.alloc hB o, h.dr⟩
theorem Below.drew (h : Below B a w) : Below B a w.drew := ⟨h.toB.drew, Nat.le_trans h.dr (Nat.le_succ _)⟩
theorem Below.size (h : Below B w w') : w.heap.size ≤ w'.heap.size := h.toB.size
theorem Below.block (h : Below B w w') : ∀ k, k < B → w'.heap[k]? = w.heap[k]? := h.toB.block
theorem Below.cell (h : Below B w w') {p : Addr} (hp : p.block < B) : w'.cell? p = w.cell? p := h.toB.cell hp
end
theorem below_drewN {B : Nat} {a w : World} (h : Below B a w) (n : Nat) : Below B a (w.drewN n) := ⟨Go.Proofs.YtalkdddeiebfmaaGreatDoor.below_drewN h.toB n, Nat.le_trans h.dr (Nat.le_add_right _ _)⟩
theorem below_iterAt {B : Nat} {a w : World} (h : Below B a w) {k : Nat} (hk : B ≤ k) (s : ByteArray) (p : Nat) : Below B a (w.iterAt k s p) := ⟨Lib.below_iterAt h.toB hk s p, h.dr⟩

set_option maxRecDepth 100000 in
theorem name_loop (s : ByteArray) (w : World) (h1 : 1 ≤ s.size) (h2 : s.size ≤ 32) (h3 : ((s[0]'(by omega)).toNat : Int) ≠ 45) (h4 : ((s[s.size - 1]'(by omega)).toNat : Int) ≠ 45) :
    Calls Tryz.prog 110 #[.string s] w fun e w' => e = .returned (.bool (s.data.toList.all okB)) ∧ Below w.heap.size w w' := by
  have e1 : decide ((s.size : Int) < 1) = false := by simp; omega
  have e2 : decide ((s.size : Int) > 32) = false := by simp; omega
  have e3 : (((s[0]'(by omega)).toNat : Int) == 45) = false := by simpa using h3
  have e4 : (((s[s.size - 1]'(by omega)).toNat : Int) == 45) = false := by simpa using h4
  clear h3 h4
  go_enter Tryz.func110, Tryz.ntmps110
  go_wp2
  clear e1 e2 e3 e4
  go_loopw [4] (fun v wr => ∃ (pos : Nat), wr.heap[w.heap.size]? = some (.stringIter s pos) ∧ Below w.heap.size w wr ∧ PrefOk s pos) (fun _ wr => s.size - wr.iterPos w.heap.size)
  case atStart => exact ⟨0, World.iter_heap w s 0, (Below.refl _ _).alloc (Nat.le_refl _) _, fun i _ h => absurd h (by omega)⟩
  case round =>
    obtain ⟨pos, hit, hbw, hpf⟩ := hrel
    have hpos0 := iterPos_of hit
    by_cases hp : pos < s.size
    · by_cases hok : okB s[pos] = true
      · have ha : (s[pos]'hp).toNat < 128 := by
          by_cases hh : (s[pos]'hp).toNat < 128
          · exact hh
          · have := plainC_high ((s[pos]'hp).toNat : Int) (by omega)
            unfold okB at hok; rw [this] at hok; cases hok
        have hnx : ∀ ty, (Instr.next (.pointer (some ⟨w.heap.size, 0, none⟩)) true ty).run Tryz.prog wr = _ := fun ty => Lib.run_next_ascii_at wr w.heap.size s pos ty hit hp ha
        have hit2 := Lib.iterAt_heap wr w.heap.size s pos (pos + 1) hit
        have hbw2 := below_iterAt hbw (k := w.heap.size) (Nat.le_refl _) s (pos + 1)
        have hpf2 := hpf.next hp hok
        unfold okB okC at hok
        obtain ⟨W1, hW1⟩ : ∃ W1, W1 = wr.iterAt w.heap.size s (pos + 1) := ⟨_, rfl⟩
        rw [← hW1] at hnx hit2 hbw2
        clear hW1 hit hbw hpf ha
        rcases Bool.or_eq_true _ _ ▸ hok with hq | hq
        · clear hok
          go_wp2_with (go_at_call 140; refine (plain_any _ _).mono ?_; rintro e w' ⟨rfl, rfl⟩)
          go_roundw
          case rel => exact ⟨pos + 1, hit2, hbw2, hpf2⟩
          case measure => rw [iterPos_of hit2, hpos0]; omega
        · have hq' : (((s[pos]'hp).toNat : Int) != 45) = false := by simp [bne, hq]
          clear hok
          cases hc : plainC ((s[pos]'hp).toNat : Int)
          all_goals
            go_wp2_with (go_at_call 140; refine (plain_any _ _).mono ?_; rintro e w' ⟨rfl, rfl⟩)
            go_roundw
            case rel => exact ⟨pos + 1, hit2, hbw2, hpf2⟩
            case measure => rw [iterPos_of hit2, hpos0]; omega
      · have hall := Lib.hid (all_false hp (by simpa using hok))
        have hnx : ∀ ty, (Instr.next (.pointer (some ⟨w.heap.size, 0, none⟩)) true ty).run Tryz.prog wr = _ := fun ty => Lib.run_next_any_at wr w.heap.size s pos ty hit hp
        have hc : okC ((Utf8.decode s pos).1 : Int) = false := by
          by_cases ha : (s[pos]'hp).toNat < 128
          · rw [decode_ascii s pos hp ha]; simpa [okB] using hok
          · exact plainC_high _ (by have := (decode_high s pos hp (by omega)).1; omega)
        have hbw2 := below_iterAt hbw (k := w.heap.size) (Nat.le_refl _) s (pos + (Utf8.decode s pos).2)
        obtain ⟨W1, hW1⟩ : ∃ W1, W1 = wr.iterAt w.heap.size s (pos + (Utf8.decode s pos).2) := ⟨_, rfl⟩
        rw [← hW1] at hnx hbw2
        clear hW1 hit hbw hpf hok
        generalize (Utf8.decode s pos).1 = c at hnx hc
        unfold okC at hc
        have hc1 : plainC (c : Int) = false := (Bool.or_eq_false_iff.1 hc).1
        have hc2 : ((c : Int) != 45) = true := by have := (Bool.or_eq_false_iff.1 hc).2; simp [bne, this]
        clear hc
        go_wp2_with (go_at_call 140; refine (plain_any _ _).mono ?_; rintro e w' ⟨rfl, rfl⟩)
        go_ret
        exact ⟨by rw [hall.out]; rfl, hbw2⟩
    · have hnx : ∀ ty, (Instr.next (.pointer (some ⟨w.heap.size, 0, none⟩)) true ty).run Tryz.prog wr = _ := fun ty => Lib.run_next_end_at wr w.heap.size s pos ty hit hp
      have hall := Lib.hid (all_of_pref hpf (by omega))
      clear hpf
      go_wp2
      go_ret
      exact ⟨by rw [hall.out]; rfl, hbw⟩

set_option maxRecDepth 100000 in
theorem name_any (s : ByteArray) (w : World) : Calls Tryz.prog 110 #[.string s] w fun e w' => e = .returned (.bool (nameB s)) ∧ Below w.heap.size w w' := by
  by_cases h1 : 1 ≤ s.size
  · by_cases h2 : s.size ≤ 32
    · have g1 := getElem_head s (by omega)
      have g2 := getElem_last s (by omega)
      by_cases h3 : ((s[0]'(by omega)).toNat : Int) = 45
      · have hb := Lib.hid (show nameB s = false by
          have : (s[0]'(by omega)) = 45 := UInt8.toNat_inj.1 (by simp; omega)
          unfold nameB nameL; rw [g1, this]; simp)
        have e1 : decide ((s.size : Int) < 1) = false := by simp; omega
        have e2 : decide ((s.size : Int) > 32) = false := by simp; omega
        have e3 : (((s[0]'(by omega)).toNat : Int) == 45) = true := by simpa using h3
        clear h3 g1 g2
        go_enter Tryz.func110, Tryz.ntmps110
        go_wp2
        go_ret
        exact ⟨by rw [hb.out]; rfl, Below.refl _ _⟩
      · by_cases h4 : ((s[s.size - 1]'(by omega)).toNat : Int) = 45
        · have hb := Lib.hid (show nameB s = false by
            have : (s[s.size - 1]'(by omega)) = 45 := UInt8.toNat_inj.1 (by simp; omega)
            unfold nameB nameL; rw [g2, this]; simp)
          have e1 : decide ((s.size : Int) < 1) = false := by simp; omega
          have e2 : decide ((s.size : Int) > 32) = false := by simp; omega
          have e3 : (((s[0]'(by omega)).toNat : Int) == 45) = false := by simpa using h3
          have e4 : (((s[s.size - 1]'(by omega)).toNat : Int) == 45) = true := by simpa using h4
          clear h3 h4 g1 g2
          go_enter Tryz.func110, Tryz.ntmps110
          go_wp2
          go_ret
          exact ⟨by rw [hb.out]; rfl, Below.refl _ _⟩
        · have hb : nameB s = s.data.toList.all okB := by
            have n3 : (s[0]'(by omega)) ≠ 45 := fun e => h3 (by rw [e]; rfl)
            have n4 : (s[s.size - 1]'(by omega)) ≠ 45 := fun e => h4 (by rw [e]; rfl)
            unfold nameB nameL; rw [g1, g2, data_len]; simp [n3, n4, h1, h2]
          rw [hb]
          exact name_loop s w h1 h2 h3 h4
    · have hb := Lib.hid (show nameB s = false by unfold nameB nameL; rw [data_len]; simp [h2])
      have e1 : decide ((s.size : Int) < 1) = false := by simp; omega
      have e2 : decide ((s.size : Int) > 32) = true := by simp; omega
      go_enter Tryz.func110, Tryz.ntmps110
      go_wp2
      go_ret
      exact ⟨by rw [hb.out]; rfl, Below.refl _ _⟩
  · have hb := Lib.hid (show nameB s = false by unfold nameB nameL; rw [data_len]; simp [h1])
    have e1 : decide ((s.size : Int) < 1) = true := by simp; omega
    go_enter Tryz.func110, Tryz.ntmps110
    go_wp2
    go_ret
    exact ⟨by rw [hb.out]; rfl, Below.refl _ _⟩

def SplitPost (s : ByteArray) (w : World) (e : Ending) (w' : World) : Prop :=
  ∃ v, e = .returned (.tuple #[v, .int .i64 (errPath s)]) ∧ Sl Kn.str (fun k => w.heap.size ≤ k) w' v (pathNames s) ∧ Below w.heap.size w w'

theorem split_no (s : ByteArray) (w w' : World) (h : pathL s.data.toList = none) (hb : Below w.heap.size w w') : SplitPost s w (.returned (.tuple #[.slice none 0 0, .int .i64 41])) w' :=
  ⟨_, by rw [show errPath s = 41 by simp [errPath, isPath, h]], by unfold pathNames; rw [h]; exact Sl.nil _ _ _, hb⟩

theorem split_yes (s : ByteArray) (w w' : World) (v : Value) (l : List (List UInt8)) (h : pathL s.data.toList = some l) (hs : Sl Kn.str (fun k => w.heap.size ≤ k) w' v (l.map mkB)) (hb : Below w.heap.size w w') : SplitPost s w (.returned (.tuple #[v, .int .i64 0])) w' :=
  ⟨_, by rw [show errPath s = 0 by simp [errPath, isPath, h]], by unfold pathNames; rw [h]; exact hs, hb⟩

set_option maxRecDepth 100000 in
theorem split_root (s : ByteArray) (w : World) (h : s.data.toList = [47]) : Calls Tryz.prog 71 #[.string s] w (SplitPost s w) := by
  have e1 : (s.toList == [47]) = true := by rw [toList_eq, h]; rfl
  have hfin := Lib.hid (split_yes s w w (.slice none 0 0) [] (by unfold pathL; rw [if_pos h]) (Sl.nil _ _ _) (Below.refl _ _))
  clear h
  go_enter Tryz.func71, Tryz.ntmps71
  go_wp2
  go_ret2
  exact hfin.out

set_option maxRecDepth 100000 in
theorem split_noslash (s : ByteArray) (w : World) (h0 : s.data.toList ≠ [47]) (h : Lib.hasPrefix s.data.toList [47] = false) : Calls Tryz.prog 71 #[.string s] w (SplitPost s w) := by
  have e1 : (s.toList == [47]) = false := by rw [toList_eq]; simpa using h0
  have hp : pathL s.data.toList = none := by
    unfold pathL; rw [if_neg h0, if_neg]
    rintro ⟨hh, _⟩
    match hl : s.data.toList with
    | [] => rw [hl] at hh; cases hh
    | b :: l => rw [hl] at hh h; injection hh with hh; subst hh; simp [Lib.hasPrefix, List.isPrefixOf] at h
  have hfin := Lib.hid (split_no s w w hp (Below.refl _ _))
  clear h0 hp
  go_enter Tryz.func71, Tryz.ntmps71
  go_wp2_with (go_at_call 108; refine (Tryz.strings_CutPrefix _ _ _).mono ?_; rintro e w' ⟨rfl, rfl⟩)
  go_ret2
  exact hfin.out

theorem strSplit_any (r : ByteArray) (w : World) (hm : Ml w) (hs : r.size < 4294967281) :
    Calls Tryz.prog 109 #[.string r, .string ⟨#[47]⟩] w fun e w' => e = .returned (.slice (some ⟨w.heap.size, 0, none⟩) (splitC 47 r.data.toList).length (splitC 47 r.data.toList).length) ∧
      Row Kn.str (fun k => w.heap.size ≤ k) w' (some ⟨w.heap.size, 0, none⟩) ((splitC 47 r.data.toList).map mkB) ∧ Below w.heap.size w w' := by
  obtain ⟨m, hm⟩ := hm
  refine (Tryz.strings_Split r ⟨#[47]⟩ m w hs hm (by decide)).mono ?_
  rintro e w' ⟨rfl, rfl⟩
  refine ⟨?_, fun _ => ⟨_, rfl, Nat.le_refl _, _, flat_str _ _ _, fun j u hu => ?_⟩, (Below.refl _ _).alloc (Nat.le_refl _) _⟩
  · rw [splitC_length, show Lib.countB r ⟨#[47]⟩ = r.data.toList.count 47 from count_one 47 r.data.toList]
  · rw [add_new, cell_of_row _ _ _ _ _ _ (heap_alloc_new w _), splitB_slash]; simpa using hu

set_option maxRecDepth 100000 in
theorem split_long (s : ByteArray) (w : World) (h0 : s.data.toList ≠ [47]) (h : Lib.hasPrefix s.data.toList [47] = true) (hl : 64 < s.size) : Calls Tryz.prog 71 #[.string s] w (SplitPost s w) := by
  have e1 : (s.toList == [47]) = false := by rw [toList_eq]; simpa using h0
  have hp : pathL s.data.toList = none := by
    unfold pathL; rw [if_neg h0, if_neg]
    rintro ⟨_, hh, _⟩
    rw [data_len] at hh; omega
  have hfin := Lib.hid (split_no s w w hp (Below.refl _ _))
  have e2 : decide ((s.size : Int) > 64) = true := by simp; omega
  clear h0 hp
  go_enter Tryz.func71, Tryz.ntmps71
  go_wp2_with (go_at_call 108; refine (Tryz.strings_CutPrefix _ _ _).mono ?_; rintro e w' ⟨rfl, rfl⟩)
  go_ret2
  exact hfin.out

set_option maxRecDepth 100000 in
theorem split_main (s : ByteArray) (w : World) (hm : Ml w) (h0 : s.data.toList ≠ [47]) (h : Lib.hasPrefix s.data.toList [47] = true) (hl : s.size ≤ 64) : Calls Tryz.prog 71 #[.string s] w (SplitPost s w) := by
  have e1 : (s.toList == [47]) = false := by rw [toList_eq]; simpa using h0
  have e2 : decide ((s.size : Int) > 64) = false := by simp; omega
  obtain ⟨hhead, htrim⟩ := prefix_slash h
  obtain ⟨r, hr⟩ : ∃ r, (⟨(Lib.trimPrefix s.data.toList [47]).toArray⟩ : ByteArray) = r := ⟨_, rfl⟩
  have hrl : r.data.toList = s.data.toList.tail := by rw [← hr, htrim]
  have hrs : r.size ≤ 64 := by rw [← data_len r, hrl, List.length_tail, data_len]; omega
  have hpl : ∀ (A B : Prop) [Decidable A] [Decidable B], A = ((splitC 47 r.data.toList).length ≤ 8) → B = ((splitC 47 r.data.toList).all nameL = true) → pathL s.data.toList = if A then (if B then some (splitC 47 r.data.toList) else none) else none := by
    rintro A B _ _ rfl rfl
    unfold pathL
    rw [if_neg h0, ← hrl]
    by_cases c1 : (splitC 47 r.data.toList).length ≤ 8 <;> by_cases c2 : (splitC 47 r.data.toList).all nameL = true
    · rw [if_pos ⟨hhead, by rw [data_len]; exact hl, c1, c2⟩, if_pos c1, if_pos c2]
    · rw [if_neg (fun hh => c2 hh.2.2.2), if_pos c1, if_neg c2]
    · rw [if_neg (fun hh => c1 hh.2.2.1), if_neg c1]
    · rw [if_neg (fun hh => c1 hh.2.2.1), if_neg c1]
  have HPL := Lib.hid hpl
  have HR := Lib.hid hr
  clear hpl hr hhead htrim hrl
  by_cases hn : (splitC 47 r.data.toList).length ≤ 8
  · have e3 : decide (((splitC 47 r.data.toList).length : Int) > 8) = false := by simp; omega
    have hyes := Lib.hid (fun w' v (c2 : (splitC 47 r.data.toList).all nameL = true) hs hb => split_yes s w w' v (splitC 47 r.data.toList) (by rw [HPL.out _ _ rfl rfl, if_pos hn, if_pos c2]) hs hb)
    have hno := Lib.hid (fun w' (c2 : ¬ (splitC 47 r.data.toList).all nameL = true) hb => split_no s w w' (by rw [HPL.out _ _ rfl rfl, if_pos hn, if_neg c2]) hb)
    clear h0 HPL
    have hC := Lib.hid (fun w hm => strSplit_any r w hm (by omega))
    have hss : ((splitC 47 r.data.toList).map mkB).length = (splitC 47 r.data.toList).length := by simp
    generalize splitC 47 r.data.toList = ps at *
    have HSS := Lib.hid hss
    clear hss
    go_enter Tryz.func71, Tryz.ntmps71
    go_wp2_with (first
      | (go_at_call 108; refine (Tryz.strings_CutPrefix _ _ _).mono ?_; rintro e w' ⟨rfl, rfl⟩; rw [HR.out])
      | (go_at_call 109; refine (hC.out _ hm).mono ?_; rintro e w1 ⟨rfl, hrow, hb⟩; have HB := Lib.hid hb; clear hb))
    clear hC
    go_loopw [30] (fun i wr => ∃ k : Nat, i = .int .i64 k ∧ k ≤ ps.length ∧ Below w1.heap.size w1 wr ∧ (ps.take k).all nameL = true) (fun i _ => ps.length - (intOf i).toNat)
    case atStart => exact ⟨0, rfl, Nat.zero_le _, Below.refl _ _, rfl⟩
    case round =>
      obtain ⟨k, rfl, hk, hbr, hall⟩ := hrel
      by_cases hlt : k < ps.length
      · obtain ⟨a, ha, hcell⟩ := row_str_at (hrow.below hbr.toB) k (by rw [HSS.out]; exact hlt)
        have hel : ((ps.map mkB)[k]'(by rw [HSS.out]; exact hlt)) = mkB ps[k] := by simp
        rw [hel] at hcell
        obtain rfl : (⟨w'.heap.size, 0, none⟩ : Addr) = a := by injection ha
        clear ha hel
        rw [add_new] at hcell
        have hnm : nameB (mkB ps[k]) = nameL ps[k] := by unfold nameB; rw [mkB_data]
        have hstep : (ps.take (k + 1)).all nameL = ((ps.take k).all nameL && nameL ps[k]) := by
          rw [List.take_succ_eq_append_getElem hlt, List.all_append]; simp
        cases hv : nameL ps[k]
        · have hfalse : ¬ ps.all nameL = true := by
            rw [List.all_eq_true]; intro h; have := h ps[k] (List.getElem_mem _); rw [hv] at this; cases this
          have HN := Lib.hid (hnm.trans hv)
          clear hnm hstep hv
          have HALL := Lib.hid hall
          clear hall
          go_wp2_with (go_at_call 110; refine (name_any _ _).mono ?_; rintro e w2 ⟨rfl, hb2⟩; rw [HN.out]; have HB2 := Lib.hid hb2; clear hb2)
          go_ret2
          exact hno.out _ hfalse ((HB.out.trans (hbr.mono HB.out.size)).trans (HB2.out.mono (Nat.le_trans HB.out.size hbr.size)))
        · have HN := Lib.hid (hnm.trans hv)
          have HST := Lib.hid (hstep.trans (by rw [hall, hv]))
          clear hnm hstep hv hall
          go_wp2_with (go_at_call 110; refine (name_any _ _).mono ?_; rintro e w2 ⟨rfl, hb2⟩; rw [HN.out]; have HB2 := Lib.hid hb2; clear hb2)
          go_roundw
          case rel => exact ⟨k + 1, by go_num, hlt, hbr.trans (HB2.out.mono hbr.size), HST.out⟩
          case measure => simp [intOf]; omega
      · have hall' : ps.all nameL = true := by rw [List.take_of_length_le (by omega)] at hall; exact hall
        clear hall
        go_wp2
        go_ret2
        exact hyes.out _ _ hall' ⟨_, _, by rw [HSS.out]; rfl, Nat.le_of_eq HSS.out, by unfold maxLen; omega, hrow.below hbr.toB⟩ (HB.out.trans (hbr.mono HB.out.size))
  · have hp : pathL s.data.toList = none := by rw [HPL.out _ _ rfl rfl, if_neg hn]
    have hfin := Lib.hid (fun w' hb => split_no s w w' hp hb)
    have e3 : decide (((splitC 47 r.data.toList).length : Int) > 8) = true := by simp; omega
    clear h0 hp
    go_enter Tryz.func71, Tryz.ntmps71
    go_wp2_with (first
      | (go_at_call 108; refine (Tryz.strings_CutPrefix _ _ _).mono ?_; rintro e w' ⟨rfl, rfl⟩; rw [HR.out])
      | (go_at_call 109; refine (strSplit_any _ _ hm (by omega)).mono ?_; rintro e w1 ⟨rfl, hrow, hb⟩; have HB := Lib.hid hb; clear hb hrow))
    go_ret2
    exact hfin.out _ HB.out

theorem split_any (s : ByteArray) (w : World) (hm : Ml w) : Calls Tryz.prog 71 #[.string s] w (SplitPost s w) := by
  by_cases h0 : s.data.toList = [47]
  · exact split_root s w h0
  · cases h : Lib.hasPrefix s.data.toList [47]
    · exact split_noslash s w h0 h
    · by_cases hl : s.size ≤ 64
      · exact split_main s w hm h0 h hl
      · exact split_long s w h0 h (by omega)
end D
end Go.Proofs.YtalkdddeiebfmaaGreatDoor
