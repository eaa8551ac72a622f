/- The document's hub: Push. -/
import Derived.Test.YtdchffghgajbfaaDoorN8
import Derived.Test.YtdchffghgajbfaaDoorH4
import Derived.ArgAppend
namespace Go.Proofs.YtdchffghgajbfaaDoor
open Go.RowKit

section
variable {P : Program} {α : Type} {d : Kn α} {t e : TypeId} {bytes : Nat}
/-- 's[:len(s):len(s)]' -/
theorem run_cut_full (I : Elem P t e d bytes) (A : Option Addr) (len cap : Nat) (h : len ≤ cap) (w : World) :
    (Instr.slice t (.slice A len cap) none (some (.int .i64 len)) (some (.int .i64 len))).run P w = .ok (.slice A len len) w := by
  obtain ⟨i, z, h1, h2, h3, h4, h5⟩ := I.info
  simp [Instr.slice, run_underlying I.und, Instr.sliceBounds, run_sliceBound (P := P) w .i64 (len : Int) cap .slice3Acap (by omega) (by omega), run_sliceBound (P := P) w .i64 (len : Int) len .slice3B (by omega) (by omega), sizeOf, typeInfo, h1, ← h3]
  cases A <;> simp [Addr.add]
/-- an append to a row that has no room: all of it is new -/
theorem run_app_grow (I : Elem P t e d bytes) (hd : d.Plain) (ty : TypeId) {w : World} {R S : Nat → Prop} {A B : Option Addr} {xs ys : List α} {c : Nat} (hx : Row d R w A xs) (hy : Row d S w B ys) (hne : ys ≠ []) (hA : A = none → xs = [])
    (hb : (xs.length + ys.length) * bytes ≤ 140737488355328) :
    ∃ v' w', (Builtin.append_ #[t, t] ty #[.slice A xs.length xs.length, .slice B ys.length c]).run P w = .ok v' w' ∧ Own d e w.heap.size (fun _ => True) w' v' (xs ++ ys) ∧ w.grownBy w' none := by
  obtain ⟨i, z, h1, h2, h3, h4, h5⟩ := I.info
  obtain ⟨b, rfl, _, news, hfn, hcn⟩ := hy hne
  have hpos := List.length_pos_iff.2 hne
  have hml := len_ok I.pos hb
  cases A with
  | none =>
    obtain rfl := hA rfl
    obtain ⟨v', w', hr, r1, r2, _⟩ := run_append_own (P := P) w w.heap.size t ty e i z d.sz bytes I.und h1 h2 h3 h4 h5 d.pos (.slice none 0 0) 0 [] (World.ownsRow_nil w _ e d.sz) b ys.length c news hfn.1 hcn hfn.one (by simpa using hml) (by simpa using hb) (Nat.le_refl _)
    exact ⟨v', w', hr, ⟨news, by simpa using r1, by simpa using (hfn.plain hd)⟩, r2⟩
  | some a =>
    obtain ⟨olds, hfo, hco⟩ : ∃ olds, Flat d R w xs olds ∧ ∀ j u, olds[j]? = some u → w.cell? (a.add j) = some u := by
      by_cases h0 : xs = []
      · subst h0; exact ⟨[], Flat.nil _ _ _, by simp⟩
      · obtain ⟨a', ha, _, olds, hf, hc⟩ := hx h0
        cases ha
        exact ⟨olds, hf, hc⟩
    obtain ⟨v', w', hr, r1, r2⟩ := run_append_arg_grows (P := P) w t ty e i z d.sz bytes I.und h1 h2 h3 h4 h5 d.pos a xs.length xs.length olds hfo.1 hco b ys.length c news hfn.1 hcn (by omega) hml hb
    exact ⟨v', w', hr, ⟨olds ++ news, by rw [List.length_append]; exact r1, Flat.append (hfo.plain hd) (hfn.plain hd)⟩, r2⟩
theorem step_app_grow {w : World} {ops : Array Oper} {o : Oper} {a : Act} {K : Act → World → Prop} {Q : Exit → Act → World → Prop} {E : Prop} (I : Elem P t e d bytes) (hd : d.Plain) (hgd : o.guard = none) (s x : Operand)
    (ho : o.op = .call { callee := .builtin .append, args := #[s, x], argTypes := #[t, t] }) {R S : Nat → Prop} {A B : Option Addr} {xs ys : List α} {n m c : Nat} (hs : a.eval s = .slice A n n) (hn : n = xs.length) (hx : Row d R w A xs) (hA : A = none → xs = [])
    (hy0 : a.eval x = .slice B m c) (hm : m = ys.length) (hy : Row d S w B ys) (hne : ys ≠ []) (hb : (xs.length + ys.length) * bytes ≤ 140737488355328)
    (h : ∀ A' c' w', Own d e w.heap.size (fun _ => True) w' (.slice A' (xs.length + ys.length) c') (xs ++ ys) → w.grownBy w' none → K (a.put o.dst (.slice A' (xs.length + ys.length) c')) w') : if Region.wanted o (yielded ops a.tmps) = true then Oper.wp P o a w K Q else E := by
  subst hm
  subst hn
  obtain ⟨v', w', hrun, ha, hg⟩ := run_app_grow I hd o.type hx hy hne hA hb
  have hw : Region.wanted o (yielded ops a.tmps) = true := by simp [Region.wanted, hgd]
  rw [if_pos hw]
  obtain ⟨A', c', hv', _⟩ := ha.row
  rw [List.length_append] at hv'
  subst hv'
  exact wp_of_run s x ho hs hy0 hrun (h A' c' w' ha hg)
end

/-- the hub while Push works at it: its row is new -/
structure RT (g : Nat) (w wx : World) (fr hi : Int) (L : List Ev) (A : Option Addr) (c : Nat) : Prop where
  blk : wx.heap[g]? = some (.cells #[.int .i64 fr, .int .i64 hi, .slice A L.length c] 97 (0, 0))
  row : Row kEvent (fun b => w.heap.size ≤ b) wx A L
  le : L.length ≤ c
  mx : c ≤ maxLen
  turn : Turn (fun b => b = g) w wx
  lt : g < w.heap.size
section
variable {g c : Nat} {w wx wy : World} {fr hi : Int} {L L' : List Ev} {A : Option Addr}
theorem RT.set0 (k : RT g w wx fr hi L A c) (n : Int) : RT g w (wx.setCell ⟨g, 0, none⟩ (.int .i64 n)) n hi L A c :=
  ⟨by simp [World.setCell, Array.getElem?_modify, k.blk], k.row.keep fun b hb _ => Below.heap_setCell _ _ _ _ (by have := k.lt; show b ≠ g; omega), k.le, k.mx, k.turn.setCell (.inl rfl) _, k.lt⟩
theorem RT.set1 (k : RT g w wx fr hi L A c) (n : Int) : RT g w (wx.setCell ⟨g, 1, none⟩ (.int .i64 n)) fr n L A c :=
  ⟨by simp [World.setCell, Array.getElem?_modify, k.blk], k.row.keep fun b hb _ => Below.heap_setCell _ _ _ _ (by have := k.lt; show b ≠ g; omega), k.le, k.mx, k.turn.setCell (.inl rfl) _, k.lt⟩
theorem RT.set2 (k : RT g w wx fr hi L A c) {B : Option Addr} {c' : Nat} (hr : Row kEvent (fun b => w.heap.size ≤ b) wx B L') (h1 : L'.length ≤ c') (h2 : c' ≤ maxLen) : RT g w (wx.setCell ⟨g, 2, none⟩ (.slice B L'.length c')) fr hi L' B c' :=
  ⟨by simp [World.setCell, Array.getElem?_modify, k.blk], hr.keep fun b hb _ => Below.heap_setCell _ _ _ _ (by have := k.lt; show b ≠ g; omega), h1, h2, k.turn.setCell (.inl rfl) _, k.lt⟩
theorem RT.below (k : RT g w wx fr hi L A c) (hb : Below wx.heap.size wx wy) : RT g w wy fr hi L A c :=
  ⟨(hb.block g (Array.getElem?_eq_some_iff.1 k.blk).1).trans k.blk, k.row.below hb, k.le, k.mx, k.turn.then_below hb, k.lt⟩
theorem RT.at_ (k : RT g w wx fr hi L A c) : RhAt wx g fr hi (.slice A L.length c) := rhAt k.blk
end
theorem own_rowFrom {base : Nat} {w : World} {A : Option Addr} {n c : Nat} {xs : List Ev} (h : Own kEvent 41 base (fun _ => True) w (.slice A n c) xs) : n = xs.length ∧ Row kEvent (fun b => base ≤ b) w A xs ∧ xs.length ≤ c ∧ c ≤ maxLen := by
  obtain ⟨A', c', hv, h1, h2, hr⟩ := (h.plain (Q := fun k => base ≤ k) kEvent_plain).slFrom
  cases hv
  exact ⟨rfl, hr, h1, h2⟩

/-- the hub behind the append -/
def RMid (g : Nat) (fr hi : Int) (L : List Ev) (w wx : World) : Prop := ∃ A c, RT g w wx fr hi L A c
theorem rmid {F : Nat → Prop} {g c c5 : Nat} {fr hi : Int} {L l : List Ev} {A A5 : Option Addr} {w wr w5 : World} (k : IsRH F w g fr hi L A c) (hbr : Below w.heap.size w wr) (ho : Own kEvent 41 wr.heap.size (fun _ => True) w5 (.slice A5 (L.length + l.length) c5) (L ++ l)) (hg : wr.grownBy w5 none) :
    RMid g fr hi (L ++ l) w (w5.setCell ⟨g, 2, none⟩ (.slice A5 (L.length + l.length) c5)) := by
  obtain ⟨hn, hr, h1, h2⟩ := own_rowFrom ho
  have hlt := k.lt
  have hsz := hbr.size
  have hsz5 := hg.size
  have hblk : w5.heap[g]? = some (.cells #[.int .i64 fr, .int .i64 hi, .slice A L.length c] 97 (0, 0)) := (hg.block g (by omega) (by simp)).trans ((hbr.block g hlt).trans k.blk)
  refine ⟨A5, c5, ?_, ?_, h1, h2, ?_, hlt⟩
  · rw [← hn]; simp [World.setCell, Array.getElem?_modify, hblk]
  · exact (hr.mono (fun b hb => Nat.le_trans hsz hb)).keep fun b hb _ => Below.heap_setCell _ _ _ _ (by show b ≠ g; omega)
  · have ht : Turn (fun b => b = g) w w5 := (Turn.of_below hbr).grown hg (by simp)
    exact ht.setCell (.inl rfl) _
theorem rright_val (x : Ev) (b : Bool) (hx : Hid (rightE x = b)) (w : World) (hs : x.path.size ≤ 1073741824) :
    Calls Tryd.prog 82 #[.agg #[.int .i64 x.ver, .int .i64 x.kind, .bool x.gone, .string x.path, .string x.name]] w fun e w' => e = .returned (.bool b) ∧ Below w.heap.size w w' := by
  have h : rightE x = b := hx
  rw [← h]; exact rright_any x w hs

/-- every push comes to one of three -/
theorem push_total {first : Int} {ps : List (List Ev)} {d : Nat} (hh : HistOk first ps d) (l : List Ev) :
    (pushOk (first + ps.length) l = false ∧ hubPush (hubOf first ps d) l = (hubOf first ps d, 1)) ∨ (pushOk (first + ps.length) l = true ∧ 128 < l.length ∧ hubPush (hubOf first ps d) l = (hubOf first ps d, 23)) ∨
      (pushOk (first + ps.length) l = true ∧ l.length ≤ 128 ∧ ∃ d', HistOk first (ps ++ [l]) d' ∧ hubPush (hubOf first ps d) l = (hubOf first (ps ++ [l]) d', 0)) := by
  cases hp : pushOk (first + ps.length) l
  · refine .inl ⟨rfl, ?_⟩
    unfold hubPush
    rw [if_pos (by simpa [hubOf] using hp)]
  · by_cases h2 : l.length > 128
    · refine .inr (.inl ⟨rfl, h2, ?_⟩)
      unfold hubPush
      rw [if_neg (by simpa [hubOf] using hp), if_pos h2]
    · exact .inr (.inr ⟨rfl, by omega, hubPush_hist hh hp (by omega)⟩)
def RPushPost (F : Nat → Prop) (g : Nat) (first : Int) (ps : List (List Ev)) (d : Nat) (l : List Ev) (w : World) (e : Ending) (w' : World) : Prop :=
  ∃ ps' d' n, hubPush (hubOf first ps d) l = (hubOf first ps' d', n) ∧ e = .returned (.int .i64 n) ∧ RHist (fun b => (F b ∧ b < w.heap.size) ∨ w.heap.size ≤ b) w' g first ps' d' ∧ Turn (fun b => b = g) w w'
theorem RPushPost.refused {F : Nat → Prop} {g : Nat} {first : Int} {ps : List (List Ev)} {d : Nat} {l : List Ev} {n : Int} {w w' : World} (k : RHist F w g first ps d) (hr : hubPush (hubOf first ps d) l = (hubOf first ps d, n)) (hb : Below w.heap.size w w') : RPushPost F g first ps d l w (.returned (.int .i64 n)) w' :=
  ⟨ps, d, n, hr, rfl, (k.bound.below hb).mono fun b hb => .inl hb, Turn.of_below hb⟩

set_option maxRecDepth 100000 in
theorem rpush_args {F : Nat → Prop} {g c : Nat} {fr hi : Int} {L l : List Ev} {A A2 : Option Addr} {c2 : Nat} (w : World) (k : IsRH F w g fr hi L A c) (hh : hi ≥ 1152921504606846976 ∨ l = []) :
    Calls Tryd.prog 56 #[.pointer (some ⟨g, 0, none⟩), .slice A2 l.length c2] w fun e w' => e = .returned (.int .i64 1) ∧ Below w.heap.size w w' := by
  obtain ⟨c0, c1, c2, _⟩ := rhAt k.blk
  clear k
  by_cases h1 : hi ≥ 1152921504606846976
  · have e1 : decide (hi ≥ 1152921504606846976) = true := by simpa using h1
    clear hh
    go_enter Tryd.func56, Tryd.ntmps56
    go_wp2
    go_ret
    exact ⟨rfl, Below.refl _ _⟩
  · have e1 : decide (hi ≥ 1152921504606846976) = false := by simpa using h1
    have h2 : l = [] := hh.resolve_left h1
    have e2 : ((l.length : Int) == 0) = true := by rw [h2]; rfl
    clear h1 hh h2
    go_enter Tryd.func56, Tryd.ntmps56
    go_wp2
    go_ret
    exact ⟨rfl, Below.refl _ _⟩

/-- what the second loop holds: the hub of some of the pushes -/
def RTrim (g : Nat) (w wx : World) (first : Int) (ps : List (List Ev)) (n : Nat) : Prop :=
  ∃ (d2 : Nat) (fr2 : Int) (L2 : List Ev) (A2 : Option Addr) (c2 : Nat), RT g w wx fr2 (first + ps.length) L2 A2 c2 ∧ n + d2 = ps.length ∧ fr2 = first + d2 ∧ L2 = (ps.drop d2).flatten ∧ (∀ i, i < d2 → 128 < sumL (ps.drop i)) ∧ L2.length ≤ 256
theorem rtrim_start {g c d : Nat} {w wx : World} {fr hi first : Int} {L : List Ev} {A : Option Addr} {ps : List (List Ev)} (k : RT g w wx fr hi L A c) (h1 : hi + 1 = first + ps.length) (h2 : fr = first + d) (h3 : L = (ps.drop d).flatten) (h4 : ∀ i, i < d → 128 < sumL (ps.drop i)) (h5 : L.length ≤ 256) (h6 : d ≤ ps.length) :
    RTrim g w (wx.setCell ⟨g, 1, none⟩ (.int .i64 (hi + 1))) first ps (ps.length - d) :=
  ⟨d, fr, L, A, c, h1 ▸ k.set1 (hi + 1), by omega, h2, h3, h4, h5⟩
theorem trim_step {first : Int} {ps : List (List Ev)} {d2 : Nat} (hv : ∀ i (h : i < ps.length), ∀ e ∈ ps[i], e.ver = first + 1 + i) : (ps.drop d2).flatten.filter (fun e => decide (e.ver > first + d2 + 1)) = (ps.drop (d2 + 1)).flatten := drop_one hv

def okPush (hi : Int) (l : List Ev) : Bool := l.all (fun e => rightE e && decide (e.ver = hi + 1))
def RPushRaw (l : List Ev) (hi : Int) (w : World) (g : Nat) (first : Int) (ps1 : List (List Ev)) (e : Ending) (w' : World) : Prop :=
  (okPush hi l = false ∧ e = .returned (.int .i64 1) ∧ Below w.heap.size w w') ∨ (okPush hi l = true ∧ 128 < l.length ∧ e = .returned (.int .i64 23) ∧ Below w.heap.size w w') ∨
    (okPush hi l = true ∧ l.length ≤ 128 ∧ e = .returned (.int .i64 0) ∧ ∃ n, RTrim g w w' first ps1 n ∧ sumL (ps1.drop (ps1.length - n)) ≤ 128)
theorem BW.evs {W : World} {a : Addr} {y : Ev} (h : EvAt W a y) : ∀ x : BW W, EvAt x.w a y := fun x => h.below x.h

set_option maxRecDepth 100000 in
set_option maxHeartbeats 2000000 in
theorem rpush_main {F : Nat → Prop} {g c : Nat} {fr hi : Int} {L : List Ev} {A : Option Addr} (A9 : Option Addr) (c9 : Nat) (P : Nat → Prop) (l : List Ev) (w : World) (kh : IsRH F w g fr hi L A c) (hr : Row kEvent P w A9 l) (hl : l.length ≤ 1099511627776) (hs : ∀ e ∈ l, e.path.size ≤ 1073741824)
    (h60 : hi < 1152921504606846976) (hhi0 : 0 ≤ hi) (hne : l ≠ []) (hL : L.length ≤ 128) (first : Int) (ps1 : List (List Ev)) (d : Nat) (hfr : fr = first + d) (hdl : d ≤ ps1.length) (hf0 : 0 ≤ first) (hto : hi + 1 = first + ps1.length) (hfl : L ++ l = (ps1.drop d).flatten) (hti : ∀ i, i < d → 128 < sumL (ps1.drop i))
    (hver : okPush hi l = true → ∀ i (h : i < ps1.length), ∀ e ∈ ps1[i], e.ver = first + 1 + i) :
    Calls Tryd.prog 56 #[.pointer (some ⟨g, 0, none⟩), .slice A9 l.length c9] w (RPushRaw l hi w g first ps1) := by
  obtain ⟨c0, c1, c2, _⟩ := rhAt kh.blk
  have hglt := kh.lt
  have e1 : decide (hi ≥ 1152921504606846976) = false := by simp; omega
  have e2 : ((l.length : Int) == 0) = false := by have := List.length_pos_iff.2 hne; simp; omega
  have hwh : IntKind.i64.wrap (hi + 1) = hi + 1 := by rw [IntKind.wrap_i64]; omega
  have KH := Lib.hid kh
  have HFR := Lib.hid hfr
  have HTO := Lib.hid hto
  have HFL := Lib.hid hfl
  have HTI := Lib.hid hti
  have HVER := Lib.hid hver
  have HS := Lib.hid hs
  clear kh hfr hto hfl hti hver hs
  go_enter Tryd.func56, Tryd.ntmps56
  go_wp2
  go_loopw [5] (fun i wr => ∃ k : Nat, i = .int .i64 k ∧ k ≤ l.length ∧ Below w.heap.size w wr ∧ Hid ((l.take k).all (fun e => rightE e && decide (e.ver = hi + 1)) = true)) (fun i _ => l.length - (intOf i).toNat)
  case atStart => exact ⟨0, rfl, Nat.zero_le _, Below.refl _ _, rfl⟩
  case round =>
    obtain ⟨k, rfl, hk, hbr, HALL⟩ := hrel
    have hsz := hbr.size
    by_cases hlt : k < l.length
    · obtain ⟨a, rfl, _, l0, l1, l2, l3, l4⟩ := ev_at (hr.below hbr) k hlt
      have hxs := HS.out l[k] (List.getElem_mem _)
      have bx := BW.evs (EvAt.mk l0 l1 l2 l3 l4)
      have bx0 := fun x => (bx x).c0
      have bx1 := fun x => (bx x).c1
      have bx2 := fun x => (bx x).c2
      have bx3 := fun x => (bx x).c3
      have bx4 := fun x => (bx x).c4
      have d1 : wr.cell? ⟨g, 1, none⟩ = some (.int .i64 hi) := (hbr.cell (p := ⟨g, 1, none⟩) hglt).trans c1
      have hg1 : g < wr.heap.size := by omega
      have dx := fun x : BW wr => (x.h.cell (p := ⟨g, 1, none⟩) hg1).trans d1
      clear bx
      cases hq : rightE l[k]
      · have HQ := Lib.hid hq
        have HBAD := Lib.hid (show okPush hi l = false from all_not hlt (p := fun e => rightE e && decide (e.ver = hi + 1)) (by simp [hq]))
        clear hq
        go_wp2_with fail
        refine wp_region_pure (by kernel_rfl) (by kernel_rfl) ?_
        repeat (first | go_big_quiet_step ((go_at_call 82; exact Calls.pure_of (rright_val l[k] false HQ _ hxs))) | quiet_step ((go_at_call 82; exact Calls.pure_of (rright_val l[k] false HQ _ hxs))))
        refine wpQuiet_nil ?_
        rintro _ ⟨x, rfl⟩
        go_wp2
        go_ret
        exact .inl ⟨HBAD.out, rfl, hbr.trans (x.h.mono hsz)⟩
      · have HQ := Lib.hid hq
        by_cases hv : l[k].ver = hi + 1
        · have hv' : (l[k].ver != hi + 1) = false := by simp [hv]
          have HA2 := Lib.hid (all_take (p := fun e => rightE e && decide (e.ver = hi + 1)) hlt HALL.out (by simp [hq, hv]))
          clear hq hv
          go_wp2_with fail
          refine wp_region_pure (by kernel_rfl) (by kernel_rfl) ?_
          repeat (first | go_big_quiet_step ((go_at_call 82; exact Calls.pure_of (rright_val l[k] true HQ _ hxs))) | quiet_step ((go_at_call 82; exact Calls.pure_of (rright_val l[k] true HQ _ hxs))))
          refine wpQuiet_nil ?_
          rintro _ ⟨x, rfl⟩
          go_wp2
          go_roundw
          case rel => exact ⟨k + 1, by go_num, hlt, hbr.trans (x.h.mono hsz), HA2⟩
          case measure => simp [intOf]; omega
        · have hv' : (l[k].ver != hi + 1) = true := by simpa using hv
          have HBAD := Lib.hid (show okPush hi l = false from all_not hlt (p := fun e => rightE e && decide (e.ver = hi + 1)) (by simp [hv]))
          clear hq hv
          go_wp2_with fail
          refine wp_region_pure (by kernel_rfl) (by kernel_rfl) ?_
          repeat (first | go_big_quiet_step ((go_at_call 82; exact Calls.pure_of (rright_val l[k] true HQ _ hxs))) | quiet_step ((go_at_call 82; exact Calls.pure_of (rright_val l[k] true HQ _ hxs))))
          refine wpQuiet_nil ?_
          rintro _ ⟨x, rfl⟩
          go_wp2
          go_ret
          exact .inl ⟨HBAD.out, rfl, hbr.trans (x.h.mono hsz)⟩
    · have hall : okPush hi l = true := by
        have := HALL.out
        rwa [List.take_of_length_le (by omega)] at this
      have HALLP := Lib.hid hall
      clear hall
      have hge : ¬ ((k : Int) < (l.length : Int)) := by omega
      by_cases hlong : l.length > 128
      · have hl1 : decide ((l.length : Int) > 128) = true := by simp; omega
        go_wp2
        go_ret
        exact .inr (.inl ⟨HALLP.out, hlong, rfl, hbr⟩)
      · have hl1 : decide ((l.length : Int) > 128) = false := by simp; omega
        obtain ⟨d0, d1, d2, _⟩ := rhAt (KH.out.below hbr).blk
        have hgr : g < wr.heap.size := by omega
        have h56 : (L.length + l.length) * 56 ≤ 140737488355328 := by omega
        have hcut := run_cut_full evElem A L.length c KH.out.le
        have HRL := Lib.hid (KH.out.row.below hbr)
        have HRl := Lib.hid (hr.below hbr)
        have HNIL := Lib.hid (show A = none → L = [] from fun h => by
          by_cases h0 : L = []
          · exact h0
          · obtain ⟨a, ha, _⟩ := KH.out.row h0
            rw [h] at ha; cases ha)
        clear c0 c1 c2
        go_upto_region 10 with fail
        go_cut [63] (fun s wx => RMid g fr hi (L ++ l) w wx)
        case first =>
          go_region_law (first
            | (refine step_app_grow evElem kEvent_plain (by rfl) (.tmp 61) (.tmp 62) (by rfl) (A := A) (xs := L) (ys := l) (by rfl) (by rfl) (HRL.out.below ((Below.refl _ _).drew)) (by exact HNIL.out) (by rfl) (by rfl) (HRl.out.below ((Below.refl _ _).drew)) hne h56 ?_; intro A5 c5 w5 ho5 hg5
               have HO5 := Lib.hid ho5; have HG5 := Lib.hid hg5
               have hb5 := (show Below wr.heap.size wr wr.drew from (Below.refl _ _).drew)
               obtain ⟨f0, f1, f2, f3⟩ := rhAt ((hg5.block g (by simpa using hgr) (by simp)).trans ((hb5.block g hgr).trans (KH.out.below hbr).blk))
               clear ho5 hg5 hb5))
          all_goals (go_wp2_with fail; go_meet; exact rmid KH.out hbr.drew HO5.out HG5.out)
        case rest =>
          obtain ⟨A5, c5, hrt⟩ := hcut
          have hlen5 : (L ++ l).length ≤ 256 := by rw [List.length_append]; omega
          obtain ⟨f0, f1, f2, fz⟩ := hrt.at_
          have HST := Lib.hid (rtrim_start hrt HTO.out HFR.out HFL.out HTI.out hlen5 hdl)
          clear hlen5 hrt d0 d1 d2 hcut HRL HRl HNIL
          go_wp2
          clear f0 f1 f2 fz
          have hps60 : first + (ps1.length : Int) ≤ 1152921504606846976 := by have := HTO.out; omega
          go_loopg [6] (ps1.length - d) (fun n s6 wx => RTrim g w wx first ps1 n)
          case atStart => exact HST.out
          case round =>
            have HREL := Lib.hid hrel
            obtain ⟨d2, fr2, L2, A2, c2, hrt, hn, hfr2, hL2, hti2, hlen2⟩ := hrel
            have hf20 : 0 ≤ fr2 ∧ fr2 ≤ 1152921504606846976 := by omega
            obtain ⟨hf21, hf22⟩ := hf20
            have hwf : IntKind.i64.wrap (fr2 + 1) = fr2 + 1 := by rw [IntKind.wrap_i64]; omega
            obtain ⟨f0, _, f2, fz⟩ := hrt.at_
            have HRT := Lib.hid hrt
            have HFR2 := Lib.hid hfr2
            have HL2 := Lib.hid hL2
            have HTI2 := Lib.hid hti2
            clear hrt hfr2 hL2 hti2
            by_cases hc : L2.length > 128
            · have e8 : decide ((L2.length : Int) > 128) = true := by simp; omega
              obtain ⟨m, rfl⟩ : ∃ m, gk = m + 1 := by
                rcases gk with _ | m
                · have : L2 = [] := by rw [HL2.out, List.drop_eq_nil_of_le (by omega)]; rfl
                  rw [this] at hc; simp at hc
                · exact ⟨m, rfl⟩
              have k1 := HRT.out.set0 (fr2 + 1)
              have hstep : ∀ fr3, fr3 = fr2 + 1 → (L2.filter fun e => decide (e.ver > fr3)) = (ps1.drop (d2 + 1)).flatten := by
                rintro _ rfl
                rw [HL2.out, HFR2.out]; exact trim_step (HVER.out HALLP.out)
              have HSTEP := Lib.hid hstep
              have hn2 : m + (d2 + 1) = ps1.length := by omega
              have HN2 := Lib.hid hn2
              have HLT := Lib.hid hc
              have HK1 := Lib.hid k1
              clear hn hn2 hstep hc HREL k1
              go_wp2
              clear f0 f2 fz
              go_loopw [6, 7] (fun rv iv wr => ∃ (k n : Nat) (B : Option Addr) (T : List Ev) (wb : World) (fr3 : Int), iv = .int .i64 k ∧ rv = .slice B T.length n ∧ k ≤ L2.length ∧ T.length ≤ k ∧ Hid (fr3 = fr2 + 1) ∧ Hid (RT g w wb fr3 (first + ps1.length) L2 A2 c2) ∧ Hid (Own kEvent 41 wb.heap.size (fun _ => True) wr (.slice B T.length n) T) ∧ Hid (Below wb.heap.size wb wr) ∧ Hid (T = (L2.take k).filter fun e => decide (e.ver > fr3))) (fun _ iv _ => L2.length - (intOf iv).toNat)
              case atStart =>
                refine ⟨0, 0, none, [], _, fr2 + 1, rfl, rfl, Nat.zero_le _, Nat.le_refl _, rfl, HK1, Own.nil _ _ _ _ _, ?_, by simp [Hid]⟩
                exact Below.refl _ _
              case round =>
                obtain ⟨k, n, B, T, wb, fr3, rfl, rfl, hk, hT, HFR3, hrt, hown, hbr, HT⟩ := hrel
                obtain ⟨wo, rfl⟩ : ∃ wo, wo = wr := ⟨_, rfl⟩
                have hsz := hbr.out.size
                obtain ⟨g0, g1, g2, fz⟩ := (hrt.out.below hbr.out).at_
                by_cases hlt : k < L2.length
                · obtain ⟨a, rfl, _, l0, l1, l2, l3, l4⟩ := ev_at (hrt.out.row.below hbr.out) k hlt
                  obtain ⟨x, hx⟩ : ∃ x, L2[k] = x := ⟨_, rfl⟩
                  have hst : ∀ b, decide (x.ver > fr3) = b → T ++ (if b then [x] else []) = (L2.take (k + 1)).filter fun e => decide (e.ver > fr3) := fun b hb => by
                    subst hb
                    rw [List.take_succ_eq_append_getElem hlt, List.filter_append, ← HT.out, hx]
                    congr 1
                    simp only [List.filter_cons, List.filter_nil]
                  have HST := Lib.hid hst
                  rw [hx] at l0 l1 l2 l3 l4
                  clear hx hst
                  cases hv : decide (x.ver > fr3)
                  · have HT2 := Lib.hid (HST.out false hv)
                    go_wp2
                    go_quiet (fail)
                    go_wp2
                    go_roundw
                    case rel => exact ⟨k + 1, n, B, T, wb, fr3, by go_num, rfl, hlt, by omega, HFR3, hrt, hown.out.below (below_drewN (Below.refl _ _) _), below_drewN hbr.out _, by simpa using HT2⟩
                    case measure => simp [intOf]; omega
                  · have HT2 := Lib.hid (HST.out true hv)
                    have h56 : (T.length + 1) * 56 ≤ 140737488355328 := by omega
                    go_wp2
                    go_quiet (fail)
                    go_wp2_with (at_builtin; refine wpList_app_plain evElem kEvent_plain wb.heap.size rfl (.tmp 108) (.tmp 116) rfl (v := .slice B T.length n) (xs := T) (ys := [x]) rfl ((hown.out.below (below_drewN (Below.refl _ _) _)).alloc _) rfl rfl (Row.newOnePlain (cs := x.cells) kEvent_plain rfl) (by exact h56) (by simp; omega) ?_; intro A7 c7 w7 happ; have HA7 := Lib.hid happ; clear happ)
                    go_roundw
                    case rel =>
                      have hl1 : (T ++ [x]).length = T.length + 1 := by rw [List.length_append]; rfl
                      refine ⟨k + 1, c7, A7, T ++ [x], wb, fr3, by go_num, by rw [hl1], hlt, by rw [hl1]; omega, HFR3, hrt, by have := HA7.out.own; rw [hl1]; exact this, HA7.out.below ((below_drewN hbr.out _).alloc (by simpa using hsz) _) (by simp; omega) (fun q hq => (hown.out.block_lt q hq).1), by simpa using HT2⟩
                    case measure => simp [intOf]; omega
                · have hT2 := HT.out
                  rw [List.take_of_length_le (by omega), HSTEP.out fr3 HFR3.out] at hT2
                  have hge : ¬ ((k : Int) < (L2.length : Int)) := by omega
                  obtain ⟨_, hrT, hTn, hTm⟩ := own_rowFrom hown.out
                  have HEND := Lib.hid (show RTrim g w (wo.setCell ⟨g, 2, none⟩ (.slice B T.length n)) first ps1 m from
                    ⟨d2 + 1, fr3, T, B, n, (hrt.out.below hbr.out).set2 (hrT.mono fun b hb => Nat.le_trans hrt.out.turn.size hb) hTn hTm, HN2.out, by rw [HFR3.out, HFR2.out]; omega, hT2, fun i hi => by
                      by_cases hi2 : i < d2
                      · exact HTI2.out i hi2
                      · have : i = d2 := by omega
                        subst this
                        rw [← flatten_sumL, ← HL2.out]; exact HLT.out, by omega⟩)
                  clear hT2 hrT hTn hTm
                  go_wp2
                  go_roundg m
                  case rel => exact HEND.out
                  case measure => omega
            · have e8 : decide ((L2.length : Int) > 128) = false := by simp; omega
              have hf := Lib.hid (show RPushRaw l hi w g first ps1 (.returned (.int .i64 0)) _ from .inr (.inr ⟨HALLP.out, by omega, rfl, _, HREL.out, by
                rw [← flatten_sumL, show ps1.length - gk = d2 by omega, ← HL2.out]; omega⟩))
              clear hn
              go_wp2
              go_ret
              exact hf.out

theorem okPush_push {hi : Int} {l : List Ev} (h1 : hi < 1152921504606846976) (hne : l ≠ []) : pushOk hi l = okPush hi l := by
  unfold pushOk okPush
  have : decide (hi = 1152921504606846976) = false := by simp; omega
  rw [this]; simp [hne]
theorem rightE_path {e : Ev} (h : rightE e = true) : isPath e.path = true := by
  unfold rightE at h
  simp only [Bool.and_eq_true] at h
  exact h.1.2
theorem rpush_any {F : Nat → Prop} {g : Nat} {first : Int} {ps : List (List Ev)} {d : Nat} (A : Option Addr) (c : Nat) (P : Nat → Prop) (l : List Ev) (w : World) (k : RHist F w g first ps d) (hr : Row kEvent P w A l) (hl : l.length ≤ 1099511627776) (hs : ∀ e ∈ l, e.path.size ≤ 1073741824) :
    Calls Tryd.prog 56 #[.pointer (some ⟨g, 0, none⟩), .slice A l.length c] w (RPushPost F g first ps d l w) := by
  have hh := k.hist
  have hf0 := hh.f0
  have hhi := hh.hi
  have hdl := hh.dle
  obtain ⟨A2, c2, kh⟩ := k.ex
  by_cases hargs : first + (ps.length : Int) ≥ 1152921504606846976 ∨ l = []
  · have hbad : pushOk (first + ps.length) l = false := by
      unfold pushOk
      rcases hargs with h | h
      · have : first + (ps.length : Int) = 1152921504606846976 := by omega
        rw [this]; simp
      · rw [h]; simp
    have hres : hubPush (hubOf first ps d) l = (hubOf first ps d, 1) := by unfold hubPush; rw [if_pos (by simpa [hubOf] using hbad)]
    exact (rpush_args w kh hargs).mono fun e w' ⟨he, hb⟩ => by subst he; exact RPushPost.refused k hres hb
  · have h60 : first + (ps.length : Int) < 1152921504606846976 := by have := fun h => hargs (.inl h); omega
    have hne : l ≠ [] := fun h => hargs (.inr h)
    have hok : pushOk (first + ps.length) l = okPush (first + ps.length) l := okPush_push h60 hne
    have hd : (ps ++ [l]).drop d = ps.drop d ++ [l] := List.drop_append_of_le_length hdl
    have hL128 : (ps.drop d).flatten.length ≤ 128 := by rw [flatten_sumL]; exact hh.fit
    have hver : okPush (first + ps.length) l = true → ∀ i (h : i < (ps ++ [l]).length), ∀ e ∈ (ps ++ [l])[i], e.ver = first + 1 + i := fun ho i hi e he => by
      by_cases hlt : i < ps.length
      · rw [List.getElem_append_left hlt] at he; exact hh.ver i hlt e he
      · have : i = ps.length := by simp at hi; omega
        subst this
        simp at he
        have := List.all_eq_true.1 ho e he
        simp at this
        omega
    refine (rpush_main A c P l w kh hr hl hs h60 (by omega) hne hL128 first (ps ++ [l]) d rfl (by simp; omega) hf0 (by simp; omega) (by rw [hd, List.flatten_append]; simp) (fun i hi => ?_) hver).mono fun e w' hp => ?_
    · have := hh.tight i hi
      rw [List.drop_append_of_le_length (by omega), sumL_append]; omega
    · rcases push_total hh l with ⟨h1, h2⟩ | ⟨h1, h2, h3⟩ | ⟨h1, h2, d', h3, h4⟩
      · rcases hp with ⟨_, rfl, hb⟩ | ⟨ho, _⟩ | ⟨ho, _⟩
        · exact RPushPost.refused k h2 hb
        · rw [hok, ho] at h1; cases h1
        · rw [hok, ho] at h1; cases h1
      · rcases hp with ⟨ho, _⟩ | ⟨_, _, rfl, hb⟩ | ⟨_, h4, _⟩
        · rw [hok, ho] at h1; cases h1
        · exact RPushPost.refused k h3 hb
        · omega
      · rcases hp with ⟨ho, _⟩ | ⟨_, h5, _⟩ | ⟨ho, _, rfl, n, ⟨d2, fr2, L2, A3, c3, hrt, hn, rfl, rfl, hti, _⟩, hfit⟩
        · rw [hok, ho] at h1; cases h1
        · omega
        · have h5 : HistOk first (ps ++ [l]) d2 := ⟨h3.f0, h3.hi, by omega, h3.ne, h3.ver, by rw [show (ps ++ [l]).length - n = d2 by omega] at hfit; exact hfit, hti⟩
          obtain rfl := h3.uniq h5
          refine ⟨ps ++ [l], d', 0, h4, rfl, ⟨⟨A3, c3, .inl ⟨kh.own, kh.lt⟩, hrt.blk, hrt.row.mono fun b hb => .inr hb, hrt.le, hrt.mx⟩, h5, ?_⟩, hrt.turn⟩
          intro x hx e he
          rcases List.mem_append.1 hx with hx | hx
          · exact k.texts x hx e he
          · rw [List.mem_singleton.1 hx] at he
            have := List.all_eq_true.1 ho e he
            rw [Bool.and_eq_true] at this
            exact rightE_path this.1
end Go.Proofs.YtdchffghgajbfaaDoor
