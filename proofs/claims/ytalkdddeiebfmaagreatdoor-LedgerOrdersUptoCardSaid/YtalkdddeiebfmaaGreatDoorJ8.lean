/- ledger.shares: an object's line and all that it has of sums. -/
import Derived.Test.YtalkdddeiebfmaaGreatDoorJ7
namespace Go.Proofs.YtalkdddeiebfmaaGreatDoor
open Go.RowKit

def shOf (p : ByteArray) (s : ScV) (a : Amt) : Sh := ((p, (s.kind, s.arg), a.name), a.val)
def sharesU (line : List ByteArray) (M : List ScV) (U : List Amt) : List Sh := line.flatMap fun p => M.flatMap fun s => U.map (shOf p s)
def usesU (o : ObjV) : List Amt := (usesV o.parts).1.map amtOf
/-- the line, the shares, the refusal -/
def sharesV (o : ObjV) : List ByteArray × List Sh × Int :=
  if isPath o.path = true then (if (usesV o.parts).2 = 0 then (lineB o.path, sharesU (lineB o.path) (ofS o 6) (usesU o), 0) else ([], [], (usesV o.parts).2)) else ([], [], 41)
theorem scopesU_len (p : ByteArray) (M : List ScV) (U : List Amt) : (M.flatMap fun s => U.map (shOf p s)).length = M.length * U.length := by
  induction M with
  | nil => simp
  | cons s M ih => rw [List.flatMap_cons, List.length_append, ih, List.length_map, List.length_cons, Nat.succ_mul]; omega
theorem sharesU_len (line : List ByteArray) (M : List ScV) (U : List Amt) : (sharesU line M U).length = line.length * (M.length * U.length) := by
  unfold sharesU
  induction line with
  | nil => simp
  | cons s M ih => rw [List.flatMap_cons, List.length_append, ih, scopesU_len, List.length_cons, Nat.succ_mul]; omega
theorem sharesU_step {line : List ByteArray} {M : List ScV} {U : List Amt} {i : Nat} (h : i < line.length) : sharesU (line.take (i + 1)) M U = sharesU (line.take i) M U ++ M.flatMap fun s => U.map (shOf line[i] s) := by
  unfold sharesU
  rw [List.take_succ_eq_append_getElem h, List.flatMap_append]
  simp
theorem scopesU_step {p : ByteArray} {M : List ScV} {U : List Amt} {i : Nat} (h : i < M.length) : ((M.take (i + 1)).flatMap fun s => U.map (shOf p s)) = ((M.take i).flatMap fun s => U.map (shOf p s)) ++ U.map (shOf p M[i]) := by
  rw [List.take_succ_eq_append_getElem h, List.flatMap_append]
  simp
theorem usesU_step {p : ByteArray} {s : ScV} {U : List Amt} {i : Nat} (h : i < U.length) : (U.take (i + 1)).map (shOf p s) = (U.take i).map (shOf p s) ++ [shOf p s U[i]] := by
  rw [List.take_succ_eq_append_getElem h, List.map_append]
  rfl
theorem room3 {i j k n q u : Nat} (hi : i < n) (hj : j < q) (hk : k < u) : i * (q * u) + j * u + k + 1 ≤ n * (q * u) := by
  have h1 : (j + 1) * u ≤ q * u := Nat.mul_le_mul_right u hj
  have h2 : (i + 1) * (q * u) ≤ n * (q * u) := Nat.mul_le_mul_right _ hi
  rw [Nat.succ_mul] at h1 h2
  omega
theorem ofS_len6 (o : ObjV) : (ofS o 6).length ≤ 6 := by
  unfold ofS
  exact Nat.le_trans (List.length_filter_le _ _) (by simp)
theorem lineB_len (p : ByteArray) : (lineB p).length ≤ 9 := by
  unfold lineB
  split
  · rename_i h
    rw [lineTo_length]
    have := (pathOk h).few
    omega
  · simp
def SharesPost (o : ObjV) (w : World) (e : Ending) (w' : World) : Prop :=
  ∃ A c B d, e = .returned (.tuple #[.slice A (sharesV o).1.length c, .slice B (sharesV o).2.1.length d, .int .i64 (sharesV o).2.2]) ∧ Own Kn.str 9 w.heap.size (fun _ => False) w' (.slice A (sharesV o).1.length c) (sharesV o).1 ∧
    Own kSh 137 w.heap.size (fun _ => False) w' (.slice B (sharesV o).2.1.length d) (sharesV o).2.1 ∧ Below w.heap.size w w'
theorem SharesPost.mk_ {o : ObjV} {l : List ByteArray} {T : List Sh} {z : Int} (h : sharesV o = (l, T, z)) {w w' : World} {A B : Option Addr} {c d : Nat} (h1 : Own Kn.str 9 w.heap.size (fun _ => False) w' (.slice A l.length c) l)
    (h2 : Own kSh 137 w.heap.size (fun _ => False) w' (.slice B T.length d) T) (hb : Below w.heap.size w w') : SharesPost o w (.returned (.tuple #[.slice A l.length c, .slice B T.length d, .int .i64 z])) w' := by
  unfold SharesPost
  rw [h]
  exact ⟨A, c, B, d, rfl, h1, h2, hb⟩
theorem SharesPost.none {o : ObjV} {z : Int} (h : sharesV o = ([], [], z)) {w w' : World} (hb : Below w.heap.size w w') : SharesPost o w (.returned (.tuple #[.slice none 0 0, .slice none 0 0, .int .i64 z])) w' :=
  SharesPost.mk_ h (Own.nil _ _ _ _ _) (Own.nil _ _ _ _ _) hb
/-- blocks that stay while a list of the call's own grows -/
structure Kept (I : Nat → Prop) (w0 wr : World) (lv : Value) : Prop where
  blk : ∀ k, I k → wr.heap[k]? = w0.heap[k]?
  ne : ∀ k, lv.ownBlock = some k → ¬ I k
  lo : ∀ k, I k → k < w0.heap.size
  sz : w0.heap.size ≤ wr.heap.size
section
variable {I : Nat → Prop} {w0 wr w' : World} {lv lv' : Value} {α : Type} {d : Kn α} {e base : Nat} {R : Nat → Prop} {zs : List α}
theorem Kept.below (h : Kept I w0 wr lv) (hb : Below wr.heap.size wr w') : Kept I w0 w' lv :=
  ⟨fun k hk => (hb.block k (Nat.lt_of_lt_of_le (h.lo k hk) h.sz)).trans (h.blk k hk), h.ne, h.lo, Nat.le_trans h.sz hb.size⟩
theorem Kept.app (h : Kept I w0 wr lv) (ha : Appended d e base R wr w' lv lv' zs) : Kept I w0 w' lv' := by
  have hsz := h.sz
  refine ⟨fun k hk => (ha.grown.block k (Nat.lt_of_lt_of_le (h.lo k hk) h.sz) (fun e => h.ne k e.symm hk)).trans (h.blk k hk), fun k hk hi => ?_, h.lo, Nat.le_trans h.sz ha.grown.size⟩
  rcases ha.at_ with e | e
  · exact h.ne k (e ▸ hk) hi
  · rw [e] at hk
    have := Option.some.inj hk
    have := h.lo k hi
    omega
theorem Kept.row {P : Nat → Prop} {A : Option Addr} {xs : List α} (h : Kept I w0 wr lv) (hr : Row d P w0 A xs) (hp : ∀ k, P k → I k) : Row d P wr A xs := hr.keep fun k hk _ => h.blk k (hp k hk)
end
/-- what shares asks of an object -/
structure UseOk (o : ObjV) : Prop where
  names : NamesOk o.parts
  few : (allB o.parts).length ≤ 1073741824
set_option maxRecDepth 100000 in
set_option maxHeartbeats 2000000 in
theorem shares_any (o : ObjV) (L : Option Addr) (n m : Nat) (B : Option Addr) (c : Nat) (P : Nat → Prop) (w : World) (hml : Ml w) (ht : TextsAt w) (ho : ObjOk w (o.re L n m) B P) (hu : UseOk o) :
    Calls Tryz.prog 41 #[.agg #[.string o.path, .string o.name, .slice L n m, .int .i64 o.prio, .int .i64 o.dl, .slice B o.parts.length c, .int .i64 o.ver]] w (SharesPost o w) := by
  have hb0 := (Below.refl w.heap.size w).alloc (Nat.le_refl _) (.cells #[.string o.path, .string o.name, .slice L n m, .int .i64 o.prio, .int .i64 o.dl, .slice B o.parts.length c, .int .i64 o.ver] 26)
  have hx := OBox.of (heap_alloc_new w (.cells #[.string o.path, .string o.name, .slice L n m, .int .i64 o.prio, .int .i64 o.dl, .slice B o.parts.length c, .int .i64 o.ver] 26))
  obtain ⟨w0, hw0⟩ : ∃ w0, w.alloc (.cells #[.string o.path, .string o.name, .slice L n m, .int .i64 o.prio, .int .i64 o.dl, .slice B o.parts.length c, .int .i64 o.ver] 26) = w0 := ⟨_, rfl⟩
  rw [hw0] at hb0 hx
  obtain ⟨bx, hbx⟩ : ∃ b, w.heap.size = b := ⟨_, rfl⟩
  have HB0 := Lib.hid hb0
  have HML := Lib.hid (hml.below hb0)
  have HTX := Lib.hid (ht.below hb0)
  have HO := Lib.hid (ho.below hb0)
  have HX := Lib.hid hx
  have HN := Lib.hid hu.names
  have HF := Lib.hid hu.few
  have hp0 := hx.c0
  clear hml ht ho hx hb0 hbx hu
  have hlp := line_any o.path w0 HML.out
  unfold LinePost at hlp
  rcases errPath_cases o.path with ⟨hp, ep⟩ | ⟨hp, ep⟩
  · rw [ep] at hlp
    obtain ⟨line, hline⟩ : ∃ l, lineB o.path = l := ⟨_, rfl⟩
    have hl9 := lineB_len o.path
    rw [hline] at hlp hl9
    have HLP := Lib.hid hlp
    obtain ⟨eu, heu⟩ : ∃ e, (usesV o.parts).2 = e := ⟨_, rfl⟩
    obtain ⟨U, hU⟩ : ∃ U, usesU o = U := ⟨_, rfl⟩
    obtain ⟨u, hul⟩ : ∃ u, U.length = u := ⟨_, rfl⟩
    have hu30 : u ≤ 1073741825 := by
      have h1 := usesV_len o.parts
      have h2 := HF.out
      rw [← hul, ← hU]
      unfold usesU
      rw [List.length_map]
      omega
    have HU := Lib.hid (show (usesV o.parts).1.map amtOf = U from hU)
    have HUL := Lib.hid hul
    have HEU := Lib.hid heu
    have HSV := Lib.hid (show sharesV o = if eu = 0 then (line, sharesU line (ofS o 6) U, 0) else ([], [], eu) by unfold sharesV; rw [if_pos hp, heu, hline, hU])
    clear hlp hp ep hline heu hU hul
    go_enter Tryz.func41, Tryz.ntmps41
    go_upto_region 4 with (go_at_call 52; refine HLP.out.mono ?_; rintro e w1 ⟨A1, c1, rfl, ho1, hb1⟩; have HO1 := Lib.hid ho1; have HB1 := Lib.hid hb1; clear ho1 hb1)
    obtain ⟨-, r0, r1, r2, r3, r4, r5, r6, -⟩ := HX.out.below HB1.out
    clear hp0 hw0
    have hTT : (allB o.parts).length ≤ 1099511627776 := by have := HF.out; omega
    go_upto_region 5 with (go_at_call 29; refine (uses_own o U u eu HU HUL.out HEU HN.out hTT L n m B c P _ (HO.out.below HB1.out)).mono ?_; rintro e w2 ⟨A2, c2, rfl, ho2, hb2⟩; have HO2 := Lib.hid ho2; have HB2 := Lib.hid hb2; clear ho2 hb2)
    have HB02 := Lib.hid (HB1.out.trans (HB2.out.mono HB1.out.size))
    clear r0 r1 r2 r3 r4 r5 r6 hTT
    by_cases he : eu = 0
    · subst he
      have hsv := HSV.out
      rw [if_pos rfl] at hsv
      obtain ⟨M, hM⟩ : ∃ M, ofS o 6 = M := ⟨_, rfl⟩
      have hq6 := ofS_len6 o
      rw [hM] at hsv hq6
      obtain ⟨q, hq⟩ : ∃ q, M.length = q := ⟨_, rfl⟩
      rw [hq] at hq6
      have HMQ := Lib.hid hq
      have HM := Lib.hid hM
      have HS2 := Lib.hid hsv
      obtain ⟨l1, hl1⟩ : ∃ l, line.length = l := ⟨_, rfl⟩
      have HL1 := Lib.hid hl1
      have HO1' := Lib.hid (HO1.out.below HB2.out)
      have htot : l1 * (q * u) ≤ 57982058550 := by
        have h1 : q * u ≤ 6 * 1073741825 := Nat.mul_le_mul hq6 hu30
        have h2 : l1 * (q * u) ≤ 9 * (6 * 1073741825) := Nat.mul_le_mul (by omega) h1
        omega
      have HTOT := Lib.hid (show ∀ i j k, i < l1 → j < q → k < u → i * (q * u) + j * u + k + 1 ≤ 57982058550 from fun i j k hi hj hk => Nat.le_trans (room3 hi hj hk) htot)
      rw [hl1] at hl9 HO1' ⊢
      have HOO := Lib.hid (HO.out.below HB02.out)
      have HXX := Lib.hid (HX.out.below HB02.out)
      have HTX2 := Lib.hid (HTX.out.below HB02.out)
      clear hsv hM hq hl1 HSV HO1 HEU htot
      go_wp2
      have HR1 := Lib.hid (show Row Kn.str (fun _ => True) w2 A1 line from HO1'.out.row'.2.1)
      have HR2 := Lib.hid (show Row kAmt (fun _ => True) w2 A2 U from HO2.out.row'.2.1)
      go_loopw [8, 33] (fun lv iv wr => ∃ (i n1 : Nat) (B1 : Option Addr) (T : List Sh), iv = .int .i64 i ∧ lv = .slice B1 T.length n1 ∧ i ≤ l1 ∧ Hid (Own kSh 137 w2.heap.size (fun _ => False) wr (.slice B1 T.length n1) T) ∧ Hid (Below w2.heap.size w2 wr) ∧ Hid (T = sharesU (line.take i) M U)) (fun _ iv _ => l1 - (intOf iv).toNat)
      case atStart => exact ⟨0, 0, none, [], rfl, rfl, Nat.zero_le _, Own.nil _ _ _ _ _, Below.refl _ _, by simp [Hid, sharesU]⟩
      case round =>
        obtain ⟨i, n1, B1, T0, rfl, rfl, hi, hown, hbr, hT⟩ := hrel
        obtain ⟨w4, rfl⟩ : ∃ w4, w4 = wr := ⟨_, rfl⟩
        have hs4 := hbr.out.size
        by_cases hlt : i < l1
        · have hltx : i < line.length := by rw [HL1.out]; exact hlt
          obtain ⟨a, rfl, x0⟩ := row_str_at (HR1.out.below hbr.out) i hltx
          obtain ⟨p, hp⟩ : ∃ p, line[i] = p := ⟨_, rfl⟩
          rw [hp] at x0
          have HSTEP := Lib.hid (show sharesU (line.take (i + 1)) M U = T0 ++ M.flatMap fun s => U.map (shOf p s) by rw [sharesU_step hltx, hp, hT.out])
          have hT0 : T0.length = i * (q * u) := by
            rw [hT.out, sharesU_len, List.length_take, HMQ.out, HUL.out, Nat.min_eq_left (by omega)]
          have HT0 := Lib.hid hT0
          obtain ⟨-, r0, r1, r2, r3, r4, r5, r6, -⟩ := HXX.out.below hbr.out
          have hlti : (i : Int) < (l1 : Int) := by omega
          clear hp hT hT0
          go_upto_region 12 with (go_at_call 53; refine (of_own o M q HM HMQ.out L n m B c P _ (HOO.out.below hbr.out) (HTX2.out.below hbr.out)).mono ?_; rintro e w5 ⟨A5, c5, rfl, ho5, hb5⟩; have HO5 := Lib.hid ho5; have HB5 := Lib.hid hb5; clear ho5 hb5)
          have HR5 := Lib.hid (show Row kSc (fun k => w4.heap.size ≤ k ∧ k < w5.heap.size) w5 A5 M by
            obtain ⟨A', c', hv, _, _, h3⟩ := HO5.out.row
            cases hv
            exact h3.mono fun k hk => hk.elim (fun f => f.elim) (fun e => HO5.out.block_lt k e))
          have HKE := Lib.hid (show Kept (fun k => w4.heap.size ≤ k ∧ k < w5.heap.size) w5 w5 (.slice B1 T0.length n1) from ⟨fun _ _ => rfl, fun k hk h => by have := (hown.out.block_lt k hk).2; omega, fun k hk => hk.2, Nat.le_refl _⟩)
          have HOW := Lib.hid (hown.out.below HB5.out)
          have HBW := Lib.hid (hbr.out.trans (HB5.out.mono hs4))
          clear hown hbr r0 r1 r2 r3 r4 r5 r6 x0
          go_wp2
          go_loopw [8, 40] (fun lv iv wr => ∃ (j n1 : Nat) (B1 : Option Addr) (T : List Sh), iv = .int .i64 j ∧ lv = .slice B1 T.length n1 ∧ j ≤ q ∧ Hid (Own kSh 137 w2.heap.size (fun _ => False) wr (.slice B1 T.length n1) T) ∧ Hid (Below w2.heap.size w2 wr) ∧ Hid (T = T0 ++ (M.take j).flatMap fun s => U.map (shOf p s)) ∧ Hid (Kept (fun k => w4.heap.size ≤ k ∧ k < w5.heap.size) w5 wr lv)) (fun _ iv _ => q - (intOf iv).toNat)
          case atStart => exact ⟨0, n1, B1, T0, rfl, rfl, Nat.zero_le _, HOW.out, HBW.out, by simp [Hid], HKE.out⟩
          case round =>
            clear HOW HBW HKE
            obtain ⟨j, n1, B1, T1, rfl, rfl, hj, hown, hbr, hT1, hke⟩ := hrel
            obtain ⟨w6, rfl⟩ : ∃ w6, w6 = wr := ⟨_, rfl⟩
            have hs6 := hbr.out.size
            by_cases hltj : j < q
            · have hltm : j < M.length := by rw [HMQ.out]; exact hltj
              obtain ⟨a, rfl, y0, y1⟩ := sc_at (hke.out.row HR5.out (fun _ h => h)) j hltm
              obtain ⟨sc, hsc⟩ : ∃ s, M[j] = s := ⟨_, rfl⟩
              rw [hsc] at y0 y1
              have HSTEPJ := Lib.hid (show (T0 ++ (M.take (j + 1)).flatMap fun s => U.map (shOf p s)) = T1 ++ U.map (shOf p sc) by rw [scopesU_step hltm, hsc, ← List.append_assoc, hT1.out])
              have HT1 := Lib.hid (show T1.length = i * (q * u) + j * u by
                rw [hT1.out, List.length_append, scopesU_len, HT0.out, List.length_take, HUL.out, Nat.min_eq_left (by omega)])
              have hltji : (j : Int) < (q : Int) := by omega
              have hbx := (Below.refl w6.heap.size w6).alloc (Nat.le_refl _) (.cells #[.int .i64 sc.kind, .int .i64 sc.arg] 47)
              have HNB := Lib.hid (heap_alloc_new w6 (.cells #[.int .i64 sc.kind, .int .i64 sc.arg] 47))
              have HOW := Lib.hid (hown.out.below hbx)
              have HBW := Lib.hid (hbr.out.trans (hbx.mono hs6))
              have HKE := Lib.hid (hke.out.below hbx)
              have hsz1 : (w6.alloc (.cells #[.int .i64 sc.kind, .int .i64 sc.arg] 47)).heap.size = w6.heap.size + 1 := by simp
              have HKB := Lib.hid (show Kept (fun k => k = w6.heap.size) (w6.alloc (.cells #[.int .i64 sc.kind, .int .i64 sc.arg] 47)) (w6.alloc (.cells #[.int .i64 sc.kind, .int .i64 sc.arg] 47)) (.slice B1 T1.length n1) from
                ⟨fun _ _ => rfl, fun k hk h => by have := (hown.out.block_lt k hk).2; omega, fun k hk => by have : k = w6.heap.size := hk; omega, Nat.le_refl _⟩)
              obtain ⟨qs, hqs⟩ : ∃ b, w6.heap.size = b := ⟨_, rfl⟩
              rw [hqs] at HNB HKB
              clear hown hbr hke hT1 hsc hbx hsz1
              go_upto_region 14 with fail
              generalize hw7 : w6.alloc (.cells #[.int .i64 sc.kind, .int .i64 sc.arg] 47) = w7 at HNB HOW HBW HKE HKB ⊢
              clear hw7 hqs y0 y1 hs6
              go_wp2
              go_loopw [8, 46] (fun lv iv wr => ∃ (k n1 : Nat) (B1 : Option Addr) (T : List Sh), iv = .int .i64 k ∧ lv = .slice B1 T.length n1 ∧ k ≤ u ∧ Hid (Own kSh 137 w2.heap.size (fun _ => False) wr (.slice B1 T.length n1) T) ∧ Hid (Below w2.heap.size w2 wr) ∧ Hid (T = T1 ++ (U.take k).map (shOf p sc)) ∧ Hid (Kept (fun k => w4.heap.size ≤ k ∧ k < w5.heap.size) w5 wr lv) ∧ Hid (Kept (fun k => k = qs) w7 wr lv)) (fun _ iv _ => u - (intOf iv).toNat)
              case atStart => exact ⟨0, n1, B1, T1, rfl, rfl, Nat.zero_le _, HOW.out, HBW.out, by simp [Hid], HKE.out, HKB.out⟩
              case round =>
                clear HOW HBW HKE HKB
                obtain ⟨k, n1, B1, T2, rfl, rfl, hk, hown, hbr, hT2, hke, hkb⟩ := hrel
                obtain ⟨w8, rfl⟩ : ∃ w8, w8 = wr := ⟨_, rfl⟩
                have hs8 := hbr.out.size
                by_cases hltk : k < u
                · have hltu : k < U.length := by rw [HUL.out]; exact hltk
                  obtain ⟨a, rfl, -, m0, m1⟩ := amt_at (HR2.out.below hbr.out) k hltu
                  obtain ⟨am, ham⟩ : ∃ x, U[k] = x := ⟨_, rfl⟩
                  rw [ham] at m0 m1
                  have HSTEPK := Lib.hid (show (T1 ++ (U.take (k + 1)).map (shOf p sc)) = T2 ++ [shOf p sc am] by rw [usesU_step hltu, ham, ← List.append_assoc, hT2.out])
                  have hroom : (T2.length + 1) * 56 ≤ 140737488355328 := by
                    have h1 := HTOT.out i j k hlt hltj hltk
                    have h2 : T2.length = i * (q * u) + j * u + k := by rw [hT2.out, List.length_append, HT1.out, List.length_map, List.length_take, HUL.out, Nat.min_eq_left (by omega)]
                    rw [h2]; omega
                  have hltki : (k : Int) < (u : Int) := by omega
                  clear ham hT2
                  have hby := (Below.refl w8.heap.size w8).alloc (Nat.le_refl _) (.cells #[.string am.name, .int .i64 am.val] 45)
                  have HBY := Lib.hid hby
                  have HOW := Lib.hid (hown.out.below hby)
                  have HKE := Lib.hid (hke.out.below hby)
                  have HKB := Lib.hid (hkb.out.below hby)
                  have HBW := Lib.hid (hbr.out.trans (hby.mono hs8))
                  have HNA := Lib.hid (heap_alloc_new w8 (.cells #[.string am.name, .int .i64 am.val] 45))
                  obtain ⟨qa, hqa⟩ : ∃ b, w8.heap.size = b := ⟨_, rfl⟩
                  rw [hqa] at HNA HBY
                  have HQA := Lib.hid hqa
                  clear hown hbr hke hkb hby
                  go_upto_region 17 with fail
                  generalize hw9 : w8.alloc (.cells #[.string am.name, .int .i64 am.val] 45) = w9 at HNA HOW HKE HKB HBW HBY ⊢
                  clear hw9 hqa hs8 m0 m1
                  have hqs9 : w9.heap[qs]? = some (.cells #[.int .i64 sc.kind, .int .i64 sc.arg] 47 (0, 0)) := (HKB.out.blk qs rfl).trans HNB.out
                  have z0 : w9.cell? ⟨qs, 0, none⟩ = some (.int .i64 sc.kind) := cell_of_row _ _ _ _ _ _ hqs9
                  have z1 : w9.cell? ⟨qs, 1, none⟩ = some (.int .i64 sc.arg) := cell_of_row _ _ _ _ _ _ hqs9
                  have y0 : w9.cell? ⟨qa, 0, none⟩ = some (.string am.name) := cell_of_row _ _ _ _ _ _ HNA.out
                  have y1 : w9.cell? ⟨qa, 1, none⟩ = some (.int .i64 am.val) := cell_of_row _ _ _ _ _ _ HNA.out
                  have hs9 := HBW.out.size
                  clear hqs9
                  go_wp2_with (at_builtin; refine wpList_app_plain shElem kSh_plain w2.heap.size rfl (.tmp 50) (.tmp 59) rfl (v := .slice B1 T2.length n1) (xs := T2) (ys := [shOf p sc am]) rfl (HOW.out.alloc _) rfl rfl (Row.newOnePlain (cs := Sh.cells (shOf p sc am)) kSh_plain rfl) (by exact hroom) (by simp; omega) ?_; intro A9 c9 w10 happ; have HA9 := Lib.hid happ; clear happ)
                  go_roundw
                  case rel =>
                    have hl : (T2 ++ [shOf p sc am]).length = T2.length + 1 := by rw [List.length_append]; rfl
                    have hb2 := (Below.refl w9.heap.size w9).alloc (Nat.le_refl _) (.cells (Sh.cells (shOf p sc am)).toArray 137)
                    refine ⟨k + 1, c9, A9, T2 ++ [shOf p sc am], by go_num, by rw [hl], hltk, ?_, ?_, HSTEPK.out.symm, (HKE.out.below hb2).app HA9.out, (HKB.out.below hb2).app HA9.out⟩
                    · rw [hl]; exact HA9.out.own
                    · exact HA9.out.below (HBW.out.trans (hb2.mono HBW.out.size)) (by simp; omega) (fun q hq => (HOW.out.block_lt q hq).1)
                  case measure => simp [intOf]; omega
                · have hge : ¬ ((k : Int) < (u : Int)) := by omega
                  have HE := Lib.hid (show T2 = T0 ++ (M.take (j + 1)).flatMap fun s => U.map (shOf p s) by rw [HSTEPJ.out, hT2.out, List.take_of_length_le (by rw [HUL.out]; omega)])
                  have HOW := Lib.hid hown.out
                  have HBW := Lib.hid hbr.out
                  have HKE := Lib.hid hke.out
                  clear hown hbr hke hkb hT2
                  go_wp2
                  go_roundw
                  case rel => exact ⟨j + 1, n1, B1, T2, by go_num, rfl, hltj, HOW.out, HBW.out, HE.out, HKE.out⟩
                  case measure => simp [intOf]; omega
            · have hge : ¬ ((j : Int) < (q : Int)) := by omega
              have HE := Lib.hid (show T1 = sharesU (line.take (i + 1)) M U by rw [HSTEP.out, hT1.out, List.take_of_length_le (by rw [HMQ.out]; omega)])
              have HOW := Lib.hid hown.out
              have HBW := Lib.hid hbr.out
              clear hown hbr hke hT1
              go_wp2
              go_roundw
              case rel => exact ⟨i + 1, n1, B1, T1, by go_num, rfl, hlt, HOW.out, HBW.out, HE.out⟩
              case measure => simp [intOf]; omega
        · have hge : ¬ ((i : Int) < (l1 : Int)) := by omega
          have hE : T0 = sharesU line M U := by rw [hT.out, List.take_of_length_le (by rw [HL1.out]; omega)]
          have hfin := fun e => SharesPost.mk_ (o := o) (l := line) (T := T0) (z := 0) (by rw [HS2.out, hE]) (w := w) (w' := w4) (A := A1) (B := B1) (c := c1) (d := n1) (by rw [HL1.out]; exact (HO1'.out.below hbr.out).lower HB0.out.size) (hown.out.lower e) (HB0.out.trans ((HB02.out.trans (hbr.out.mono HB02.out.size)).mono HB0.out.size))
          rw [HL1.out] at hfin
          have HFIN := Lib.hid (hfin (Nat.le_trans HB0.out.size HB02.out.size))
          clear hown hbr hT hE hfin
          go_wp2
          go_ret3
          exact HFIN.out
    · have hf := Lib.hid (show sharesV o = ([], [], eu) by rw [HSV.out, if_neg he])
      have e1 : (eu != 0) = true := by simpa using he
      clear he
      go_wp2
      go_ret3
      exact SharesPost.none hf.out (HB0.out.trans (HB02.out.mono HB0.out.size))
  · rw [ep] at hlp
    have HLP := Lib.hid hlp
    have HSV := Lib.hid (show sharesV o = ([], [], 41) by unfold sharesV; rw [if_neg (by rw [hp]; simp)])
    clear hlp hp ep
    go_enter Tryz.func41, Tryz.ntmps41
    go_wp2_with (go_at_call 52; refine HLP.out.mono ?_; rintro e w1 ⟨A1, c1, rfl, ho1, hb1⟩; have HB1 := Lib.hid hb1; clear ho1 hb1)
    go_ret3
    exact SharesPost.none HSV.out (HB0.out.trans (HB1.out.mono HB0.out.size))
end Go.Proofs.YtalkdddeiebfmaaGreatDoor
