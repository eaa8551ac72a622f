/- Laid together: J6 J7 J8 J9 J10. -/
import Derived.Test.YtalkdddeiebfmaaGreatDoorJA
import Derived.Test.YtalkdddeiebfmaaGreatDoorBH
/- The ledger's move: the walk. -/
namespace Go.Proofs.YtalkdddeiebfmaaGreatDoor
open Go.RowKit Go.Maps Go.WideMaps

structure MoveOk (b : Int) (C : ByteArray → Int) (S : Pl → Int) (line : List ByteArray) (L : List Sh) : Prop where
  by1 : b = 1 ∨ b = -1
  st : ∀ p ∈ line, StOk p
  few : line.length ≤ 2305843009213693952
  cnt : ∀ x, -4611686018427387904 ≤ C x ∧ C x ≤ 4611686018427387904
  sh : ∀ s ∈ L, ShOk s
  nod : (L.map Prod.fst).Nodup
  fit : ∀ s ∈ L, in64 (S s.1 + b * s.2)
set_option maxRecDepth 100000 in
set_option maxHeartbeats 1000000 in
theorem move_any (b : Int) (line : List ByteArray) (L : List Sh) (A B : Option Addr) (c d : Nat) (P Q : Nat → Prop) (g b1 b2 n : Nat) (S : Pl → Int) (C : ByteArray → Int) (w : World) (k : IsLed w g b1 b2 n S C) (ho : MoveOk b C S line L)
    (hr : Row Kn.str P w A line) (hq : Row kSh Q w B L) (hP : ∀ i, P i → i ≠ b1 ∧ i ≠ b2) (hQ : ∀ i, Q i → i ≠ b1 ∧ i ≠ b2) (hL : L.length ≤ 4611686018427387904) (hn : n + line.length + L.length < maxLen) :
    Calls Tryz.prog 44 #[.pointer (some ⟨g, 0, none⟩), .slice A line.length c, .slice B L.length d, .int .i64 b] w fun e w' =>
      e = .returned (.tuple #[]) ∧ IsLed w' g b1 b2 (n + line.length + L.length) (addS b S L) (addC b C line) ∧ Turn (mapB b1 b2) w w' := by
  have HR := Lib.hid hr
  have HQ := Lib.hid hq
  have HO := Lib.hid ho
  have hb2 : -1 ≤ b ∧ b ≤ 1 := by rcases ho.by1 with e | e <;> omega
  have HBD := Lib.hid (fun l => addC_bound b hb2 l C 4611686018427387904 ho.cnt)
  have hfew := ho.few
  clear hr hq ho
  go_enter Tryz.func44, Tryz.ntmps44
  go_wp2
  go_loopw [14] (fun iv wr => ∃ i : Nat, iv = .int .i64 i ∧ i ≤ line.length ∧ Hid (IsLed wr g b1 b2 (n + i) S (addC b C (line.take i))) ∧ Hid (Turn (mapB b1 b2) w wr)) (fun iv _ => line.length - (intOf iv).toNat)
  case atStart => exact ⟨0, rfl, Nat.zero_le _, k, Turn.refl _ _⟩
  case round =>
    obtain ⟨i, rfl, hi, hk, ht⟩ := hrel
    obtain ⟨wo, rfl⟩ : ∃ wo, wo = wr := ⟨_, rfl⟩
    by_cases hlt : i < line.length
    · obtain ⟨a, rfl, l0⟩ := row_str_at (HR.out.keep (w' := wo) fun j hj hl => ht.out.block j hl (fun e => e.elim (hP j hj).1 (hP j hj).2)) i hlt
      obtain ⟨p, hp⟩ : ∃ p, line[i] = p := ⟨_, rfl⟩
      have hpo : StOk p := HO.out.st p (by rw [← hp]; exact List.getElem_mem _)
      obtain ⟨Ci, hCi⟩ : ∃ Ci, addC b C (line.take i) = Ci := ⟨_, rfl⟩
      have HSTEP := Lib.hid (show addC b C (line.take (i + 1)) = upd Ci p (Ci p + b) by rw [List.take_succ_eq_append_getElem hlt, addC_snoc, hp, hCi])
      have hbd := HBD.out (line.take i) p
      rw [hCi] at hbd
      have hlen : (line.take i).length ≤ line.length := by rw [List.length_take]; omega
      have hk' : IsLed wo g b1 b2 (n + i) S Ci := by rw [← hCi]; exact hk.out
      obtain ⟨z, hz⟩ : ∃ z, Ci p = z := ⟨_, rfl⟩
      rw [hz] at hbd HSTEP
      have g1 := hk'.g1
      have lk := hk'.cnts.look hpo
      rw [hz] at lk
      have hwz : wrap64 (z + b) = z + b := by unfold wrap64; omega
      have hlti : (i : Int) < (line.length : Int) := by omega
      rw [hp] at l0
      obtain ⟨w1, r1, r2, r3, r4, r5, r6⟩ := hk'.cnt hpo (v := z + b) (by unfold in64; omega) (by omega) 0
      have HT := Lib.hid ht.out
      clear hz hCi hk' hp hk ht hbd hpo hlen
      by_cases h0 : z + b = 0
      · obtain ⟨w2, q1, q2, q3⟩ := r6 h0
        have e1 : (z + b == 0) = true := by simpa using h0
        have Q2 := Lib.hid q2
        have Q3 := Lib.hid q3
        clear r4 r6 h0 q2 q3 r5
        go_wp2
        go_roundw
        case rel => exact ⟨i + 1, by go_num, hlt, by rw [HSTEP.out]; exact Q2.out, HT.out.trans (Q3.out.mono fun j _ hj => .inl hj)⟩
        case measure => simp [intOf]; omega
      · have q2 := r4 h0
        have e1 : (z + b == 0) = false := by simpa using h0
        have Q2 := Lib.hid q2
        have Q3 := Lib.hid r5
        clear r4 r6 h0 q2 r5
        go_wp2
        go_roundw
        case rel => exact ⟨i + 1, by go_num, hlt, by rw [HSTEP.out]; exact Q2.out, HT.out.trans (Q3.out.mono fun j _ hj => .inl hj)⟩
        case measure => simp [intOf]; omega
    · have hge : ¬ ((i : Int) < (line.length : Int)) := by omega
      have hk1 := hk.out
      rw [List.take_of_length_le (by omega)] at hk1
      obtain ⟨Cn, hCn⟩ : ∃ Cn, addC b C line = Cn := ⟨_, rfl⟩
      rw [hCn] at hk1
      have HCN := Lib.hid hCn
      have HK1 := Lib.hid (show IsLed wo g b1 b2 (n + line.length) S Cn by
        have e : i = line.length := by omega
        rw [e] at hk1; exact hk1)
      have HT := Lib.hid ht.out
      clear hk ht hk1 hCn HBD
      have HQW := Lib.hid (HQ.out.keep (w' := wo) fun j hj hl => HT.out.block j hl (fun e => e.elim (hQ j hj).1 (hQ j hj).2))
      go_wp2
      go_loopw [41] (fun iv wr => ∃ i : Nat, iv = .int .i64 i ∧ i ≤ L.length ∧ Hid (IsLed wr g b1 b2 (n + line.length + i) (addS b S (L.take i)) Cn) ∧ Hid (Turn (mapB b1 b2) wo wr)) (fun iv _ => L.length - (intOf iv).toNat)
      case atStart => exact ⟨0, rfl, Nat.zero_le _, HK1.out, Turn.refl _ _⟩
      case round =>
        obtain ⟨i, rfl, hi, hk, ht⟩ := hrel
        obtain ⟨wq, rfl⟩ : ∃ wq, wq = wr := ⟨_, rfl⟩
        by_cases hlt : i < L.length
        · obtain ⟨a, rfl, -, l0, l1, l2, l3, l4⟩ := sh_at (HQW.out.keep (w' := wq) fun j hj hl => ht.out.block j hl (fun e => e.elim (hQ j hj).1 (hQ j hj).2)) i hlt
          obtain ⟨x, hx⟩ : ∃ x, L[i] = x := ⟨_, rfl⟩
          have hxm : x ∈ L := by rw [← hx]; exact List.getElem_mem _
          obtain ⟨Si, hSi⟩ : ∃ Si, addS b S (L.take i) = Si := ⟨_, rfl⟩
          have HSTEP := Lib.hid (show addS b S (L.take (i + 1)) = upd Si x.1 (Si x.1 + b * x.2) by rw [List.take_succ_eq_append_getElem hlt, addS_snoc, hx, hSi])
          have hSx : Si x.1 = S x.1 := by
            rw [← hSi]
            refine addS_out b _ _ _ fun hm => ?_
            have hnd := HO.out.nod
            rw [List.nodup_iff_pairwise_ne] at hnd
            obtain ⟨y, hy, hye⟩ := List.mem_map.1 hm
            obtain ⟨j, hj, hjy⟩ := List.getElem_of_mem hy
            rw [List.length_take] at hj
            rw [List.getElem_take] at hjy
            have hp2 := List.pairwise_iff_getElem.1 hnd j i (by simp; omega) (by simpa using hlt) (by omega)
            simp only [List.getElem_map] at hp2
            rw [hjy, hx] at hp2
            exact hp2 hye
          have hfit := HO.out.fit x hxm
          have hok := HO.out.sh x hxm
          rw [← hSx] at hfit
          have hk' : IsLed wq g b1 b2 (n + line.length + i) Si Cn := by rw [← hSi]; exact hk.out
          rw [hx] at l0 l1 l2 l3 l4
          have HT2 := Lib.hid ht.out
          have hlti : (i : Int) < (L.length : Int) := by omega
          have hnn : n + line.length + i < maxLen := by omega
          clear hSx hx hxm hSi hk ht
          obtain ⟨⟨p, ⟨m, r⟩, t⟩, v⟩ := x
          obtain ⟨hpl, hv0, hv1⟩ := hok
          simp only at l0 l1 l2 l3 l4 hfit hpl hv0 hv1 HSTEP
          have HBX := Lib.hid ((Below.refl wq.heap.size wq).alloc (Nat.le_refl _) (.cells #[.string p, .int .i64 m, .int .i64 r, .string t, .int .i64 v] 137))
          have HKX := Lib.hid (hk'.below HBX.out).toH
          have HNW := Lib.hid (heap_alloc_new wq (.cells #[.string p, .int .i64 m, .int .i64 r, .string t, .int .i64 v] 137))
          have HTX := Lib.hid (HT2.out.then_below HBX.out)
          clear HBX
          go_upto_region 10 with fail
          obtain ⟨q, hq⟩ : ∃ q, wq.heap.size = q := ⟨_, rfl⟩
          rw [hq] at HNW ⊢
          generalize hwx : wq.alloc (.cells #[.string p, .int .i64 m, .int .i64 r, .string t, .int .i64 v] 137) = wx at HKX HNW HTX ⊢
          have HB1Q := Lib.hid (show b1 ≠ q from fun e => by have := hk'.sums.lt; omega)
          obtain ⟨z, hz⟩ : ∃ z, Si (p, (m, r), t) = z := ⟨_, rfl⟩
          have HZ := Lib.hid hz
          rw [hz] at hfit HSTEP
          have HFIT := Lib.hid hfit
          obtain ⟨h1, h2⟩ := hfit
          have hbv : -9223372036854775808 ≤ b * v ∧ b * v ≤ 9223372036854775807 := by rcases HO.out.by1 with e | e <;> subst e <;> omega
          have hm1 : wrap64 (b * v) = b * v := by unfold wrap64; omega
          have hm2 : IntKind.i64.wrap (b * v) = b * v := by rw [IntKind.wrap_i64]; omega
          have hm3 : wrap64 (z + b * v) = z + b * v := by unfold wrap64; omega
          have hm4 : IntKind.i64.wrap (z + b * v) = z + b * v := by rw [IntKind.wrap_i64]; omega
          clear hwx hq hk' hz h1 h2 hbv l0 l1 l2 l3 l4
          go_cut [] (fun wy => LedH wy g b1 b2 (n + line.length + i + 1) (upd Si (p, (m, r), t) (z + b * v)) Cn (upd (fun x => decide (Si x ≠ 0)) (p, (m, r), t) true) ∧ wy.heap[q]? = some (.cells #[.string p, .int .i64 m, .int .i64 r, .string t, .int .i64 v] 137 (0, 0)) ∧ Turn (mapB b1 b2) wx wy)
          case first =>
            have kd := HKX.out.below (Below.refl wx.heap.size wx).drew
            obtain ⟨v0, st, w1, w3, r1, r2, r3, r4, r5, r6, r7, r8⟩ := kd.entry hpl (v := z + b * v) HFIT.out hnn
            rw [HZ.out] at r3
            have hlk := kd.look hpl 0
            rw [HZ.out] at hlk
            have hlk' : (Instr.lookup 74 (.map (some b1)) (.agg #[.string p, .int .i64 m, .int .i64 r, .string t]) false).run Tryz.prog wx.drew = .ok (.int .i64 z) wx.drew := hlk
            have g0 := kd.g0
            have x0 : wx.cell? ⟨q, 0, none⟩ = some (.string p) := cell_of_row _ _ _ _ _ _ HNW.out
            have x1 : wx.cell? ⟨q, 1, none⟩ = some (.int .i64 m) := cell_of_row _ _ _ _ _ _ HNW.out
            have x2 : wx.cell? ⟨q, 2, none⟩ = some (.int .i64 r) := cell_of_row _ _ _ _ _ _ HNW.out
            have x3 : wx.cell? ⟨q, 3, none⟩ = some (.string t) := cell_of_row _ _ _ _ _ _ HNW.out
            have x4 : wx.cell? ⟨q, 4, none⟩ = some (.int .i64 v) := cell_of_row _ _ _ _ _ _ HNW.out
            have R6 := Lib.hid r6
            have R7 := Lib.hid r7
            have R8 := Lib.hid r8
            clear hlk kd r6 r7 r8 r2
            go_region_law fail
            all_goals (go_wp2_with fail; go_meet; exact ⟨R6.out, (R7.out.block q (Array.getElem?_eq_some_iff.1 HNW.out).1 (fun e => HB1Q.out (Option.some.inj e).symm)).trans HNW.out, (Turn.refl _ wx).drew.trans (R8.out.mono fun j _ hj => .inl hj)⟩)
          case rest =>
            obtain ⟨k2, hq2, t2⟩ := hcut
            rename World => wy
            have K2 := Lib.hid k2
            have HT3 := Lib.hid (HTX.out.trans (t2.mono fun j _ hj => .inl hj))
            have HQ2 := Lib.hid hq2
            have g0 := k2.g0
            have x0 : wy.cell? ⟨q, 0, none⟩ = some (.string p) := cell_of_row _ _ _ _ _ _ hq2
            have x1 : wy.cell? ⟨q, 1, none⟩ = some (.int .i64 m) := cell_of_row _ _ _ _ _ _ hq2
            have x2 : wy.cell? ⟨q, 2, none⟩ = some (.int .i64 r) := cell_of_row _ _ _ _ _ _ hq2
            have x3 : wy.cell? ⟨q, 3, none⟩ = some (.string t) := cell_of_row _ _ _ _ _ _ hq2
            have hlk := fun j => k2.look hpl j
            rw [upd_same] at hlk
            obtain ⟨y, hy⟩ : ∃ y, z + b * v = y := ⟨_, rfl⟩
            rw [hy] at hlk HSTEP K2
            clear k2 hq2 t2 hm1 hm2 hm3 hm4 hy HFIT
            by_cases h0 : y = 0
            · subst h0
              go_wp2
              go_quiet (fail)
              go_wp2
              obtain ⟨w5, d1, d2, d3⟩ := (K2.out.drewN (nq + 1)).drop hpl 0
              have D2 := Lib.hid d2
              have D3 := Lib.hid d3
              clear d2 d3 hlk
              have HFIN := Lib.hid (D2.out.led (by rw [upd_upd]) (by rw [upd_del]))
              go_region_law fail
              all_goals (
                go_wp2
                go_roundw
                case rel => exact ⟨i + 1, by go_num, hlt, by rw [HSTEP.out]; exact HFIN.out, (HT3.out.drewN _).trans (D3.out.mono fun j _ hj => .inl hj)⟩
                case measure => simp [intOf]; omega)
            · have e1 : (y == 0) = false := by simpa using h0
              have HFIN := Lib.hid (K2.out.led rfl (upd_put Si (p, (m, r), t) h0))
              clear h0
              go_wp2
              go_quiet (fail)
              go_wp2
              go_roundw
              case rel => exact ⟨i + 1, by go_num, hlt, by rw [HSTEP.out]; exact HFIN.out.below (below_drewN (Below.refl _ _) _), HT3.out.drewN _⟩
              case measure => simp [intOf]; omega
        · have hge : ¬ ((i : Int) < (L.length : Int)) := by omega
          have hk2 := hk.out
          rw [List.take_of_length_le (by omega)] at hk2
          have HK2 := Lib.hid (show IsLed wq g b1 b2 (n + line.length + L.length) (addS b S L) Cn by
            have e : i = L.length := by omega
            rw [e] at hk2; exact hk2)
          have HT2 := Lib.hid ht.out
          clear hk ht hk2
          go_wp2
          go_end0
          exact ⟨rfl, by rw [HCN.out]; exact HK2.out, HT.out.trans (HT2.out.mono fun j _ hj => .inl hj)⟩
end Go.Proofs.YtalkdddeiebfmaaGreatDoor
/- label.above, label.Line. -/
namespace Go.Proofs.YtalkdddeiebfmaaGreatDoor
open Go.RowKit

theorem last_slash (a x : List UInt8) (hx : (47 : UInt8) ∉ x) : Lib.lastIndexByte (mkB (a ++ 47 :: x)) 47 = a.length := by
  have hsz : (mkB (a ++ 47 :: x)).size = a.length + (x.length + 1) := by rw [← data_len, mkB_data]; simp
  have hget : ∀ j, j < a.length + (x.length + 1) → (mkB (a ++ 47 :: x)).data[j]! = (a ++ 47 :: x)[j]! := fun j hj => by simp [mkB]
  have hbehind : ∀ j, a.length < j → j < a.length + (x.length + 1) → (((mkB (a ++ 47 :: x)).data[j]!).toNat : Int) ≠ 47 := fun j h1 h2 e => by
    rw [hget j h2] at e
    have hj : j < (a ++ 47 :: x).length := by simp; omega
    rw [getElem!_pos _ j hj] at e
    have e2 : (a ++ 47 :: x)[j] = x[j - a.length - 1]'(by omega) := by
      rw [List.getElem_append_right (by omega), List.getElem_cons, dif_neg (by omega)]
    have : (a ++ 47 :: x)[j] = 47 := UInt8.toNat_inj.1 (by simpa using (by exact_mod_cast e : (a ++ 47 :: x)[j].toNat = 47))
    exact hx (by rw [← this, e2]; exact List.getElem_mem _)
  have hat : (((mkB (a ++ 47 :: x)).data[a.length]!).toNat : Int) = 47 := by
    rw [hget _ (by omega), getElem!_pos _ _ (by simp)]
    simp
  rcases Lib.lastIndexByte_spec (mkB (a ++ 47 :: x)) 47 with ⟨_, h⟩ | ⟨i, hi, e, hc, hn⟩
  · exact absurd hat (h a.length (by omega))
  · rw [e]
    rw [hsz] at hi hn
    rcases Nat.lt_trichotomy i a.length with h | h | h
    · exact absurd hat (hn a.length h (by omega))
    · rw [h]
    · exact absurd hc (hbehind i h hi)
theorem joinP_step {ns : List (List UInt8)} {k : Nat} (hk : k < ns.length) : joinP (ns.take (k + 1)) = joinL (ns.take k) ++ 47 :: ns[k] := by
  rw [List.take_succ_eq_append_getElem hk, joinP_ne (fun e => by have h2 := congrArg List.length e; rw [List.length_append] at h2; simp only [List.length_singleton, List.length_nil] at h2; omega), joinL_append, joinL_cons]
  simp [joinL]
theorem above_is {ns : List (List UInt8)} {k : Nat} (hk : k < ns.length) (m : Nat) (hm : m = max 1 (joinL (ns.take k)).length) : (mkB (joinP (ns.take (k + 1)))).extract 0 m = mkB (joinP (ns.take k)) := by
  apply bytes_inj
  rw [extract_data, mkB_data, mkB_data, List.drop_zero, joinP_step hk, hm]
  by_cases h0 : ns.take k = []
  · rw [h0]; simp [joinL, joinP]
  · have h1 : 1 ≤ (joinL (ns.take k)).length := by
      cases hc : ns.take k with
      | nil => exact absurd hc h0
      | cons x xs => rw [joinL_cons]; simp
    rw [Nat.max_eq_right h1, joinP_ne h0, List.take_left]
theorem above_any {ns : List (List UInt8)} {k : Nat} (hk : k < ns.length) (hn : ns.all nameL = true) (h64 : (joinP ns).length ≤ 64) (w : World) :
    Calls Tryz.prog 57 #[.string (mkB (joinP (ns.take (k + 1))))] w fun e w' => e = .returned (.string (mkB (joinP (ns.take k)))) ∧ w = w' := by
  have hx : (47 : UInt8) ∉ ns[k] := nameL_no (List.all_eq_true.1 hn _ (List.getElem_mem _))
  have hli := last_slash (joinL (ns.take k)) ns[k] hx
  rw [← joinP_step hk] at hli
  have hle := joinP_le ns (k + 1) h64
  have hsz : (mkB (joinP (ns.take (k + 1)))).size = (joinP (ns.take (k + 1))).length := by rw [← data_len, mkB_data]
  have hl2 : (joinL (ns.take k)).length < (joinP (ns.take (k + 1))).length := by rw [joinP_step hk]; simp
  obtain ⟨j, hj⟩ : ∃ j, (joinL (ns.take k)).length = j := ⟨_, rfl⟩
  have hab := fun m hm => above_is hk m hm
  rw [hj] at hli hl2 hab
  obtain ⟨s, hs⟩ : ∃ s, mkB (joinP (ns.take (k + 1))) = s := ⟨_, rfl⟩
  obtain ⟨t, ht⟩ : ∃ t, mkB (joinP (ns.take k)) = t := ⟨_, rfl⟩
  rw [hs, ht] at hab
  rw [hs] at hli hsz ⊢
  rw [ht]
  have HC := Lib.hid (Tryz.strings_LastIndex_one s ⟨#[47]⟩ rfl (by omega) w)
  have e1 : ((⟨#[47]⟩ : ByteArray)[0]'(by decide)).toNat = 47 := rfl
  have HL := Lib.hid hli
  have HA := Lib.hid hab
  have hss : j < s.size := by omega
  clear hs ht hli hab hle hsz hl2 hj hx
  have hmx : max (1 : Int) (j : Int) = ((max 1 j : Nat) : Int) := by omega
  have hmx2 : max 1 j ≤ s.size := by omega
  go_enter Tryz.func57, Tryz.ntmps57
  go_wp2_with (go_at_call 82; refine HC.out.mono ?_; rintro e w1 ⟨rfl, rfl⟩; rw [show Lib.lastIndexByte s (((⟨#[47]⟩ : ByteArray)[0]'(by decide)).toNat : Int) = (j : Int) from HL.out])
  rw [HA.out _ rfl]
  go_ret
  exact ⟨rfl, rfl⟩
def sliceLen : Value → Nat
  | .slice _ n _ => n
  | _ => 0
def LinePost (p : ByteArray) (w : World) (e : Ending) (w' : World) : Prop :=
  ∃ A c, e = .returned (.tuple #[.slice A (lineB p).length c, .int .i64 (errPath p)]) ∧ Own Kn.str 9 w.heap.size (fun _ => False) w' (.slice A (lineB p).length c) (lineB p) ∧ Below w.heap.size w w'
set_option maxRecDepth 100000 in
set_option maxHeartbeats 1000000 in
theorem line_any (p : ByteArray) (w : World) (hml : Ml w) : Calls Tryz.prog 52 #[.string p] w (LinePost p w) := by
  rcases errPath_cases p with ⟨hp, ep⟩ | ⟨hp, ep⟩
  · have PO := pathOk hp
    have hP64 : (joinP (nm p)).length ≤ 64 := by rw [← PO.text, data_len]; exact PO.short
    have hfew := PO.few
    have hnames := PO.names
    have hpt : p = mkB (joinP (nm p)) := by rw [← PO.text]; exact (data_mkB p).symm
    have hfin : ∀ (T : List ByteArray) A c w', T = lineTo (nm p) (nm p).length → Own Kn.str 9 w.heap.size (fun _ => False) w' (.slice A T.length c) T → Below w.heap.size w w' → LinePost p w (.returned (.tuple #[.slice A T.length c, .int .i64 0])) w' := fun T A c w' hT ho hb => by
      have e : lineB p = T := by unfold lineB; rw [if_pos hp, hT]
      unfold LinePost
      rw [e, ep]
      exact ⟨A, c, rfl, ho, hb⟩
    obtain ⟨ns, hns⟩ : ∃ ns, nm p = ns := ⟨_, rfl⟩
    rw [hns] at hfin hnames hfew hP64 hpt
    have HF := Lib.hid hfin
    have HP := Lib.hid ep
    have hfull : joinP (ns.take ns.length) = joinP ns := by rw [List.take_length]
    have HFULL := Lib.hid (show p = mkB (joinP (ns.take ns.length)) by rw [hfull]; exact hpt)
    clear hfin PO hp ep hns hpt hfull
    go_enter Tryz.func52, Tryz.ntmps52
    go_wp2_with (go_at_call 56; refine (path_any _ _ hml).mono ?_; rintro e w1 ⟨rfl, hb1⟩; rw [HP.out]; have HB1 := Lib.hid hb1; clear hb1)
    have HO1 := Lib.hid (show Own Kn.str 9 w1.heap.size (fun _ => False) (w1.alloc (.cells #[.string p] 9)) (.slice (some ⟨w1.heap.size, 0, none⟩) 1 1) [p] from
      ⟨[.string p], ⟨rfl, .inr ⟨w1.heap.size, 1, #[.string p], rfl, Nat.le_refl _, heap_alloc_new w1 _, Nat.le_refl _, by unfold maxLen; omega, rfl, rfl⟩⟩, Flat.single rfl⟩)
    have HB2 := Lib.hid ((Below.refl w1.heap.size w1).alloc (Nat.le_refl _) (.cells #[.string p] 9))
    have HFULL2 := Lib.hid (show mkB (joinP (ns.take ns.length)) = p from HFULL.out.symm)
    have hq : p = mkB (joinP (ns.take ns.length)) := HFULL.out
    go_loopw [0, 5] (fun pv lv wr => ∃ (k n m : Nat) (A : Option Addr) (T : List ByteArray), pv = .string (mkB (joinP (ns.take k))) ∧ lv = .slice A m n ∧ k ≤ ns.length ∧ m = ns.length - k + 1 ∧ T.length = ns.length - k ∧ Hid (Own Kn.str 9 w1.heap.size (fun _ => False) wr (.slice A m n) (T ++ [mkB (joinP (ns.take k))])) ∧ Hid (Below w1.heap.size w1 wr) ∧ Hid (T ++ lineTo ns k = lineTo ns ns.length)) (fun _ lv _ => 16 - sliceLen lv)
    case atStart =>
      refine ⟨ns.length, 1, 1, some ⟨w1.heap.size, 0, none⟩, [], by rw [← hq], rfl, Nat.le_refl _, by omega, by simp, ?_, HB2.out, by simp [Hid]⟩
      rw [List.nil_append, ← hq]; exact HO1.out
    case round =>
      clear HFULL HFULL2 hq HO1 HB2
      obtain ⟨k, n, m, A, T, rfl, rfl, hk, hm, hT, hown, hbr, HT⟩ := hrel
      obtain ⟨wo, rfl⟩ : ∃ wo, wo = wr := ⟨_, rfl⟩
      have hsz := hbr.out.size
      cases k with
      | zero =>
        have e1 : ((mkB (joinP (ns.take 0))).toList == [47]) = true := by rw [List.take_zero, toList_eq, mkB_data]; rfl
        have e2 : (mkB (joinP (ns.take 0))).toList = [47] := by rw [List.take_zero, toList_eq, mkB_data]; rfl
        have hl : m = (T ++ [mkB (joinP (ns.take 0))]).length := by rw [List.length_append, List.length_singleton]; omega
        have hf := Lib.hid (show LinePost p w (.returned (.tuple #[.slice A m n, .int .i64 0])) wo from by
          have h1 := HF.out (T ++ [mkB (joinP (ns.take 0))]) A n wo (by rw [← HT.out]; rfl) (by rw [← hl]; exact hown.out.lower HB1.out.size) (HB1.out.trans (hbr.out.mono HB1.out.size))
          rw [← hl] at h1; exact h1)
        obtain ⟨s, hs⟩ : ∃ s, mkB (joinP (ns.take 0)) = s := ⟨_, rfl⟩
        rw [hs] at e1 e2 ⊢
        clear hs hown HT hm hT hl
        go_wp2
        go_ret2
        exact hf.out
      | succ k =>
        have hkn : k < ns.length := by omega
        have hlen : ¬ (joinP (ns.take (k + 1))) = [47] := by
          rw [joinP_step hkn]
          intro e
          have h1 := congrArg List.length e
          have h2 := List.all_eq_true.1 hnames _ (List.getElem_mem hkn)
          unfold nameL at h2
          simp only [Bool.and_eq_true, decide_eq_true_eq] at h2
          rw [List.length_append, List.length_cons, List.length_singleton] at h1
          omega
        have e2 : ¬ (mkB (joinP (ns.take (k + 1)))).toList = [47] := by rw [toList_eq, mkB_data]; exact hlen
        have e1 : ((mkB (joinP (ns.take (k + 1)))).toList == [47]) = false := by simpa using e2
        have HC := Lib.hid (above_any hkn hnames hP64 wo)
        have hl2 : (T ++ [mkB (joinP (ns.take (k + 1)))]).length = m := by rw [List.length_append, List.length_singleton]; omega
        have h16 : ((T ++ [mkB (joinP (ns.take (k + 1)))]).length + 1) * 16 ≤ 140737488355328 := by omega
        have HT2 := Lib.hid (show (T ++ [mkB (joinP (ns.take (k + 1)))]) ++ lineTo ns k = lineTo ns ns.length by rw [← HT.out, lineTo, List.append_assoc]; rfl)
        obtain ⟨T2, hT2⟩ : ∃ T2, T ++ [mkB (joinP (ns.take (k + 1)))] = T2 := ⟨_, rfl⟩
        obtain ⟨s, hs⟩ : ∃ s, mkB (joinP (ns.take (k + 1))) = s := ⟨_, rfl⟩
        obtain ⟨t, ht⟩ : ∃ t, mkB (joinP (ns.take k)) = t := ⟨_, rfl⟩
        rw [hT2] at hown hl2 h16 HT2
        rw [hs] at e1 e2 HC ⊢
        rw [ht] at HC
        have HTT := Lib.hid ht
        have HL2 := Lib.hid hl2
        have HM := Lib.hid hm
        clear hs hT2 HT hm hT hlen ht hl2
        go_wp2_with (first
          | (go_at_call 57; refine HC.out.mono ?_; rintro e w3 ⟨rfl, rfl⟩)
          | (at_builtin; refine wpList_app_plain strElem Kn.plain_str w1.heap.size rfl (.tmp 17) (.tmp 19) rfl (v := .slice A m n) (xs := T2) (ys := [t]) rfl (hown.out.alloc _) rfl rfl (Row.newOnePlain (cs := [.string t]) Kn.plain_str rfl) (by exact h16) (by simp; omega) ?_; intro A7 c7 w7 happ; rw [HL2.out] at happ ⊢; have HA7 := Lib.hid happ; clear happ))
        go_roundw
        case rel =>
          refine ⟨k, c7, m + 1, A7, T2, by rw [HTT.out], rfl, by omega, ?_, ?_, ?_, ?_, HT2.out⟩
          · have := HM.out; omega
          · have := HL2.out; have := HM.out; omega
          · rw [HTT.out]; exact HA7.out.own
          · exact HA7.out.below (hbr.out.alloc hbr.out.size _) (by rw [heap_size_alloc']; omega) (fun q hq => (hown.out.block_lt q hq).1)
        case measure => have := HM.out; simp [sliceLen]; omega
  · have hf := Lib.hid (fun w' (hb : Below w.heap.size w w') => (show LinePost p w (.returned (.tuple #[.slice none 0 0, .int .i64 41])) w' from by
      have e : lineB p = [] := by unfold lineB; rw [if_neg (by rw [hp]; simp)]
      unfold LinePost
      rw [e, ep]
      exact ⟨none, 0, rfl, Own.nil _ _ _ _ _, hb⟩))
    have HP := Lib.hid ep
    clear hp ep
    go_enter Tryz.func52, Tryz.ntmps52
    go_wp2_with (go_at_call 56; refine (path_any _ _ hml).mono ?_; rintro e w1 ⟨rfl, hb1⟩; rw [HP.out]; have HB1 := Lib.hid hb1; clear hb1)
    go_ret2
    exact hf.out _ HB1.out
end Go.Proofs.YtalkdddeiebfmaaGreatDoor
/- ledger.shares: an object's line and all that it has of sums. -/
namespace Go.Proofs.YtalkdddeiebfmaaGreatDoor
open Go.RowKit

def shOf (p : ByteArray) (s : ScV) (a : Amt) : Sh := ((p, (s.kind, s.arg), a.name), a.val)
def sharesU (line : List ByteArray) (M : List ScV) (U : List Amt) : List Sh := line.flatMap fun p => M.flatMap fun s => U.map (shOf p s)
def usesU (o : ObjV) : List Amt := (usesV o.parts).1.map amtOf
/-- the line, the shares, the refusal -/
def sharesV (o : ObjV) : List ByteArray × List Sh × Int :=
  if isPath o.path = true then (if (usesV o.parts).2 = 0 then (lineB o.path, sharesU (lineB o.path) (ofS o 6) (usesU o), 0) else ([], [], (usesV o.parts).2)) else ([], [], 41)
theorem scopesU_len (p : ByteArray) (M : List ScV) (U : List Amt) : (M.flatMap fun s => U.map (shOf p s)).length = M.length * U.length := by
  induction M with
  | nil => simp
  | cons s M ih => rw [List.flatMap_cons, List.length_append, ih, List.length_map, List.length_cons, Nat.succ_mul]; omega
theorem sharesU_len (line : List ByteArray) (M : List ScV) (U : List Amt) : (sharesU line M U).length = line.length * (M.length * U.length) := by
  unfold sharesU
  induction line with
  | nil => simp
  | cons s M ih => rw [List.flatMap_cons, List.length_append, ih, scopesU_len, List.length_cons, Nat.succ_mul]; omega
theorem sharesU_step {line : List ByteArray} {M : List ScV} {U : List Amt} {i : Nat} (h : i < line.length) : sharesU (line.take (i + 1)) M U = sharesU (line.take i) M U ++ M.flatMap fun s => U.map (shOf line[i] s) := by
  unfold sharesU
  rw [List.take_succ_eq_append_getElem h, List.flatMap_append]
  simp
theorem scopesU_step {p : ByteArray} {M : List ScV} {U : List Amt} {i : Nat} (h : i < M.length) : ((M.take (i + 1)).flatMap fun s => U.map (shOf p s)) = ((M.take i).flatMap fun s => U.map (shOf p s)) ++ U.map (shOf p M[i]) := by
  rw [List.take_succ_eq_append_getElem h, List.flatMap_append]
  simp
theorem usesU_step {p : ByteArray} {s : ScV} {U : List Amt} {i : Nat} (h : i < U.length) : (U.take (i + 1)).map (shOf p s) = (U.take i).map (shOf p s) ++ [shOf p s U[i]] := by
  rw [List.take_succ_eq_append_getElem h, List.map_append]
  rfl
theorem room3 {i j k n q u : Nat} (hi : i < n) (hj : j < q) (hk : k < u) : i * (q * u) + j * u + k + 1 ≤ n * (q * u) := by
  have h1 : (j + 1) * u ≤ q * u := Nat.mul_le_mul_right u hj
  have h2 : (i + 1) * (q * u) ≤ n * (q * u) := Nat.mul_le_mul_right _ hi
  rw [Nat.succ_mul] at h1 h2
  omega
theorem ofS_len6 (o : ObjV) : (ofS o 6).length ≤ 6 := by
  unfold ofS
  exact Nat.le_trans (List.length_filter_le _ _) (by simp)
theorem lineB_len (p : ByteArray) : (lineB p).length ≤ 9 := by
  unfold lineB
  split
  · rename_i h
    rw [lineTo_length]
    have := (pathOk h).few
    omega
  · simp
def SharesPost (o : ObjV) (w : World) (e : Ending) (w' : World) : Prop :=
  ∃ A c B d, e = .returned (.tuple #[.slice A (sharesV o).1.length c, .slice B (sharesV o).2.1.length d, .int .i64 (sharesV o).2.2]) ∧ Own Kn.str 9 w.heap.size (fun _ => False) w' (.slice A (sharesV o).1.length c) (sharesV o).1 ∧
    Own kSh 137 w.heap.size (fun _ => False) w' (.slice B (sharesV o).2.1.length d) (sharesV o).2.1 ∧ Below w.heap.size w w'
theorem SharesPost.mk_ {o : ObjV} {l : List ByteArray} {T : List Sh} {z : Int} (h : sharesV o = (l, T, z)) {w w' : World} {A B : Option Addr} {c d : Nat} (h1 : Own Kn.str 9 w.heap.size (fun _ => False) w' (.slice A l.length c) l)
    (h2 : Own kSh 137 w.heap.size (fun _ => False) w' (.slice B T.length d) T) (hb : Below w.heap.size w w') : SharesPost o w (.returned (.tuple #[.slice A l.length c, .slice B T.length d, .int .i64 z])) w' := by
  unfold SharesPost
  rw [h]
  exact ⟨A, c, B, d, rfl, h1, h2, hb⟩
theorem SharesPost.none {o : ObjV} {z : Int} (h : sharesV o = ([], [], z)) {w w' : World} (hb : Below w.heap.size w w') : SharesPost o w (.returned (.tuple #[.slice none 0 0, .slice none 0 0, .int .i64 z])) w' :=
  SharesPost.mk_ h (Own.nil _ _ _ _ _) (Own.nil _ _ _ _ _) hb
/-- blocks that stay while a list of the call's own grows -/
structure Kept (I : Nat → Prop) (w0 wr : World) (lv : Value) : Prop where
  blk : ∀ k, I k → wr.heap[k]? = w0.heap[k]?
  ne : ∀ k, lv.ownBlock = some k → ¬ I k
  lo : ∀ k, I k → k < w0.heap.size
  sz : w0.heap.size ≤ wr.heap.size
section
variable {I : Nat → Prop} {w0 wr w' : World} {lv lv' : Value} {α : Type} {d : Kn α} {e base : Nat} {R : Nat → Prop} {zs : List α}
theorem Kept.below (h : Kept I w0 wr lv) (hb : Below wr.heap.size wr w') : Kept I w0 w' lv :=
  ⟨fun k hk => (hb.block k (Nat.lt_of_lt_of_le (h.lo k hk) h.sz)).trans (h.blk k hk), h.ne, h.lo, Nat.le_trans h.sz hb.size⟩
theorem Kept.app (h : Kept I w0 wr lv) (ha : Appended d e base R wr w' lv lv' zs) : Kept I w0 w' lv' := by
  have hsz := h.sz
  refine ⟨fun k hk => (ha.grown.block k (Nat.lt_of_lt_of_le (h.lo k hk) h.sz) (fun e => h.ne k e.symm hk)).trans (h.blk k hk), fun k hk hi => ?_, h.lo, Nat.le_trans h.sz ha.grown.size⟩
  rcases ha.at_ with e | e
  · exact h.ne k (e ▸ hk) hi
  · rw [e] at hk
    have := Option.some.inj hk
    have := h.lo k hi
    omega
theorem Kept.row {P : Nat → Prop} {A : Option Addr} {xs : List α} (h : Kept I w0 wr lv) (hr : Row d P w0 A xs) (hp : ∀ k, P k → I k) : Row d P wr A xs := hr.keep fun k hk _ => h.blk k (hp k hk)
end
/-- what shares asks of an object -/
structure UseOk (o : ObjV) : Prop where
  names : NamesOk o.parts
  few : (allB o.parts).length ≤ 1073741824
set_option maxRecDepth 100000 in
set_option maxHeartbeats 2000000 in
theorem shares_any (o : ObjV) (L : Option Addr) (n m : Nat) (B : Option Addr) (c : Nat) (P : Nat → Prop) (w : World) (hml : Ml w) (ht : TextsAt w) (ho : ObjOk w (o.re L n m) B P) (hu : UseOk o) :
    Calls Tryz.prog 41 #[.agg #[.string o.path, .string o.name, .slice L n m, .int .i64 o.prio, .int .i64 o.dl, .slice B o.parts.length c, .int .i64 o.ver]] w (SharesPost o w) := by
  have hb0 := (Below.refl w.heap.size w).alloc (Nat.le_refl _) (.cells #[.string o.path, .string o.name, .slice L n m, .int .i64 o.prio, .int .i64 o.dl, .slice B o.parts.length c, .int .i64 o.ver] 26)
  have hx := OBox.of (heap_alloc_new w (.cells #[.string o.path, .string o.name, .slice L n m, .int .i64 o.prio, .int .i64 o.dl, .slice B o.parts.length c, .int .i64 o.ver] 26))
  obtain ⟨w0, hw0⟩ : ∃ w0, w.alloc (.cells #[.string o.path, .string o.name, .slice L n m, .int .i64 o.prio, .int .i64 o.dl, .slice B o.parts.length c, .int .i64 o.ver] 26) = w0 := ⟨_, rfl⟩
  rw [hw0] at hb0 hx
  obtain ⟨bx, hbx⟩ : ∃ b, w.heap.size = b := ⟨_, rfl⟩
  have HB0 := Lib.hid hb0
  have HML := Lib.hid (hml.below hb0)
  have HTX := Lib.hid (ht.below hb0)
  have HO := Lib.hid (ho.below hb0)
  have HX := Lib.hid hx
  have HN := Lib.hid hu.names
  have HF := Lib.hid hu.few
  have hp0 := hx.c0
  clear hml ht ho hx hb0 hbx hu
  have hlp := line_any o.path w0 HML.out
  unfold LinePost at hlp
  rcases errPath_cases o.path with ⟨hp, ep⟩ | ⟨hp, ep⟩
  · rw [ep] at hlp
    obtain ⟨line, hline⟩ : ∃ l, lineB o.path = l := ⟨_, rfl⟩
    have hl9 := lineB_len o.path
    rw [hline] at hlp hl9
    have HLP := Lib.hid hlp
    obtain ⟨eu, heu⟩ : ∃ e, (usesV o.parts).2 = e := ⟨_, rfl⟩
    obtain ⟨U, hU⟩ : ∃ U, usesU o = U := ⟨_, rfl⟩
    obtain ⟨u, hul⟩ : ∃ u, U.length = u := ⟨_, rfl⟩
    have hu30 : u ≤ 1073741825 := by
      have h1 := usesV_len o.parts
      have h2 := HF.out
      rw [← hul, ← hU]
      unfold usesU
      rw [List.length_map]
      omega
    have HU := Lib.hid (show (usesV o.parts).1.map amtOf = U from hU)
    have HUL := Lib.hid hul
    have HEU := Lib.hid heu
    have HSV := Lib.hid (show sharesV o = if eu = 0 then (line, sharesU line (ofS o 6) U, 0) else ([], [], eu) by unfold sharesV; rw [if_pos hp, heu, hline, hU])
    clear hlp hp ep hline heu hU hul
    go_enter Tryz.func41, Tryz.ntmps41
    go_upto_region 4 with (go_at_call 52; refine HLP.out.mono ?_; rintro e w1 ⟨A1, c1, rfl, ho1, hb1⟩; have HO1 := Lib.hid ho1; have HB1 := Lib.hid hb1; clear ho1 hb1)
    obtain ⟨-, r0, r1, r2, r3, r4, r5, r6, -⟩ := HX.out.below HB1.out
    clear hp0 hw0
    have hTT : (allB o.parts).length ≤ 1099511627776 := by have := HF.out; omega
    go_upto_region 5 with (go_at_call 29; refine (uses_own o U u eu HU HUL.out HEU HN.out hTT L n m B c P _ (HO.out.below HB1.out)).mono ?_; rintro e w2 ⟨A2, c2, rfl, ho2, hb2⟩; have HO2 := Lib.hid ho2; have HB2 := Lib.hid hb2; clear ho2 hb2)
    have HB02 := Lib.hid (HB1.out.trans (HB2.out.mono HB1.out.size))
    clear r0 r1 r2 r3 r4 r5 r6 hTT
    by_cases he : eu = 0
    · subst he
      have hsv := HSV.out
      rw [if_pos rfl] at hsv
      obtain ⟨M, hM⟩ : ∃ M, ofS o 6 = M := ⟨_, rfl⟩
      have hq6 := ofS_len6 o
      rw [hM] at hsv hq6
      obtain ⟨q, hq⟩ : ∃ q, M.length = q := ⟨_, rfl⟩
      rw [hq] at hq6
      have HMQ := Lib.hid hq
      have HM := Lib.hid hM
      have HS2 := Lib.hid hsv
      obtain ⟨l1, hl1⟩ : ∃ l, line.length = l := ⟨_, rfl⟩
      have HL1 := Lib.hid hl1
      have HO1' := Lib.hid (HO1.out.below HB2.out)
      have htot : l1 * (q * u) ≤ 57982058550 := by
        have h1 : q * u ≤ 6 * 1073741825 := Nat.mul_le_mul hq6 hu30
        have h2 : l1 * (q * u) ≤ 9 * (6 * 1073741825) := Nat.mul_le_mul (by omega) h1
        omega
      have HTOT := Lib.hid (show ∀ i j k, i < l1 → j < q → k < u → i * (q * u) + j * u + k + 1 ≤ 57982058550 from fun i j k hi hj hk => Nat.le_trans (room3 hi hj hk) htot)
      rw [hl1] at hl9 HO1' ⊢
      have HOO := Lib.hid (HO.out.below HB02.out)
      have HXX := Lib.hid (HX.out.below HB02.out)
      have HTX2 := Lib.hid (HTX.out.below HB02.out)
      clear hsv hM hq hl1 HSV HO1 HEU htot
      go_wp2
      have HR1 := Lib.hid (show Row Kn.str (fun _ => True) w2 A1 line from HO1'.out.row'.2.1)
      have HR2 := Lib.hid (show Row kAmt (fun _ => True) w2 A2 U from HO2.out.row'.2.1)
      go_loopw [8, 33] (fun lv iv wr => ∃ (i n1 : Nat) (B1 : Option Addr) (T : List Sh), iv = .int .i64 i ∧ lv = .slice B1 T.length n1 ∧ i ≤ l1 ∧ Hid (Own kSh 137 w2.heap.size (fun _ => False) wr (.slice B1 T.length n1) T) ∧ Hid (Below w2.heap.size w2 wr) ∧ Hid (T = sharesU (line.take i) M U)) (fun _ iv _ => l1 - (intOf iv).toNat)
      case atStart => exact ⟨0, 0, none, [], rfl, rfl, Nat.zero_le _, Own.nil _ _ _ _ _, Below.refl _ _, by simp [Hid, sharesU]⟩
      case round =>
        obtain ⟨i, n1, B1, T0, rfl, rfl, hi, hown, hbr, hT⟩ := hrel
        obtain ⟨w4, rfl⟩ : ∃ w4, w4 = wr := ⟨_, rfl⟩
        have hs4 := hbr.out.size
        by_cases hlt : i < l1
        · have hltx : i < line.length := by rw [HL1.out]; exact hlt
          obtain ⟨a, rfl, x0⟩ := row_str_at (HR1.out.below hbr.out) i hltx
          obtain ⟨p, hp⟩ : ∃ p, line[i] = p := ⟨_, rfl⟩
          rw [hp] at x0
          have HSTEP := Lib.hid (show sharesU (line.take (i + 1)) M U = T0 ++ M.flatMap fun s => U.map (shOf p s) by rw [sharesU_step hltx, hp, hT.out])
          have hT0 : T0.length = i * (q * u) := by
            rw [hT.out, sharesU_len, List.length_take, HMQ.out, HUL.out, Nat.min_eq_left (by omega)]
          have HT0 := Lib.hid hT0
          obtain ⟨-, r0, r1, r2, r3, r4, r5, r6, -⟩ := HXX.out.below hbr.out
          have hlti : (i : Int) < (l1 : Int) := by omega
          clear hp hT hT0
          go_upto_region 12 with (go_at_call 53; refine (of_own o M q HM HMQ.out L n m B c P _ (HOO.out.below hbr.out) (HTX2.out.below hbr.out)).mono ?_; rintro e w5 ⟨A5, c5, rfl, ho5, hb5⟩; have HO5 := Lib.hid ho5; have HB5 := Lib.hid hb5; clear ho5 hb5)
          have HR5 := Lib.hid (show Row kSc (fun k => w4.heap.size ≤ k ∧ k < w5.heap.size) w5 A5 M by
            obtain ⟨A', c', hv, _, _, h3⟩ := HO5.out.row
            cases hv
            exact h3.mono fun k hk => hk.elim (fun f => f.elim) (fun e => HO5.out.block_lt k e))
          have HKE := Lib.hid (show Kept (fun k => w4.heap.size ≤ k ∧ k < w5.heap.size) w5 w5 (.slice B1 T0.length n1) from ⟨fun _ _ => rfl, fun k hk h => by have := (hown.out.block_lt k hk).2; omega, fun k hk => hk.2, Nat.le_refl _⟩)
          have HOW := Lib.hid (hown.out.below HB5.out)
          have HBW := Lib.hid (hbr.out.trans (HB5.out.mono hs4))
          clear hown hbr r0 r1 r2 r3 r4 r5 r6 x0
          go_wp2
          go_loopw [8, 40] (fun lv iv wr => ∃ (j n1 : Nat) (B1 : Option Addr) (T : List Sh), iv = .int .i64 j ∧ lv = .slice B1 T.length n1 ∧ j ≤ q ∧ Hid (Own kSh 137 w2.heap.size (fun _ => False) wr (.slice B1 T.length n1) T) ∧ Hid (Below w2.heap.size w2 wr) ∧ Hid (T = T0 ++ (M.take j).flatMap fun s => U.map (shOf p s)) ∧ Hid (Kept (fun k => w4.heap.size ≤ k ∧ k < w5.heap.size) w5 wr lv)) (fun _ iv _ => q - (intOf iv).toNat)
          case atStart => exact ⟨0, n1, B1, T0, rfl, rfl, Nat.zero_le _, HOW.out, HBW.out, by simp [Hid], HKE.out⟩
          case round =>
            clear HOW HBW HKE
            obtain ⟨j, n1, B1, T1, rfl, rfl, hj, hown, hbr, hT1, hke⟩ := hrel
            obtain ⟨w6, rfl⟩ : ∃ w6, w6 = wr := ⟨_, rfl⟩
            have hs6 := hbr.out.size
            by_cases hltj : j < q
            · have hltm : j < M.length := by rw [HMQ.out]; exact hltj
              obtain ⟨a, rfl, y0, y1⟩ := sc_at (hke.out.row HR5.out (fun _ h => h)) j hltm
              obtain ⟨sc, hsc⟩ : ∃ s, M[j] = s := ⟨_, rfl⟩
              rw [hsc] at y0 y1
              have HSTEPJ := Lib.hid (show (T0 ++ (M.take (j + 1)).flatMap fun s => U.map (shOf p s)) = T1 ++ U.map (shOf p sc) by rw [scopesU_step hltm, hsc, ← List.append_assoc, hT1.out])
              have HT1 := Lib.hid (show T1.length = i * (q * u) + j * u by
                rw [hT1.out, List.length_append, scopesU_len, HT0.out, List.length_take, HUL.out, Nat.min_eq_left (by omega)])
              have hltji : (j : Int) < (q : Int) := by omega
              have hbx := (Below.refl w6.heap.size w6).alloc (Nat.le_refl _) (.cells #[.int .i64 sc.kind, .int .i64 sc.arg] 47)
              have HNB := Lib.hid (heap_alloc_new w6 (.cells #[.int .i64 sc.kind, .int .i64 sc.arg] 47))
              have HOW := Lib.hid (hown.out.below hbx)
              have HBW := Lib.hid (hbr.out.trans (hbx.mono hs6))
              have HKE := Lib.hid (hke.out.below hbx)
              have hsz1 : (w6.alloc (.cells #[.int .i64 sc.kind, .int .i64 sc.arg] 47)).heap.size = w6.heap.size + 1 := by simp
              have HKB := Lib.hid (show Kept (fun k => k = w6.heap.size) (w6.alloc (.cells #[.int .i64 sc.kind, .int .i64 sc.arg] 47)) (w6.alloc (.cells #[.int .i64 sc.kind, .int .i64 sc.arg] 47)) (.slice B1 T1.length n1) from
                ⟨fun _ _ => rfl, fun k hk h => by have := (hown.out.block_lt k hk).2; omega, fun k hk => by have : k = w6.heap.size := hk; omega, Nat.le_refl _⟩)
              obtain ⟨qs, hqs⟩ : ∃ b, w6.heap.size = b := ⟨_, rfl⟩
              rw [hqs] at HNB HKB
              clear hown hbr hke hT1 hsc hbx hsz1
              go_upto_region 14 with fail
              generalize hw7 : w6.alloc (.cells #[.int .i64 sc.kind, .int .i64 sc.arg] 47) = w7 at HNB HOW HBW HKE HKB ⊢
              clear hw7 hqs y0 y1 hs6
              go_wp2
              go_loopw [8, 46] (fun lv iv wr => ∃ (k n1 : Nat) (B1 : Option Addr) (T : List Sh), iv = .int .i64 k ∧ lv = .slice B1 T.length n1 ∧ k ≤ u ∧ Hid (Own kSh 137 w2.heap.size (fun _ => False) wr (.slice B1 T.length n1) T) ∧ Hid (Below w2.heap.size w2 wr) ∧ Hid (T = T1 ++ (U.take k).map (shOf p sc)) ∧ Hid (Kept (fun k => w4.heap.size ≤ k ∧ k < w5.heap.size) w5 wr lv) ∧ Hid (Kept (fun k => k = qs) w7 wr lv)) (fun _ iv _ => u - (intOf iv).toNat)
              case atStart => exact ⟨0, n1, B1, T1, rfl, rfl, Nat.zero_le _, HOW.out, HBW.out, by simp [Hid], HKE.out, HKB.out⟩
              case round =>
                clear HOW HBW HKE HKB
                obtain ⟨k, n1, B1, T2, rfl, rfl, hk, hown, hbr, hT2, hke, hkb⟩ := hrel
                obtain ⟨w8, rfl⟩ : ∃ w8, w8 = wr := ⟨_, rfl⟩
                have hs8 := hbr.out.size
                by_cases hltk : k < u
                · have hltu : k < U.length := by rw [HUL.out]; exact hltk
                  obtain ⟨a, rfl, -, m0, m1⟩ := amt_at (HR2.out.below hbr.out) k hltu
                  obtain ⟨am, ham⟩ : ∃ x, U[k] = x := ⟨_, rfl⟩
                  rw [ham] at m0 m1
                  have HSTEPK := Lib.hid (show (T1 ++ (U.take (k + 1)).map (shOf p sc)) = T2 ++ [shOf p sc am] by rw [usesU_step hltu, ham, ← List.append_assoc, hT2.out])
                  have hroom : (T2.length + 1) * 56 ≤ 140737488355328 := by
                    have h1 := HTOT.out i j k hlt hltj hltk
                    have h2 : T2.length = i * (q * u) + j * u + k := by rw [hT2.out, List.length_append, HT1.out, List.length_map, List.length_take, HUL.out, Nat.min_eq_left (by omega)]
                    rw [h2]; omega
                  have hltki : (k : Int) < (u : Int) := by omega
                  clear ham hT2
                  have hby := (Below.refl w8.heap.size w8).alloc (Nat.le_refl _) (.cells #[.string am.name, .int .i64 am.val] 45)
                  have HBY := Lib.hid hby
                  have HOW := Lib.hid (hown.out.below hby)
                  have HKE := Lib.hid (hke.out.below hby)
                  have HKB := Lib.hid (hkb.out.below hby)
                  have HBW := Lib.hid (hbr.out.trans (hby.mono hs8))
                  have HNA := Lib.hid (heap_alloc_new w8 (.cells #[.string am.name, .int .i64 am.val] 45))
                  obtain ⟨qa, hqa⟩ : ∃ b, w8.heap.size = b := ⟨_, rfl⟩
                  rw [hqa] at HNA HBY
                  have HQA := Lib.hid hqa
                  clear hown hbr hke hkb hby
                  go_upto_region 17 with fail
                  generalize hw9 : w8.alloc (.cells #[.string am.name, .int .i64 am.val] 45) = w9 at HNA HOW HKE HKB HBW HBY ⊢
                  clear hw9 hqa hs8 m0 m1
                  have hqs9 : w9.heap[qs]? = some (.cells #[.int .i64 sc.kind, .int .i64 sc.arg] 47 (0, 0)) := (HKB.out.blk qs rfl).trans HNB.out
                  have z0 : w9.cell? ⟨qs, 0, none⟩ = some (.int .i64 sc.kind) := cell_of_row _ _ _ _ _ _ hqs9
                  have z1 : w9.cell? ⟨qs, 1, none⟩ = some (.int .i64 sc.arg) := cell_of_row _ _ _ _ _ _ hqs9
                  have y0 : w9.cell? ⟨qa, 0, none⟩ = some (.string am.name) := cell_of_row _ _ _ _ _ _ HNA.out
                  have y1 : w9.cell? ⟨qa, 1, none⟩ = some (.int .i64 am.val) := cell_of_row _ _ _ _ _ _ HNA.out
                  have hs9 := HBW.out.size
                  clear hqs9
                  go_wp2_with (at_builtin; refine wpList_app_plain shElem kSh_plain w2.heap.size rfl (.tmp 50) (.tmp 59) rfl (v := .slice B1 T2.length n1) (xs := T2) (ys := [shOf p sc am]) rfl (HOW.out.alloc _) rfl rfl (Row.newOnePlain (cs := Sh.cells (shOf p sc am)) kSh_plain rfl) (by exact hroom) (by simp; omega) ?_; intro A9 c9 w10 happ; have HA9 := Lib.hid happ; clear happ)
                  go_roundw
                  case rel =>
                    have hl : (T2 ++ [shOf p sc am]).length = T2.length + 1 := by rw [List.length_append]; rfl
                    have hb2 := (Below.refl w9.heap.size w9).alloc (Nat.le_refl _) (.cells (Sh.cells (shOf p sc am)).toArray 137)
                    refine ⟨k + 1, c9, A9, T2 ++ [shOf p sc am], by go_num, by rw [hl], hltk, ?_, ?_, HSTEPK.out.symm, (HKE.out.below hb2).app HA9.out, (HKB.out.below hb2).app HA9.out⟩
                    · rw [hl]; exact HA9.out.own
                    · exact HA9.out.below (HBW.out.trans (hb2.mono HBW.out.size)) (by simp; omega) (fun q hq => (HOW.out.block_lt q hq).1)
                  case measure => simp [intOf]; omega
                · have hge : ¬ ((k : Int) < (u : Int)) := by omega
                  have HE := Lib.hid (show T2 = T0 ++ (M.take (j + 1)).flatMap fun s => U.map (shOf p s) by rw [HSTEPJ.out, hT2.out, List.take_of_length_le (by rw [HUL.out]; omega)])
                  have HOW := Lib.hid hown.out
                  have HBW := Lib.hid hbr.out
                  have HKE := Lib.hid hke.out
                  clear hown hbr hke hkb hT2
                  go_wp2
                  go_roundw
                  case rel => exact ⟨j + 1, n1, B1, T2, by go_num, rfl, hltj, HOW.out, HBW.out, HE.out, HKE.out⟩
                  case measure => simp [intOf]; omega
            · have hge : ¬ ((j : Int) < (q : Int)) := by omega
              have HE := Lib.hid (show T1 = sharesU (line.take (i + 1)) M U by rw [HSTEP.out, hT1.out, List.take_of_length_le (by rw [HMQ.out]; omega)])
              have HOW := Lib.hid hown.out
              have HBW := Lib.hid hbr.out
              clear hown hbr hke hT1
              go_wp2
              go_roundw
              case rel => exact ⟨i + 1, n1, B1, T1, by go_num, rfl, hlt, HOW.out, HBW.out, HE.out⟩
              case measure => simp [intOf]; omega
        · have hge : ¬ ((i : Int) < (l1 : Int)) := by omega
          have hE : T0 = sharesU line M U := by rw [hT.out, List.take_of_length_le (by rw [HL1.out]; omega)]
          have hfin := fun e => SharesPost.mk_ (o := o) (l := line) (T := T0) (z := 0) (by rw [HS2.out, hE]) (w := w) (w' := w4) (A := A1) (B := B1) (c := c1) (d := n1) (by rw [HL1.out]; exact (HO1'.out.below hbr.out).lower HB0.out.size) (hown.out.lower e) (HB0.out.trans ((HB02.out.trans (hbr.out.mono HB02.out.size)).mono HB0.out.size))
          rw [HL1.out] at hfin
          have HFIN := Lib.hid (hfin (Nat.le_trans HB0.out.size HB02.out.size))
          clear hown hbr hT hE hfin
          go_wp2
          go_ret3
          exact HFIN.out
    · have hf := Lib.hid (show sharesV o = ([], [], eu) by rw [HSV.out, if_neg he])
      have e1 : (eu != 0) = true := by simpa using he
      clear he
      go_wp2
      go_ret3
      exact SharesPost.none hf.out (HB0.out.trans (HB02.out.mono HB0.out.size))
  · rw [ep] at hlp
    have HLP := Lib.hid hlp
    have HSV := Lib.hid (show sharesV o = ([], [], 41) by unfold sharesV; rw [if_neg (by rw [hp]; simp)])
    clear hlp hp ep
    go_enter Tryz.func41, Tryz.ntmps41
    go_wp2_with (go_at_call 52; refine HLP.out.mono ?_; rintro e w1 ⟨A1, c1, rfl, ho1, hb1⟩; have HB1 := Lib.hid hb1; clear ho1 hb1)
    go_ret3
    exact SharesPost.none HSV.out (HB0.out.trans (HB1.out.mono HB0.out.size))
end Go.Proofs.YtalkdddeiebfmaaGreatDoor
/- What an object has of sums, in plain words. No program in sight. -/
namespace Go.Proofs.YtalkdddeiebfmaaGreatDoor

theorem joinL_lt {ns : List (List UInt8)} (hn : ns.all nameL = true) {i j : Nat} (hij : i < j) (hj : j ≤ ns.length) : (joinP (ns.take i)).length < (joinP (ns.take j)).length := by
  have h1 : ∀ x ∈ ns, 1 ≤ x.length := fun x hx => by
    have h2 := List.all_eq_true.1 hn x hx
    unfold nameL at h2
    simp only [Bool.and_eq_true, decide_eq_true_eq] at h2
    exact h2.1.1.1.1
  have hstep : ∀ k, k < ns.length → (joinP (ns.take k)).length < (joinP (ns.take (k + 1))).length := fun k hk => by
    rw [joinP_step hk, List.length_append, List.length_cons]
    have := h1 _ (List.getElem_mem hk)
    by_cases h0 : ns.take k = []
    · rw [h0]; simp [joinP, joinL]; omega
    · rw [joinP_ne h0]; omega
  induction j with
  | zero => omega
  | succ j ih =>
    rcases Nat.lt_or_ge i j with h | h
    · exact Nat.lt_trans (ih h (by omega)) (hstep j (by omega))
    · have : i = j := by omega
      subst this; exact hstep i (by omega)
theorem lineTo_lt {ns : List (List UInt8)} (hn : ns.all nameL = true) : ∀ k, k ≤ ns.length → (lineTo ns k).Pairwise (fun a b => b.size < a.size)
  | 0, _ => by simp [lineTo]
  | k + 1, hk => by
    unfold lineTo
    refine List.pairwise_cons.2 ⟨fun b hb => ?_, lineTo_lt hn k (by omega)⟩
    obtain ⟨j, hj, rfl⟩ := (mem_lineTo ns b k).1 hb
    rw [← data_len, ← data_len, mkB_data, mkB_data]
    exact joinL_lt hn (by omega) hk
theorem lineB_nodup (p : ByteArray) : (lineB p).Nodup := by
  unfold lineB
  split
  · rename_i h
    exact (lineTo_lt (pathOk h).names _ (Nat.le_refl _)).imp fun h e => by rw [e] at h; omega
  · exact List.nodup_nil
theorem lineB_path {p q : ByteArray} (h : q ∈ lineB p) : isPath q = true ∧ q.size ≤ 64 := by
  unfold lineB at h
  split at h
  · rename_i hp
    have PO := pathOk hp
    have h64 : (joinP (nm p)).length ≤ 64 := by rw [← PO.text, data_len]; exact PO.short
    obtain ⟨j, hj, rfl⟩ := (mem_lineTo _ q _).1 h
    have hp : isPath (mkB (joinP ((nm p).take j))) = true := by
      unfold isPath
      rw [mkB_data, pathL_join (by rw [List.length_take]; have := PO.few; omega) (joinP_le _ _ h64) (names_take _ PO.names)]
      rfl
    exact ⟨hp, (pathOk hp).short⟩
  · cases h
theorem ofS_nodup (o : ObjV) : (ofS o 6).Nodup := by
  unfold ofS
  rw [List.nodup_iff_pairwise_ne]
  refine List.Pairwise.filter _ ?_
  rw [List.pairwise_map]
  refine (List.nodup_iff_pairwise_ne.1 (List.nodup_range (n := 6))).imp ?_
  intro a b h e
  apply h
  have : (a : Int) = b := congrArg ScV.kind e
  omega
theorem ofS_in {o : ObjV} {s : ScV} (h : s ∈ ofS o 6) : in64 s.kind ∧ in64 s.arg ∧ validS s = true := by
  unfold ofS at h
  obtain ⟨h1, h2⟩ := List.mem_filter.1 h
  obtain ⟨k, hk, rfl⟩ := List.mem_map.1 h1
  have hk6 : k < 6 := by simpa using hk
  have hv : validS (scopeK o.prio k) = true := by
    unfold inS at h2
    rw [Bool.and_eq_true] at h2
    exact h2.1
  refine ⟨by unfold scopeK in64; simp only; omega, ?_, hv⟩
  unfold scopeK at hv ⊢
  unfold validS at hv
  unfold in64
  simp only at hv ⊢
  by_cases h5 : k = 5
  · subst h5
    simp at hv
    rw [if_pos rfl]; omega
  · rw [if_neg h5]; omega
theorem uses_key {ps : List PartV} (hn : NamesOk ps) : ∀ p ∈ (usesV ps).1, p.1.length ≤ maxLen := by
  intro p hp
  have hall : ∀ a ∈ allA ps, a.1.length ≤ maxLen := fun a ha => by
    rw [← allB_kv] at ha
    obtain ⟨b, hb, rfl⟩ := List.mem_map.1 ha
    have := (allB_ok hn b hb).name
    simp only [kvOf]
    rw [data_len]; exact this
  have key : ∀ S, S = sumsU sums0 (allA ps) → p ∈ S → p.1.length ≤ maxLen := fun S hS hpS => by
    have : p.1 ∈ S.map Prod.fst := List.mem_map.2 ⟨p, hpS, rfl⟩
    rw [hS] at this
    rcases (keys_sumsU _ _ _).1 this with h | h
    · have : p.1 = countK := by simpa [sums0] using h
      rw [this]; decide
    · obtain ⟨a, ha, e⟩ := List.mem_map.1 h
      rw [← e]; exact hall a ha
  rcases usesIs ps with ⟨h', e⟩ | ⟨h', x, hx, e⟩ | ⟨h', hx, e⟩
  · rw [e] at hp; cases hp
  · rw [e] at hp; cases hp
  · rw [e] at hp; exact key _ rfl hp
theorem uses_val {ps : List PartV} (h : (usesV ps).2 = 0) : ∀ p ∈ (usesV ps).1, 0 ≤ p.2 ∧ p.2 ≤ 9223372036854775807 := by
  intro p hp
  have hs := sumOf h
  have hg := getK_mem hs.asc p hp
  have h1 := hs.val p.1
  have h2 := hs.le p.1
  have h3 := totK_pos (x := p.1) hs.pos
  rw [hg] at h1 h2
  refine ⟨?_, h2⟩
  rw [h1]
  split <;> omega
theorem usesU_names {o : ObjV} (h : (usesV o.parts).2 = 0) : ((usesU o).map Amt.name).Nodup := by
  unfold usesU
  rw [List.map_map, List.nodup_iff_pairwise_ne, List.pairwise_map]
  refine (sumOf h).asc.imp ?_
  intro a b hab e
  have : a.1 = b.1 := by simpa [amtOf] using e
  rw [this] at hab
  exact List.lt_irrefl _ hab
theorem sharesU_mem {line : List ByteArray} {M : List ScV} {U : List Amt} {s : Sh} : s ∈ sharesU line M U ↔ ∃ p ∈ line, ∃ c ∈ M, ∃ a ∈ U, s = shOf p c a := by
  unfold sharesU
  simp only [List.mem_flatMap, List.mem_map]
  constructor
  · rintro ⟨p, hp, c, hc, a, ha, rfl⟩; exact ⟨p, hp, c, hc, a, ha, rfl⟩
  · rintro ⟨p, hp, c, hc, a, ha, rfl⟩; exact ⟨p, hp, c, hc, a, ha, rfl⟩
theorem nodup_flatMap {α β : Type} {f : α → List β} : ∀ {l : List α}, l.Nodup → (∀ a ∈ l, (f a).Nodup) → (∀ a ∈ l, ∀ b ∈ l, a ≠ b → ∀ x ∈ f a, x ∉ f b) → (l.flatMap f).Nodup
  | [], _, _, _ => by simp
  | a :: l, h1, h2, h3 => by
    rw [List.nodup_cons] at h1
    rw [List.flatMap_cons, List.nodup_append]
    refine ⟨h2 a (by simp), nodup_flatMap h1.2 (fun b hb => h2 b (by simp [hb])) (fun b hb c hc => h3 b (by simp [hb]) c (by simp [hc])), fun x hx y hy e => ?_⟩
    subst e
    obtain ⟨b, hb, hxb⟩ := List.mem_flatMap.1 hy
    exact h3 a (by simp) b (by simp [hb]) (fun e => h1.1 (by rw [e]; exact hb)) x hx hxb
theorem sharesU_nodup {line : List ByteArray} {M : List ScV} {U : List Amt} (h1 : line.Nodup) (h2 : M.Nodup) (h3 : (U.map Amt.name).Nodup) : ((sharesU line M U).map Prod.fst).Nodup := by
  unfold sharesU
  rw [List.map_flatMap]
  refine nodup_flatMap h1 (fun p _ => ?_) (fun p _ p' _ hne x hx hx' => ?_)
  · rw [List.map_flatMap]
    refine nodup_flatMap h2 (fun c _ => ?_) (fun c _ c' _ hne x hx hx' => ?_)
    · rw [List.map_map, List.nodup_iff_pairwise_ne, List.pairwise_map]
      rw [List.nodup_iff_pairwise_ne, List.pairwise_map] at h3
      refine h3.imp ?_
      intro a b hab e
      exact hab (congrArg (fun z : Pl => z.2.2) e)
    · obtain ⟨y, hy, rfl⟩ := List.mem_map.1 hx
      obtain ⟨a, ha, rfl⟩ := List.mem_map.1 hy
      obtain ⟨y', hy', e⟩ := List.mem_map.1 hx'
      obtain ⟨a', ha', rfl⟩ := List.mem_map.1 hy'
      apply hne
      have e1 := congrArg (fun z : Pl => z.2.1) e
      simp only [shOf, Prod.mk.injEq] at e1
      obtain ⟨k, g⟩ := c
      obtain ⟨k', g'⟩ := c'
      simp only at e1
      rw [e1.1, e1.2]
  · obtain ⟨y, hy, rfl⟩ := List.mem_map.1 hx
    obtain ⟨c, hc, hy⟩ := List.mem_flatMap.1 hy
    obtain ⟨a, ha, rfl⟩ := List.mem_map.1 hy
    obtain ⟨y', hy', e⟩ := List.mem_map.1 hx'
    obtain ⟨c', hc', hy'⟩ := List.mem_flatMap.1 hy'
    obtain ⟨a', ha', rfl⟩ := List.mem_map.1 hy'
    exact hne (congrArg (fun z : Pl => z.1) e).symm
/-- what a right object has of sums -/
structure SharesOk (o : ObjV) (l : List ByteArray) (T : List Sh) : Prop where
  path : ∀ p ∈ l, isPath p = true ∧ StOk p
  few : l.length ≤ 9
  lnod : l.Nodup
  sh : ∀ s ∈ T, ShOk s ∧ isPath s.1.1 = true ∧ validS ⟨s.1.2.1.1, s.1.2.1.2⟩ = true
  nod : (T.map Prod.fst).Nodup
  len : T.length ≤ 57982058550
theorem sharesV_ok {o : ObjV} (hu : UseOk o) {l : List ByteArray} {T : List Sh} (h : sharesV o = (l, T, 0)) : SharesOk o l T := by
  unfold sharesV at h
  split at h
  · rename_i hp
    split at h
    · rename_i he
      cases h
      have hul : (usesU o).length ≤ 1073741825 := by
        have h1 := usesV_len o.parts
        have h2 := hu.few
        unfold usesU
        rw [List.length_map]
        omega
      refine ⟨fun p hp => ⟨(lineB_path hp).1, by have := (lineB_path hp).2; unfold StOk maxLen; omega⟩, lineB_len _, lineB_nodup _, fun s hs => ?_, sharesU_nodup (lineB_nodup _) (ofS_nodup o) (usesU_names he), ?_⟩
      · obtain ⟨p, hp, c, hc, a, ha, rfl⟩ := sharesU_mem.1 hs
        obtain ⟨h1, h2, h3⟩ := ofS_in hc
        obtain ⟨y, hy, rfl⟩ := List.mem_map.1 ha
        have hk := uses_key hu.names y hy
        have hv := uses_val he y hy
        refine ⟨⟨⟨by have := (lineB_path hp).2; simp only [shOf]; unfold maxLen; omega, h1, h2, ?_⟩, hv.1, hv.2⟩, (lineB_path hp).1, h3⟩
        simp only [shOf, amtOf]
        rw [← data_len]
        simpa using hk
      · rw [sharesU_len]
        have h1 : (ofS o 6).length * (usesU o).length ≤ 6 * 1073741825 := Nat.mul_le_mul (ofS_len6 o) hul
        have h2 : (lineB o.path).length * ((ofS o 6).length * (usesU o).length) ≤ 9 * (6 * 1073741825) := Nat.mul_le_mul (lineB_len _) h1
        omega
    · rename_i he
      have : (usesV o.parts).2 = 0 := congrArg (fun z => z.2.2) h
      exact absurd this he
  · have : (41 : Int) = 0 := congrArg (fun z => z.2.2) h
    omega
/-- how much of a sum an object has -/
def svL (T : List Sh) (x : Pl) : Int := (T.map fun s => if s.1 = x then s.2 else 0).sum
theorem addS_svL (b : Int) : ∀ (T : List Sh) (S : Pl → Int) (x : Pl), addS b S T x = S x + b * svL T x
  | [], S, x => by simp [addS, svL]
  | s :: T, S, x => by
    have e : addS b S (s :: T) = addS b (upd S s.1 (S s.1 + b * s.2)) T := rfl
    rw [e, addS_svL b T]
    unfold svL upd
    rw [List.map_cons, List.sum_cons, Int.mul_add]
    by_cases h : x = s.1
    · subst h; rw [if_pos rfl, if_pos rfl]; omega
    · rw [if_neg h, if_neg (fun e => h e.symm)]; omega
def cvL (l : List ByteArray) (p : ByteArray) : Int := (l.map fun q => if q = p then 1 else 0).sum
theorem addC_cvL (b : Int) : ∀ (l : List ByteArray) (C : ByteArray → Int) (x : ByteArray), addC b C l x = C x + b * cvL l x
  | [], C, x => by simp [addC, cvL]
  | p :: l, C, x => by
    have e : addC b C (p :: l) = addC b (upd C p (C p + b)) l := rfl
    rw [e, addC_cvL b l]
    unfold cvL upd
    rw [List.map_cons, List.sum_cons, Int.mul_add]
    by_cases h : x = p
    · subst h; rw [if_pos rfl, if_pos rfl]; omega
    · rw [if_neg h, if_neg (fun e => h e.symm)]; omega
end Go.Proofs.YtalkdddeiebfmaaGreatDoor
/- The ledger as a machine on functions, in plain words. No program in sight. -/
namespace Go.Proofs.YtalkdddeiebfmaaGreatDoor

theorem judgeL_zero {J : Sh → Int} : ∀ {T : List Sh}, judgeL J T = 0 ↔ ∀ s ∈ T, J s = 0
  | [] => by simp [judgeL]
  | s :: T => by
    unfold judgeL
    have ih := judgeL_zero (J := J) (T := T)
    by_cases h : J s = 0
    · rw [if_pos h, ih]; simp [h]
    · rw [if_neg h]; simp [h]
theorem judgeL_if {c : Sh → Prop} [DecidablePred c] {z : Int} (hz : z ≠ 0) : ∀ (T : List Sh), judgeL (fun s => if c s then z else 0) T = if T.any (fun s => decide (c s)) = true then z else 0
  | [] => by simp [judgeL]
  | s :: T => by
    unfold judgeL
    rw [judgeL_if hz T]
    by_cases h : c s
    · simp [h, hz]
    · rw [if_neg h, if_pos rfl, List.any_cons, decide_eq_false h, Bool.false_or]
def judgeA (S : Pl → Int) (T : List Sh) : Int := judgeL (fun s => if S s.1 > 9223372036854775807 - s.2 then 7 else 0) T
def judgeU (S : Pl → Int) (T : List Sh) : Int := judgeL (fun s => if S s.1 < s.2 then 170 else 0) T
abbrev LRes := Int × (Pl → Int) × (ByteArray → Int)
def chargeV (S : Pl → Int) (C : ByteArray → Int) (o : ObjV) : LRes :=
  if (sharesV o).2.2 ≠ 0 then ((sharesV o).2.2, S, C) else if judgeA S (sharesV o).2.1 ≠ 0 then (judgeA S (sharesV o).2.1, S, C) else (0, addS 1 S (sharesV o).2.1, addC 1 C (sharesV o).1)
def goneV (S : Pl → Int) (C : ByteArray → Int) (o : ObjV) : List ByteArray × List Sh × Int :=
  if (sharesV o).2.2 ≠ 0 then ([], [], (sharesV o).2.2) else if judgeU S (sharesV o).2.1 ≠ 0 then ([], [], judgeU S (sharesV o).2.1) else if (sharesV o).1.any (fun p => C p == 0) = true then ([], [], 170) else ((sharesV o).1, (sharesV o).2.1, 0)
def releaseV (S : Pl → Int) (C : ByteArray → Int) (o : ObjV) : LRes :=
  if (goneV S C o).2.2 = 0 then (0, addS (-1) S (goneV S C o).2.1, addC (-1) C (goneV S C o).1) else ((goneV S C o).2.2, S, C)
def changeV (S : Pl → Int) (C : ByteArray → Int) (o p : ObjV) : LRes :=
  if (goneV S C o).2.2 ≠ 0 then ((goneV S C o).2.2, S, C)
  else if (chargeV (releaseV S C o).2.1 (releaseV S C o).2.2 p).1 ≠ 0 then ((chargeV (releaseV S C o).2.1 (releaseV S C o).2.2 p).1, S, C)
  else chargeV (releaseV S C o).2.1 (releaseV S C o).2.2 p
/-- what a ledger's functions are, always; m: how many objects came at most -/
structure LedOk (m : Nat) (S : Pl → Int) (C : ByteArray → Int) : Prop where
  lo : ∀ x, 0 ≤ S x
  hi : ∀ x, S x ≤ 9223372036854775807
  clo : ∀ p, 0 ≤ C p
  chi : ∀ p, C p ≤ m
  pl : ∀ x, S x ≠ 0 → PlOk x ∧ isPath x.1 = true ∧ validS ⟨x.2.1.1, x.2.1.2⟩ = true
  sup : ∃ L : List Pl, L.length ≤ m ∧ ∀ x, S x ≠ 0 → x ∈ L
  csup : ∃ L : List ByteArray, L.length ≤ m ∧ ∀ p, C p ≠ 0 → p ∈ L
theorem ledOk_zero : LedOk 0 (fun _ => 0) (fun _ => 0) := ⟨fun _ => by omega, fun _ => by omega, fun _ => by omega, fun _ => by omega, fun _ h => absurd rfl h, ⟨[], Nat.le_refl _, fun _ h => absurd rfl h⟩, ⟨[], Nat.le_refl _, fun _ h => absurd rfl h⟩⟩
theorem LedOk.mono {m n : Nat} {S : Pl → Int} {C : ByteArray → Int} (h : LedOk m S C) (hn : m ≤ n) : LedOk n S C := ⟨h.lo, h.hi, h.clo, fun p => by have := h.chi p; omega, h.pl, let ⟨L, h1, h2⟩ := h.sup; ⟨L, by omega, h2⟩, let ⟨L, h1, h2⟩ := h.csup; ⟨L, by omega, h2⟩⟩
theorem svL_out {T : List Sh} {x : Pl} (h : x ∉ T.map Prod.fst) : svL T x = 0 := by
  unfold svL
  induction T with
  | nil => simp
  | cons s T ih =>
    rw [List.map_cons, List.mem_cons, not_or] at h
    rw [List.map_cons, List.sum_cons, ih h.2, if_neg (fun e => h.1 e.symm)]
    rfl
theorem svL_in : ∀ {T : List Sh}, (T.map Prod.fst).Nodup → ∀ s ∈ T, svL T s.1 = s.2
  | [], _, s, h => by cases h
  | t :: T, hn, s, h => by
    rw [List.map_cons, List.nodup_cons] at hn
    unfold svL
    rw [List.map_cons, List.sum_cons]
    rcases List.mem_cons.1 h with rfl | h
    · rw [if_pos rfl]
      have := svL_out hn.1
      unfold svL at this
      omega
    · have hne : t.1 ≠ s.1 := fun e => hn.1 (by rw [e]; exact List.mem_map_of_mem h)
      rw [if_neg hne]
      have := svL_in hn.2 s h
      unfold svL at this
      omega
theorem svL_nonneg {T : List Sh} (h : ∀ s ∈ T, 0 ≤ s.2) (x : Pl) : 0 ≤ svL T x := by
  unfold svL
  induction T with
  | nil => simp
  | cons s T ih =>
    rw [List.map_cons, List.sum_cons]
    have h1 := ih fun t ht => h t (by simp [ht])
    have h2 := h s (by simp)
    split <;> omega
theorem cvL_le : ∀ (l : List ByteArray) (p : ByteArray), l.Nodup → 0 ≤ cvL l p ∧ cvL l p ≤ 1
  | [], p, _ => by simp [cvL]
  | q :: l, p, h => by
    rw [List.nodup_cons] at h
    have h1 := cvL_le l p h.2
    unfold cvL at h1 ⊢
    rw [List.map_cons, List.sum_cons]
    by_cases e : q = p
    · subst e
      have h2 : cvL l q = 0 := by
        have : ∀ (l : List ByteArray), q ∉ l → cvL l q = 0 := by
          intro l
          induction l with
          | nil => intro _; simp [cvL]
          | cons r l ih =>
            intro hh
            rw [List.mem_cons, not_or] at hh
            have := ih hh.2
            unfold cvL at this ⊢
            rw [List.map_cons, List.sum_cons, if_neg (fun e => hh.1 e.symm), this]
            rfl
        exact this l h.1
      unfold cvL at h2
      rw [if_pos rfl, h2]; omega
    · rw [if_neg e]; omega
theorem cvL_in {l : List ByteArray} {p : ByteArray} (h : p ∈ l) : 1 ≤ cvL l p := by
  induction l with
  | nil => cases h
  | cons q l ih =>
    unfold cvL at ih ⊢
    rw [List.map_cons, List.sum_cons]
    have hpos : 0 ≤ (l.map fun q => if q = p then (1 : Int) else 0).sum := by
      clear ih h
      induction l with
      | nil => simp
      | cons r l ih => rw [List.map_cons, List.sum_cons]; split <;> omega
    by_cases e : q = p
    · rw [if_pos e]; omega
    · rw [if_neg e]
      have := ih ((List.mem_cons.1 h).resolve_left (fun e2 => e e2.symm))
      omega
theorem cvL_out {l : List ByteArray} {p : ByteArray} (h : p ∉ l) : cvL l p = 0 := by
  induction l with
  | nil => simp [cvL]
  | cons r l ih =>
    rw [List.mem_cons, not_or] at h
    have := ih h.2
    unfold cvL at this ⊢
    rw [List.map_cons, List.sum_cons, if_neg (fun e => h.1 e.symm), this]
    rfl
theorem addS_back (T : List Sh) (S : Pl → Int) : addS 1 (addS (-1) S T) T = S := by
  funext x
  rw [addS_svL, addS_svL]; omega
theorem addC_back (l : List ByteArray) (C : ByteArray → Int) : addC 1 (addC (-1) C l) l = C := by
  funext x
  rw [addC_cvL, addC_cvL]; omega
theorem judgeA_zero {S : Pl → Int} {T : List Sh} (h : judgeA S T = 0) : ∀ s ∈ T, S s.1 + s.2 ≤ 9223372036854775807 := fun s hs => by
  have := judgeL_zero.1 h s hs
  split at this <;> omega
theorem judgeU_zero {S : Pl → Int} {T : List Sh} (h : judgeU S T = 0) : ∀ s ∈ T, s.2 ≤ S s.1 := fun s hs => by
  have := judgeL_zero.1 h s hs
  split at this <;> omega
theorem LedOk.charge {m : Nat} {S : Pl → Int} {C : ByteArray → Int} (k : LedOk m S C) {l : List ByteArray} {T : List Sh} {o : ObjV} (h : SharesOk o l T) (hj : judgeA S T = 0) : LedOk (m + 1 + T.length + l.length) (addS 1 S T) (addC 1 C l) := by
  have hv := fun x => svL_nonneg (T := T) (fun s hs => (h.sh s hs).1.pos) x
  refine ⟨fun x => ?_, fun x => ?_, fun p => ?_, fun p => ?_, fun x hx => ?_, ?_, ?_⟩
  · rw [addS_svL]; have := k.lo x; have := hv x; omega
  · rw [addS_svL]
    by_cases hm : x ∈ T.map Prod.fst
    · obtain ⟨s, hs, rfl⟩ := List.mem_map.1 hm
      rw [svL_in h.nod s hs]
      have := judgeA_zero hj s hs
      omega
    · rw [svL_out hm]; have := k.hi x; omega
  · rw [addC_cvL]; have := k.clo p; have := cvL_le l p h.lnod; omega
  · rw [addC_cvL]; have := k.chi p; have := cvL_le l p h.lnod; omega
  · rw [addS_svL] at hx
    by_cases hm : x ∈ T.map Prod.fst
    · obtain ⟨s, hs, rfl⟩ := List.mem_map.1 hm
      obtain ⟨h1, h2, h3⟩ := h.sh s hs
      exact ⟨h1.pl, h2, h3⟩
    · rw [svL_out hm] at hx; exact k.pl x (by omega)
  · obtain ⟨L, h1, h2⟩ := k.sup
    refine ⟨L ++ T.map Prod.fst, by rw [List.length_append, List.length_map]; omega, fun x hx => ?_⟩
    rw [List.mem_append]
    by_cases hm : x ∈ T.map Prod.fst
    · exact .inr hm
    · rw [addS_svL, svL_out hm] at hx; exact .inl (h2 x (by omega))
  · obtain ⟨L, h1, h2⟩ := k.csup
    refine ⟨L ++ l, by rw [List.length_append]; omega, fun p hp => ?_⟩
    rw [List.mem_append]
    by_cases hm : p ∈ l
    · exact .inr hm
    · rw [addC_cvL, cvL_out hm] at hp; exact .inl (h2 p (by omega))
theorem LedOk.release {m : Nat} {S : Pl → Int} {C : ByteArray → Int} (k : LedOk m S C) {l : List ByteArray} {T : List Sh} {o : ObjV} (h : SharesOk o l T) (hj : judgeU S T = 0) (hc : l.any (fun p => C p == 0) = false) : LedOk m (addS (-1) S T) (addC (-1) C l) := by
  have hv := fun x => svL_nonneg (T := T) (fun s hs => (h.sh s hs).1.pos) x
  refine ⟨fun x => ?_, fun x => ?_, fun p => ?_, fun p => ?_, fun x hx => ?_, ?_, ?_⟩
  · rw [addS_svL]
    by_cases hm : x ∈ T.map Prod.fst
    · obtain ⟨s, hs, rfl⟩ := List.mem_map.1 hm
      rw [svL_in h.nod s hs]
      have := judgeU_zero hj s hs
      omega
    · rw [svL_out hm]; have := k.lo x; omega
  · rw [addS_svL]; have := k.hi x; have := hv x; omega
  · rw [addC_cvL]
    by_cases hm : p ∈ l
    · have h1 := List.any_eq_false.1 hc p hm
      have h2 := cvL_le l p h.lnod
      have h3 := k.clo p
      have : C p ≠ 0 := by simpa using h1
      omega
    · rw [cvL_out hm]; have := k.clo p; omega
  · rw [addC_cvL]; have := k.chi p; have := cvL_le l p h.lnod; omega
  · rw [addS_svL] at hx
    by_cases hm : x ∈ T.map Prod.fst
    · obtain ⟨s, hs, rfl⟩ := List.mem_map.1 hm
      obtain ⟨h1, h2, h3⟩ := h.sh s hs
      exact ⟨h1.pl, h2, h3⟩
    · rw [svL_out hm] at hx; exact k.pl x (by omega)
  · obtain ⟨L, h1, h2⟩ := k.sup
    refine ⟨L, h1, fun x hx => ?_⟩
    by_cases hm : x ∈ T.map Prod.fst
    · obtain ⟨s, hs, rfl⟩ := List.mem_map.1 hm
      refine h2 _ fun h0 => hx ?_
      rw [addS_svL, svL_in h.nod s hs]
      have := judgeU_zero hj s hs
      have := (h.sh s hs).1.pos
      omega
    · rw [addS_svL, svL_out hm] at hx; exact h2 x (by omega)
  · obtain ⟨L, h1, h2⟩ := k.csup
    refine ⟨L, h1, fun p hp => ?_⟩
    by_cases hm : p ∈ l
    · have h3 := List.any_eq_false.1 hc p hm
      exact h2 p (by simpa using h3)
    · rw [addC_cvL, cvL_out hm] at hp; exact h2 p (by omega)
end Go.Proofs.YtalkdddeiebfmaaGreatDoor
