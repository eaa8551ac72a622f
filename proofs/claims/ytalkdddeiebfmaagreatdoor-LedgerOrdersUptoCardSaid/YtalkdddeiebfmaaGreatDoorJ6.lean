/- The ledger's move: the walk. -/
import Derived.Test.YtalkdddeiebfmaaGreatDoorJ5
namespace Go.Proofs.YtalkdddeiebfmaaGreatDoor
open Go.RowKit Go.Maps Go.WideMaps

structure MoveOk (b : Int) (C : ByteArray → Int) (S : Pl → Int) (line : List ByteArray) (L : List Sh) : Prop where
  by1 : b = 1 ∨ b = -1
  st : ∀ p ∈ line, StOk p
  few : line.length ≤ 2305843009213693952
  cnt : ∀ x, -4611686018427387904 ≤ C x ∧ C x ≤ 4611686018427387904
  sh : ∀ s ∈ L, ShOk s
  nod : (L.map Prod.fst).Nodup
  fit : ∀ s ∈ L, in64 (S s.1 + b * s.2)
set_option maxRecDepth 100000 in
set_option maxHeartbeats 1000000 in
theorem move_any (b : Int) (line : List ByteArray) (L : List Sh) (A B : Option Addr) (c d : Nat) (P Q : Nat → Prop) (g b1 b2 n : Nat) (S : Pl → Int) (C : ByteArray → Int) (w : World) (k : IsLed w g b1 b2 n S C) (ho : MoveOk b C S line L)
    (hr : Row Kn.str P w A line) (hq : Row kSh Q w B L) (hP : ∀ i, P i → i ≠ b1 ∧ i ≠ b2) (hQ : ∀ i, Q i → i ≠ b1 ∧ i ≠ b2) (hL : L.length ≤ 4611686018427387904) (hn : n + line.length + L.length < maxLen) :
    Calls Tryz.prog 44 #[.pointer (some ⟨g, 0, none⟩), .slice A line.length c, .slice B L.length d, .int .i64 b] w fun e w' =>
      e = .returned (.tuple #[]) ∧ IsLed w' g b1 b2 (n + line.length + L.length) (addS b S L) (addC b C line) ∧ Turn (mapB b1 b2) w w' := by
  have HR := Lib.hid hr
  have HQ := Lib.hid hq
  have HO := Lib.hid ho
  have hb2 : -1 ≤ b ∧ b ≤ 1 := by rcases ho.by1 with e | e <;> omega
  have HBD := Lib.hid (fun l => addC_bound b hb2 l C 4611686018427387904 ho.cnt)
  have hfew := ho.few
  clear hr hq ho
  go_enter Tryz.func44, Tryz.ntmps44
  go_wp2
  go_loopw [14] (fun iv wr => ∃ i : Nat, iv = .int .i64 i ∧ i ≤ line.length ∧ Hid (IsLed wr g b1 b2 (n + i) S (addC b C (line.take i))) ∧ Hid (Turn (mapB b1 b2) w wr)) (fun iv _ => line.length - (intOf iv).toNat)
  case atStart => exact ⟨0, rfl, Nat.zero_le _, k, Turn.refl _ _⟩
  case round =>
    obtain ⟨i, rfl, hi, hk, ht⟩ := hrel
    obtain ⟨wo, rfl⟩ : ∃ wo, wo = wr := ⟨_, rfl⟩
    by_cases hlt : i < line.length
    · obtain ⟨a, rfl, l0⟩ := row_str_at (HR.out.keep (w' := wo) fun j hj hl => ht.out.block j hl (fun e => e.elim (hP j hj).1 (hP j hj).2)) i hlt
      obtain ⟨p, hp⟩ : ∃ p, line[i] = p := ⟨_, rfl⟩
      have hpo : StOk p := HO.out.st p (by rw [← hp]; exact List.getElem_mem _)
      obtain ⟨Ci, hCi⟩ : ∃ Ci, addC b C (line.take i) = Ci := ⟨_, rfl⟩
      have HSTEP := Lib.hid (show addC b C (line.take (i + 1)) = upd Ci p (Ci p + b) by rw [List.take_succ_eq_append_getElem hlt, addC_snoc, hp, hCi])
      have hbd := HBD.out (line.take i) p
      rw [hCi] at hbd
      have hlen : (line.take i).length ≤ line.length := by rw [List.length_take]; omega
      have hk' : IsLed wo g b1 b2 (n + i) S Ci := by rw [← hCi]; exact hk.out
      obtain ⟨z, hz⟩ : ∃ z, Ci p = z := ⟨_, rfl⟩
      rw [hz] at hbd HSTEP
      have g1 := hk'.g1
      have lk := hk'.cnts.look hpo
      rw [hz] at lk
      have hwz : wrap64 (z + b) = z + b := by unfold wrap64; omega
      have hlti : (i : Int) < (line.length : Int) := by omega
      rw [hp] at l0
      obtain ⟨w1, r1, r2, r3, r4, r5, r6⟩ := hk'.cnt hpo (v := z + b) (by unfold in64; omega) (by omega) 0
      have HT := Lib.hid ht.out
      clear hz hCi hk' hp hk ht hbd hpo hlen
      by_cases h0 : z + b = 0
      · obtain ⟨w2, q1, q2, q3⟩ := r6 h0
        have e1 : (z + b == 0) = true := by simpa using h0
        have Q2 := Lib.hid q2
        have Q3 := Lib.hid q3
        clear r4 r6 h0 q2 q3 r5
        go_wp2
        go_roundw
        case rel => exact ⟨i + 1, by go_num, hlt, by rw [HSTEP.out]; exact Q2.out, HT.out.trans (Q3.out.mono fun j _ hj => .inl hj)⟩
        case measure => simp [intOf]; omega
      · have q2 := r4 h0
        have e1 : (z + b == 0) = false := by simpa using h0
        have Q2 := Lib.hid q2
        have Q3 := Lib.hid r5
        clear r4 r6 h0 q2 r5
        go_wp2
        go_roundw
        case rel => exact ⟨i + 1, by go_num, hlt, by rw [HSTEP.out]; exact Q2.out, HT.out.trans (Q3.out.mono fun j _ hj => .inl hj)⟩
        case measure => simp [intOf]; omega
    · have hge : ¬ ((i : Int) < (line.length : Int)) := by omega
      have hk1 := hk.out
      rw [List.take_of_length_le (by omega)] at hk1
      obtain ⟨Cn, hCn⟩ : ∃ Cn, addC b C line = Cn := ⟨_, rfl⟩
      rw [hCn] at hk1
      have HCN := Lib.hid hCn
      have HK1 := Lib.hid (show IsLed wo g b1 b2 (n + line.length) S Cn by
        have e : i = line.length := by omega
        rw [e] at hk1; exact hk1)
      have HT := Lib.hid ht.out
      clear hk ht hk1 hCn HBD
      have HQW := Lib.hid (HQ.out.keep (w' := wo) fun j hj hl => HT.out.block j hl (fun e => e.elim (hQ j hj).1 (hQ j hj).2))
      go_wp2
      go_loopw [41] (fun iv wr => ∃ i : Nat, iv = .int .i64 i ∧ i ≤ L.length ∧ Hid (IsLed wr g b1 b2 (n + line.length + i) (addS b S (L.take i)) Cn) ∧ Hid (Turn (mapB b1 b2) wo wr)) (fun iv _ => L.length - (intOf iv).toNat)
      case atStart => exact ⟨0, rfl, Nat.zero_le _, HK1.out, Turn.refl _ _⟩
      case round =>
        obtain ⟨i, rfl, hi, hk, ht⟩ := hrel
        obtain ⟨wq, rfl⟩ : ∃ wq, wq = wr := ⟨_, rfl⟩
        by_cases hlt : i < L.length
        · obtain ⟨a, rfl, -, l0, l1, l2, l3, l4⟩ := sh_at (HQW.out.keep (w' := wq) fun j hj hl => ht.out.block j hl (fun e => e.elim (hQ j hj).1 (hQ j hj).2)) i hlt
          obtain ⟨x, hx⟩ : ∃ x, L[i] = x := ⟨_, rfl⟩
          have hxm : x ∈ L := by rw [← hx]; exact List.getElem_mem _
          obtain ⟨Si, hSi⟩ : ∃ Si, addS b S (L.take i) = Si := ⟨_, rfl⟩
          have HSTEP := Lib.hid (show addS b S (L.take (i + 1)) = upd Si x.1 (Si x.1 + b * x.2) by rw [List.take_succ_eq_append_getElem hlt, addS_snoc, hx, hSi])
          have hSx : Si x.1 = S x.1 := by
            rw [← hSi]
            refine addS_out b _ _ _ fun hm => ?_
            have hnd := HO.out.nod
            rw [List.nodup_iff_pairwise_ne] at hnd
            obtain ⟨y, hy, hye⟩ := List.mem_map.1 hm
            obtain ⟨j, hj, hjy⟩ := List.getElem_of_mem hy
            rw [List.length_take] at hj
            rw [List.getElem_take] at hjy
            have hp2 := List.pairwise_iff_getElem.1 hnd j i (by simp; omega) (by simpa using hlt) (by omega)
            simp only [List.getElem_map] at hp2
            rw [hjy, hx] at hp2
            exact hp2 hye
          have hfit := HO.out.fit x hxm
          have hok := HO.out.sh x hxm
          rw [← hSx] at hfit
          have hk' : IsLed wq g b1 b2 (n + line.length + i) Si Cn := by rw [← hSi]; exact hk.out
          rw [hx] at l0 l1 l2 l3 l4
          have HT2 := Lib.hid ht.out
          have hlti : (i : Int) < (L.length : Int) := by omega
          have hnn : n + line.length + i < maxLen := by omega
          clear hSx hx hxm hSi hk ht
          obtain ⟨⟨p, ⟨m, r⟩, t⟩, v⟩ := x
          obtain ⟨hpl, hv0, hv1⟩ := hok
          simp only at l0 l1 l2 l3 l4 hfit hpl hv0 hv1 HSTEP
          have HBX := Lib.hid ((Below.refl wq.heap.size wq).alloc (Nat.le_refl _) (.cells #[.string p, .int .i64 m, .int .i64 r, .string t, .int .i64 v] 137))
          have HKX := Lib.hid (hk'.below HBX.out).toH
          have HNW := Lib.hid (heap_alloc_new wq (.cells #[.string p, .int .i64 m, .int .i64 r, .string t, .int .i64 v] 137))
          have HTX := Lib.hid (HT2.out.then_below HBX.out)
          clear HBX
          go_upto_region 10 with fail
          obtain ⟨q, hq⟩ : ∃ q, wq.heap.size = q := ⟨_, rfl⟩
          rw [hq] at HNW ⊢
          generalize hwx : wq.alloc (.cells #[.string p, .int .i64 m, .int .i64 r, .string t, .int .i64 v] 137) = wx at HKX HNW HTX ⊢
          have HB1Q := Lib.hid (show b1 ≠ q from fun e => by have := hk'.sums.lt; omega)
          obtain ⟨z, hz⟩ : ∃ z, Si (p, (m, r), t) = z := ⟨_, rfl⟩
          have HZ := Lib.hid hz
          rw [hz] at hfit HSTEP
          have HFIT := Lib.hid hfit
          obtain ⟨h1, h2⟩ := hfit
          have hbv : -9223372036854775808 ≤ b * v ∧ b * v ≤ 9223372036854775807 := by rcases HO.out.by1 with e | e <;> subst e <;> omega
          have hm1 : wrap64 (b * v) = b * v := by unfold wrap64; omega
          have hm2 : IntKind.i64.wrap (b * v) = b * v := by rw [IntKind.wrap_i64]; omega
          have hm3 : wrap64 (z + b * v) = z + b * v := by unfold wrap64; omega
          have hm4 : IntKind.i64.wrap (z + b * v) = z + b * v := by rw [IntKind.wrap_i64]; omega
          clear hwx hq hk' hz h1 h2 hbv l0 l1 l2 l3 l4
          go_cut [] (fun wy => LedH wy g b1 b2 (n + line.length + i + 1) (upd Si (p, (m, r), t) (z + b * v)) Cn (upd (fun x => decide (Si x ≠ 0)) (p, (m, r), t) true) ∧ wy.heap[q]? = some (.cells #[.string p, .int .i64 m, .int .i64 r, .string t, .int .i64 v] 137 (0, 0)) ∧ Turn (mapB b1 b2) wx wy)
          case first =>
            have kd := HKX.out.below (Below.refl wx.heap.size wx).drew
            obtain ⟨v0, st, w1, w3, r1, r2, r3, r4, r5, r6, r7, r8⟩ := kd.entry hpl (v := z + b * v) HFIT.out hnn
            rw [HZ.out] at r3
            have hlk := kd.look hpl 0
            rw [HZ.out] at hlk
            have hlk' : (Instr.lookup 74 (.map (some b1)) (.agg #[.string p, .int .i64 m, .int .i64 r, .string t]) false).run Tryz.prog wx.drew = .ok (.int .i64 z) wx.drew := hlk
            have g0 := kd.g0
            have x0 : wx.cell? ⟨q, 0, none⟩ = some (.string p) := cell_of_row _ _ _ _ _ _ HNW.out
            have x1 : wx.cell? ⟨q, 1, none⟩ = some (.int .i64 m) := cell_of_row _ _ _ _ _ _ HNW.out
            have x2 : wx.cell? ⟨q, 2, none⟩ = some (.int .i64 r) := cell_of_row _ _ _ _ _ _ HNW.out
            have x3 : wx.cell? ⟨q, 3, none⟩ = some (.string t) := cell_of_row _ _ _ _ _ _ HNW.out
            have x4 : wx.cell? ⟨q, 4, none⟩ = some (.int .i64 v) := cell_of_row _ _ _ _ _ _ HNW.out
            have R6 := Lib.hid r6
            have R7 := Lib.hid r7
            have R8 := Lib.hid r8
            clear hlk kd r6 r7 r8 r2
            go_region_law fail
            all_goals (go_wp2_with fail; go_meet; exact ⟨R6.out, (R7.out.block q (Array.getElem?_eq_some_iff.1 HNW.out).1 (fun e => HB1Q.out (Option.some.inj e).symm)).trans HNW.out, (Turn.refl _ wx).drew.trans (R8.out.mono fun j _ hj => .inl hj)⟩)
          case rest =>
            obtain ⟨k2, hq2, t2⟩ := hcut
            rename World => wy
            have K2 := Lib.hid k2
            have HT3 := Lib.hid (HTX.out.trans (t2.mono fun j _ hj => .inl hj))
            have HQ2 := Lib.hid hq2
            have g0 := k2.g0
            have x0 : wy.cell? ⟨q, 0, none⟩ = some (.string p) := cell_of_row _ _ _ _ _ _ hq2
            have x1 : wy.cell? ⟨q, 1, none⟩ = some (.int .i64 m) := cell_of_row _ _ _ _ _ _ hq2
            have x2 : wy.cell? ⟨q, 2, none⟩ = some (.int .i64 r) := cell_of_row _ _ _ _ _ _ hq2
            have x3 : wy.cell? ⟨q, 3, none⟩ = some (.string t) := cell_of_row _ _ _ _ _ _ hq2
            have hlk := fun j => k2.look hpl j
            rw [upd_same] at hlk
            obtain ⟨y, hy⟩ : ∃ y, z + b * v = y := ⟨_, rfl⟩
            rw [hy] at hlk HSTEP K2
            clear k2 hq2 t2 hm1 hm2 hm3 hm4 hy HFIT
            by_cases h0 : y = 0
            · subst h0
              go_wp2
              go_quiet (fail)
              go_wp2
              obtain ⟨w5, d1, d2, d3⟩ := (K2.out.drewN (nq + 1)).drop hpl 0
              have D2 := Lib.hid d2
              have D3 := Lib.hid d3
              clear d2 d3 hlk
              have HFIN := Lib.hid (D2.out.led (by rw [upd_upd]) (by rw [upd_del]))
              go_region_law fail
              all_goals (
                go_wp2
                go_roundw
                case rel => exact ⟨i + 1, by go_num, hlt, by rw [HSTEP.out]; exact HFIN.out, (HT3.out.drewN _).trans (D3.out.mono fun j _ hj => .inl hj)⟩
                case measure => simp [intOf]; omega)
            · have e1 : (y == 0) = false := by simpa using h0
              have HFIN := Lib.hid (K2.out.led rfl (upd_put Si (p, (m, r), t) h0))
              clear h0
              go_wp2
              go_quiet (fail)
              go_wp2
              go_roundw
              case rel => exact ⟨i + 1, by go_num, hlt, by rw [HSTEP.out]; exact HFIN.out.below (below_drewN (Below.refl _ _) _), HT3.out.drewN _⟩
              case measure => simp [intOf]; omega
        · have hge : ¬ ((i : Int) < (L.length : Int)) := by omega
          have hk2 := hk.out
          rw [List.take_of_length_le (by omega)] at hk2
          have HK2 := Lib.hid (show IsLed wq g b1 b2 (n + line.length + L.length) (addS b S L) Cn by
            have e : i = L.length := by omega
            rw [e] at hk2; exact hk2)
          have HT2 := Lib.hid ht.out
          clear hk ht hk2
          go_wp2
          go_end0
          exact ⟨rfl, by rw [HCN.out]; exact HK2.out, HT.out.trans (HT2.out.mono fun j _ hj => .inl hj)⟩
end Go.Proofs.YtalkdddeiebfmaaGreatDoor
