/- The law ScopeWithin: the walk where the one does not lie within the other. -/
import Derived.Test.YtdchffghgajbfaaDoorW7
namespace Go.Proofs.YtdchffghgajbfaaDoor
open Go.RowKit

/-- the boxes of a round's two objects; what holds while the round goes on -/
structure LoopAt (W : World) (n q nb : Nat) (a b : ScV) (o : ObjV) (A : Option Addr) (c : Nat) (ls : List LabV) (p d : Int) : Prop where
  law : WLaw W n a b o A c ls
  bx : OBox W q (.string ⟨#[]⟩) (.string ⟨#[]⟩) (.slice none 0 0) (.int .i64 p) (.int .i64 d) (.slice none 0 0) (.int .i64 0)
  by_ : OBox W (q + 1) (.string ⟨#[]⟩) (.string ⟨#[]⟩) (.slice none 0 0) (.int .i64 p) (.int .i64 d) (.slice (some ⟨nb, 0, none⟩) 1 1) (.int .i64 0)
  nm : Row kPart (fun _ => True) W (some ⟨nb, 0, none⟩) nmParts
theorem LoopAt.below {W W' : World} {n q nb : Nat} {a b : ScV} {o : ObjV} {A : Option Addr} {c : Nat} {ls : List LabV} {p d : Int} (h : LoopAt W n q nb a b o A c ls p d) (hb : Below W.heap.size W W') : LoopAt W' n q nb a b o A c ls p d := ⟨h.law.below hb, h.bx.below hb, h.by_.below hb, h.nm.below hb⟩
theorem loopAt {wq : World} {n nb : Nat} {a b : ScV} {o : ObjV} {A : Option Addr} {c : Nat} {ls : List LabV} (p d : Int) (h : WLaw wq n a b o A c ls) (hn : Row kPart (fun _ => True) wq (some ⟨nb, 0, none⟩) nmParts) :
    LoopAt ((wq.alloc (.cells #[.string ⟨#[]⟩, .string ⟨#[]⟩, .slice none 0 0, .int .i64 p, .int .i64 d, .slice none 0 0, .int .i64 0] 58)).alloc (.cells #[.string ⟨#[]⟩, .string ⟨#[]⟩, .slice none 0 0, .int .i64 p, .int .i64 d, .slice (some ⟨nb, 0, none⟩) 1 1, .int .i64 0] 58)) n wq.heap.size nb a b o A c ls p d := by
  have hb : Below wq.heap.size wq ((wq.alloc (.cells #[.string ⟨#[]⟩, .string ⟨#[]⟩, .slice none 0 0, .int .i64 p, .int .i64 d, .slice none 0 0, .int .i64 0] 58)).alloc (.cells #[.string ⟨#[]⟩, .string ⟨#[]⟩, .slice none 0 0, .int .i64 p, .int .i64 d, .slice (some ⟨nb, 0, none⟩) 1 1, .int .i64 0] 58)) := ((Below.refl _ _).alloc (Nat.le_refl _) _).alloc (by simp) _
  exact ⟨h.below hb, .of (heap_alloc2_old _ _ _), .of (heap_alloc2_new _ _ _), hn.below hb⟩
set_option maxRecDepth 100000 in
set_option maxHeartbeats 1000000 in
theorem scopeWithin_no (a b : ScV) (o : ObjV) (A : Option Addr) (c : Nat) (ls : List LabV) (w : World) (ht : TextsAt w) (h : ObjFit w o A ls) (hva : validS a = true) (hvb : validS b = true) (hw : withinS a b = false) : Calls Tryd.prog 6 #[a.val, b.val, o.val A c] w fun e w' => e = .returned (.bool true) ∧ Below w.heap.size w w' := by
  obtain ⟨B0, m0, hlab, -⟩ := h.lab
  obtain ⟨hla, hb0⟩ := wLaw w a b o A c ls ht h
  unfold ObjV.val ScV.val
  obtain ⟨w0, hw0⟩ : ∃ w0, ((w.alloc (.cells #[.int .i64 a.kind, .int .i64 a.arg] 54)).alloc (.cells #[.int .i64 b.kind, .int .i64 b.arg] 54)).alloc (.cells (o.cells A c) 58) = w0 := ⟨_, rfl⟩
  rw [hw0] at hb0 hla
  unfold ObjV.cells at hw0
  rw [hlab] at hw0 ⊢
  have HB0 := Lib.hid hb0
  have HLA := Lib.hid hla
  have HLAB := Lib.hid hlab
  obtain ⟨wi, hwi⟩ : ∃ wi, withinS a b = wi := ⟨_, rfl⟩
  have HWI := Lib.hid hwi
  clear hb0 hla hlab ht h hwi
  go_enter Tryd.func6, Tryd.ntmps6
  go_upto_region 5 with (first
    | (go_at_call 26; refine (fixed_any _).mono ?_; rintro e w1 ⟨rfl, hb1⟩; have HB1 := Lib.hid hb1; obtain ⟨x0, x1, y0, y1⟩ := (HLA.out.below hb1).two; clear hb1)
    | (go_at_call 27; refine (within_val a b wi HWI _).mono ?_; rintro e w2 ⟨rfl, hb2⟩; have HB2 := Lib.hid (HB1.out.trans (hb2.mono HB1.out.size)); clear hb2))
  clear hw0
  clear x0 x1 y0 y1
  have HL2 := Lib.hid (HLA.out.below HB2.out)
  have HBW := Lib.hid (HB0.out.trans (HB2.out.mono HB0.out.size))
  obtain ⟨x0, x1, y0, y1⟩ := HL2.out.two
  have T1 := True.intro
  have HA := Lib.hid hva
  have HB := Lib.hid hvb
  have HLW := Lib.hid (fun h => within_some hva hvb h)
  obtain rfl : wi = false := HWI.out.symm.trans hw
  clear hva hvb hw
  go_upto_region 10 with (first
    | (go_at_call 28; have T2 := T1; clear T1; refine (valid_val a _ HA _).mono ?_; rintro e w3 ⟨rfl, hb3⟩; have HB3 := Lib.hid hb3; have HT3 := Lib.hid (HL2.out.two.below hb3); obtain ⟨x0, x1, y0, y1⟩ := HT3.out; clear hb3)
    | (go_at_call 28; have T3 := T2; clear T2; refine (valid_val b _ HB _).mono ?_; rintro e w4 ⟨rfl, hb4⟩; have HB4 := Lib.hid (HB3.out.trans (hb4.mono HB3.out.size)); clear hb4))
  have HNW := Lib.hid (show Below w4.heap.size w4 ((w4.alloc (.cells #[.string ⟨#[99, 112, 117]⟩, .int .i64 0] 64)).alloc (.cells #[.string ⟨#[]⟩, .slice (some ⟨w4.heap.size, 0, none⟩) 1 1, .slice none 0 0] 67)) from ((Below.refl _ _).alloc (Nat.le_refl _) _).alloc (by simp) _)
  have NM := Lib.hid (nm_row w4)
  unfold cpuB at NM
  obtain ⟨nb, hnb⟩ : ∃ nb, w4.heap.size + 1 = nb := ⟨_, rfl⟩
  rw [hnb] at NM ⊢
  generalize hwN : ((w4.alloc (.cells #[.string ⟨#[99, 112, 117]⟩, .int .i64 0] 64)).alloc (.cells #[.string ⟨#[]⟩, .slice (some ⟨w4.heap.size, 0, none⟩) 1 1, .slice none 0 0] 67)) = wN at HNW NM ⊢
  clear hwN hnb
  have HBN := Lib.hid (HB4.out.trans (HNW.out.mono HB4.out.size))
  have HLN := Lib.hid (HL2.out.below HBN.out)
  have HBWN := Lib.hid (HBW.out.trans (HBN.out.mono HBW.out.size))
  clear HB3 HB4 HNW
  go_wp2
  go_loopw [10] (fun iv wr => ∃ p : Nat, iv = .int .i64 p ∧ p ≤ 10 ∧ Hid (Below wN.heap.size wN wr) ∧ Hid (∀ p' < p, ∀ d < 2, condPD a b p' d = false)) (fun iv _ => 10 - (intOf iv).toNat)
  case atStart => exact ⟨0, rfl, by omega, Below.refl _ _, fun p' h => absurd h (by omega)⟩
  case round =>
    obtain ⟨p, rfl, hp, hbo, hnp⟩ := hrel
    obtain ⟨wo, rfl⟩ : ∃ wo, wo = wr := ⟨_, rfl⟩
    have HBO := Lib.hid hbo.out
    clear hbo
    by_cases hltp : p < 10
    · have hltp1 : (p : Int) < 10 := by omega
      go_wp2
      go_loopw [11] (fun dv wr => ∃ d : Nat, dv = .int .i64 d ∧ d ≤ 2 ∧ Hid (Below wo.heap.size wo wr) ∧ Hid (∀ d' < d, condPD a b p d' = false)) (fun dv _ => 2 - (intOf dv).toNat)
      case atStart => exact ⟨0, rfl, by omega, Below.refl _ _, fun d' h => absurd h (by omega)⟩
      case round =>
        obtain ⟨d, rfl, hd, hbq, hnd⟩ := hrel
        obtain ⟨wq, rfl⟩ : ∃ wq, wq = wr := ⟨_, rfl⟩
        have HBQ := Lib.hid hbq.out
        clear hbq
        by_cases hltd : d < 2
        · have hltd1 : (d : Int) < 2 := by omega
          have HOQ := Lib.hid (HBO.out.trans (HBQ.out.mono HBO.out.size))
          have HQ := Lib.hid (loopAt (p : Int) (d : Int) (HLN.out.below HOQ.out) (NM.out.below HOQ.out))
          have HWY := Lib.hid (show Below wq.heap.size wq ((wq.alloc (.cells #[.string ⟨#[]⟩, .string ⟨#[]⟩, .slice none 0 0, .int .i64 p, .int .i64 d, .slice none 0 0, .int .i64 0] 58)).alloc (.cells #[.string ⟨#[]⟩, .string ⟨#[]⟩, .slice none 0 0, .int .i64 p, .int .i64 d, .slice (some ⟨nb, 0, none⟩) 1 1, .int .i64 0] 58)) from ((Below.refl _ _).alloc (Nat.le_refl _) _).alloc (by simp) _)
          go_upto_region 18 with fail
          generalize hwy : ((wq.alloc (.cells #[.string ⟨#[]⟩, .string ⟨#[]⟩, .slice none 0 0, .int .i64 p, .int .i64 d, .slice none 0 0, .int .i64 0] 58)).alloc (.cells #[.string ⟨#[]⟩, .string ⟨#[]⟩, .slice none 0 0, .int .i64 p, .int .i64 d, .slice (some ⟨nb, 0, none⟩) 1 1, .int .i64 0] 58)) = wy at HQ HWY ⊢
          clear hwy HOQ
          obtain ⟨⟨⟨x0, x1, y0, y1⟩, -, -, -⟩, ⟨-, a0, a1, a2, a3, a4, a5, a6, -⟩, ⟨-, b0, b1, b2, b3, b4, b5, b6, -⟩, -⟩ := HQ.out
          have J1 := True.intro
          cases h1 : inS p d [] a
          · have HC1 := Lib.hid h1
            clear h1
            have HC2 := HC1
            cases h3 : inS p d nmParts a
            · have HC3 := Lib.hid h3
              clear h3
              have HC4 := HC3
              go_wp2_with (first
                | (go_at_call 29; have J2 := J1; clear J1; refine (inx_val a false p d HC1 _ HQ.out.law.txt).mono ?_; rintro e v1 ⟨rfl, hb1⟩; have HK1 := Lib.hid (hb1); obtain ⟨⟨⟨x0, x1, y0, y1⟩, -, -, -⟩, ⟨-, a0, a1, a2, a3, a4, a5, a6, -⟩, ⟨-, b0, b1, b2, b3, b4, b5, b6, -⟩, -⟩ := HQ.out.below HK1.out; clear hb1)
                | (go_at_call 29; have J3 := J2; clear J2; refine (iny_val a false p d HC3 _ (HQ.out.below HK1.out).law.txt nb (HQ.out.below HK1.out).nm).mono ?_; rintro e v3 ⟨rfl, hb3⟩; have HK3 := Lib.hid (HK1.out.trans (hb3.mono HK1.out.size)); obtain ⟨⟨⟨x0, x1, y0, y1⟩, -, -, -⟩, ⟨-, a0, a1, a2, a3, a4, a5, a6, -⟩, ⟨-, b0, b1, b2, b3, b4, b5, b6, -⟩, -⟩ := HQ.out.below HK3.out; clear hb3))
              go_roundw
              case rel => exact ⟨d + 1, by go_num, hltd, HBQ.out.trans ((HWY.out.trans (HK3.out.mono HWY.out.size)).mono HBQ.out.size), fun d' hd' => by
                rcases Nat.lt_succ_iff_lt_or_eq.1 hd' with h | rfl
                · exact hnd.out d' h
                · unfold condPD; simp only [HC1.out, HC2.out, HC3.out, HC4.out]; rfl⟩
              case measure => simp [intOf]; omega
            · have HC3 := Lib.hid h3
              clear h3
              cases h4 : inS p d nmParts b
              · have HC4 := Lib.hid h4
                clear h4
                go_wp2_with (first
                  | (go_at_call 29; have J2 := J1; clear J1; refine (inx_val a false p d HC1 _ HQ.out.law.txt).mono ?_; rintro e v1 ⟨rfl, hb1⟩; have HK1 := Lib.hid (hb1); obtain ⟨⟨⟨x0, x1, y0, y1⟩, -, -, -⟩, ⟨-, a0, a1, a2, a3, a4, a5, a6, -⟩, ⟨-, b0, b1, b2, b3, b4, b5, b6, -⟩, -⟩ := HQ.out.below HK1.out; clear hb1)
                  | (go_at_call 29; have J3 := J2; clear J2; refine (iny_val a true p d HC3 _ (HQ.out.below HK1.out).law.txt nb (HQ.out.below HK1.out).nm).mono ?_; rintro e v3 ⟨rfl, hb3⟩; have HK3 := Lib.hid (HK1.out.trans (hb3.mono HK1.out.size)); obtain ⟨⟨⟨x0, x1, y0, y1⟩, -, -, -⟩, ⟨-, a0, a1, a2, a3, a4, a5, a6, -⟩, ⟨-, b0, b1, b2, b3, b4, b5, b6, -⟩, -⟩ := HQ.out.below HK3.out; clear hb3)
                  | (go_at_call 29; have J4 := J3; clear J3; refine (iny_val b false p d HC4 _ (HQ.out.below HK3.out).law.txt nb (HQ.out.below HK3.out).nm).mono ?_; rintro e v4 ⟨rfl, hb4⟩; have HK4 := Lib.hid (HK3.out.trans (hb4.mono HK3.out.size)); obtain ⟨⟨⟨x0, x1, y0, y1⟩, -, -, -⟩, ⟨-, a0, a1, a2, a3, a4, a5, a6, -⟩, ⟨-, b0, b1, b2, b3, b4, b5, b6, -⟩, -⟩ := HQ.out.below HK4.out; clear hb4))
                go_ret
                exact ⟨rfl, HBWN.out.trans ((HBO.out.trans ((HBQ.out.trans (HWY.out.mono HBQ.out.size)).mono HBO.out.size) |>.trans (HK4.out.mono (HBO.out.trans ((HBQ.out.trans (HWY.out.mono HBQ.out.size)).mono HBO.out.size)).size)).mono HBWN.out.size)⟩
              · have HC4 := Lib.hid h4
                clear h4
                go_wp2_with (first
                  | (go_at_call 29; have J2 := J1; clear J1; refine (inx_val a false p d HC1 _ HQ.out.law.txt).mono ?_; rintro e v1 ⟨rfl, hb1⟩; have HK1 := Lib.hid (hb1); obtain ⟨⟨⟨x0, x1, y0, y1⟩, -, -, -⟩, ⟨-, a0, a1, a2, a3, a4, a5, a6, -⟩, ⟨-, b0, b1, b2, b3, b4, b5, b6, -⟩, -⟩ := HQ.out.below HK1.out; clear hb1)
                  | (go_at_call 29; have J3 := J2; clear J2; refine (iny_val a true p d HC3 _ (HQ.out.below HK1.out).law.txt nb (HQ.out.below HK1.out).nm).mono ?_; rintro e v3 ⟨rfl, hb3⟩; have HK3 := Lib.hid (HK1.out.trans (hb3.mono HK1.out.size)); obtain ⟨⟨⟨x0, x1, y0, y1⟩, -, -, -⟩, ⟨-, a0, a1, a2, a3, a4, a5, a6, -⟩, ⟨-, b0, b1, b2, b3, b4, b5, b6, -⟩, -⟩ := HQ.out.below HK3.out; clear hb3)
                  | (go_at_call 29; have J4 := J3; clear J3; refine (iny_val b true p d HC4 _ (HQ.out.below HK3.out).law.txt nb (HQ.out.below HK3.out).nm).mono ?_; rintro e v4 ⟨rfl, hb4⟩; have HK4 := Lib.hid (HK3.out.trans (hb4.mono HK3.out.size)); obtain ⟨⟨⟨x0, x1, y0, y1⟩, -, -, -⟩, ⟨-, a0, a1, a2, a3, a4, a5, a6, -⟩, ⟨-, b0, b1, b2, b3, b4, b5, b6, -⟩, -⟩ := HQ.out.below HK4.out; clear hb4))
                go_roundw
                case rel => exact ⟨d + 1, by go_num, hltd, HBQ.out.trans ((HWY.out.trans (HK4.out.mono HWY.out.size)).mono HBQ.out.size), fun d' hd' => by
                  rcases Nat.lt_succ_iff_lt_or_eq.1 hd' with h | rfl
                  · exact hnd.out d' h
                  · unfold condPD; simp only [HC1.out, HC2.out, HC3.out, HC4.out]; rfl⟩
                case measure => simp [intOf]; omega
          · have HC1 := Lib.hid h1
            clear h1
            cases h2 : inS p d [] b
            · have HC2 := Lib.hid h2
              clear h2
              go_wp2_with (first
                | (go_at_call 29; have J2 := J1; clear J1; refine (inx_val a true p d HC1 _ HQ.out.law.txt).mono ?_; rintro e v1 ⟨rfl, hb1⟩; have HK1 := Lib.hid (hb1); obtain ⟨⟨⟨x0, x1, y0, y1⟩, -, -, -⟩, ⟨-, a0, a1, a2, a3, a4, a5, a6, -⟩, ⟨-, b0, b1, b2, b3, b4, b5, b6, -⟩, -⟩ := HQ.out.below HK1.out; clear hb1)
                | (go_at_call 29; have J3 := J2; clear J2; refine (inx_val b false p d HC2 _ (HQ.out.below HK1.out).law.txt).mono ?_; rintro e v2 ⟨rfl, hb2⟩; have HK2 := Lib.hid (HK1.out.trans (hb2.mono HK1.out.size)); obtain ⟨⟨⟨x0, x1, y0, y1⟩, -, -, -⟩, ⟨-, a0, a1, a2, a3, a4, a5, a6, -⟩, ⟨-, b0, b1, b2, b3, b4, b5, b6, -⟩, -⟩ := HQ.out.below HK2.out; clear hb2))
              go_ret
              exact ⟨rfl, HBWN.out.trans ((HBO.out.trans ((HBQ.out.trans (HWY.out.mono HBQ.out.size)).mono HBO.out.size) |>.trans (HK2.out.mono (HBO.out.trans ((HBQ.out.trans (HWY.out.mono HBQ.out.size)).mono HBO.out.size)).size)).mono HBWN.out.size)⟩
            · have HC2 := Lib.hid h2
              clear h2
              cases h3 : inS p d nmParts a
              · have HC3 := Lib.hid h3
                clear h3
                have HC4 := HC3
                go_wp2_with (first
                  | (go_at_call 29; have J2 := J1; clear J1; refine (inx_val a true p d HC1 _ HQ.out.law.txt).mono ?_; rintro e v1 ⟨rfl, hb1⟩; have HK1 := Lib.hid (hb1); obtain ⟨⟨⟨x0, x1, y0, y1⟩, -, -, -⟩, ⟨-, a0, a1, a2, a3, a4, a5, a6, -⟩, ⟨-, b0, b1, b2, b3, b4, b5, b6, -⟩, -⟩ := HQ.out.below HK1.out; clear hb1)
                  | (go_at_call 29; have J3 := J2; clear J2; refine (inx_val b true p d HC2 _ (HQ.out.below HK1.out).law.txt).mono ?_; rintro e v2 ⟨rfl, hb2⟩; have HK2 := Lib.hid (HK1.out.trans (hb2.mono HK1.out.size)); obtain ⟨⟨⟨x0, x1, y0, y1⟩, -, -, -⟩, ⟨-, a0, a1, a2, a3, a4, a5, a6, -⟩, ⟨-, b0, b1, b2, b3, b4, b5, b6, -⟩, -⟩ := HQ.out.below HK2.out; clear hb2)
                  | (go_at_call 29; have J4 := J3; clear J3; refine (iny_val a false p d HC3 _ (HQ.out.below HK2.out).law.txt nb (HQ.out.below HK2.out).nm).mono ?_; rintro e v3 ⟨rfl, hb3⟩; have HK3 := Lib.hid (HK2.out.trans (hb3.mono HK2.out.size)); obtain ⟨⟨⟨x0, x1, y0, y1⟩, -, -, -⟩, ⟨-, a0, a1, a2, a3, a4, a5, a6, -⟩, ⟨-, b0, b1, b2, b3, b4, b5, b6, -⟩, -⟩ := HQ.out.below HK3.out; clear hb3))
                go_roundw
                case rel => exact ⟨d + 1, by go_num, hltd, HBQ.out.trans ((HWY.out.trans (HK3.out.mono HWY.out.size)).mono HBQ.out.size), fun d' hd' => by
                  rcases Nat.lt_succ_iff_lt_or_eq.1 hd' with h | rfl
                  · exact hnd.out d' h
                  · unfold condPD; simp only [HC1.out, HC2.out, HC3.out, HC4.out]; rfl⟩
                case measure => simp [intOf]; omega
              · have HC3 := Lib.hid h3
                clear h3
                cases h4 : inS p d nmParts b
                · have HC4 := Lib.hid h4
                  clear h4
                  go_wp2_with (first
                    | (go_at_call 29; have J2 := J1; clear J1; refine (inx_val a true p d HC1 _ HQ.out.law.txt).mono ?_; rintro e v1 ⟨rfl, hb1⟩; have HK1 := Lib.hid (hb1); obtain ⟨⟨⟨x0, x1, y0, y1⟩, -, -, -⟩, ⟨-, a0, a1, a2, a3, a4, a5, a6, -⟩, ⟨-, b0, b1, b2, b3, b4, b5, b6, -⟩, -⟩ := HQ.out.below HK1.out; clear hb1)
                    | (go_at_call 29; have J3 := J2; clear J2; refine (inx_val b true p d HC2 _ (HQ.out.below HK1.out).law.txt).mono ?_; rintro e v2 ⟨rfl, hb2⟩; have HK2 := Lib.hid (HK1.out.trans (hb2.mono HK1.out.size)); obtain ⟨⟨⟨x0, x1, y0, y1⟩, -, -, -⟩, ⟨-, a0, a1, a2, a3, a4, a5, a6, -⟩, ⟨-, b0, b1, b2, b3, b4, b5, b6, -⟩, -⟩ := HQ.out.below HK2.out; clear hb2)
                    | (go_at_call 29; have J4 := J3; clear J3; refine (iny_val a true p d HC3 _ (HQ.out.below HK2.out).law.txt nb (HQ.out.below HK2.out).nm).mono ?_; rintro e v3 ⟨rfl, hb3⟩; have HK3 := Lib.hid (HK2.out.trans (hb3.mono HK2.out.size)); obtain ⟨⟨⟨x0, x1, y0, y1⟩, -, -, -⟩, ⟨-, a0, a1, a2, a3, a4, a5, a6, -⟩, ⟨-, b0, b1, b2, b3, b4, b5, b6, -⟩, -⟩ := HQ.out.below HK3.out; clear hb3)
                    | (go_at_call 29; have J5 := J4; clear J4; refine (iny_val b false p d HC4 _ (HQ.out.below HK3.out).law.txt nb (HQ.out.below HK3.out).nm).mono ?_; rintro e v4 ⟨rfl, hb4⟩; have HK4 := Lib.hid (HK3.out.trans (hb4.mono HK3.out.size)); obtain ⟨⟨⟨x0, x1, y0, y1⟩, -, -, -⟩, ⟨-, a0, a1, a2, a3, a4, a5, a6, -⟩, ⟨-, b0, b1, b2, b3, b4, b5, b6, -⟩, -⟩ := HQ.out.below HK4.out; clear hb4))
                  go_ret
                  exact ⟨rfl, HBWN.out.trans ((HBO.out.trans ((HBQ.out.trans (HWY.out.mono HBQ.out.size)).mono HBO.out.size) |>.trans (HK4.out.mono (HBO.out.trans ((HBQ.out.trans (HWY.out.mono HBQ.out.size)).mono HBO.out.size)).size)).mono HBWN.out.size)⟩
                · have HC4 := Lib.hid h4
                  clear h4
                  go_wp2_with (first
                    | (go_at_call 29; have J2 := J1; clear J1; refine (inx_val a true p d HC1 _ HQ.out.law.txt).mono ?_; rintro e v1 ⟨rfl, hb1⟩; have HK1 := Lib.hid (hb1); obtain ⟨⟨⟨x0, x1, y0, y1⟩, -, -, -⟩, ⟨-, a0, a1, a2, a3, a4, a5, a6, -⟩, ⟨-, b0, b1, b2, b3, b4, b5, b6, -⟩, -⟩ := HQ.out.below HK1.out; clear hb1)
                    | (go_at_call 29; have J3 := J2; clear J2; refine (inx_val b true p d HC2 _ (HQ.out.below HK1.out).law.txt).mono ?_; rintro e v2 ⟨rfl, hb2⟩; have HK2 := Lib.hid (HK1.out.trans (hb2.mono HK1.out.size)); obtain ⟨⟨⟨x0, x1, y0, y1⟩, -, -, -⟩, ⟨-, a0, a1, a2, a3, a4, a5, a6, -⟩, ⟨-, b0, b1, b2, b3, b4, b5, b6, -⟩, -⟩ := HQ.out.below HK2.out; clear hb2)
                    | (go_at_call 29; have J4 := J3; clear J3; refine (iny_val a true p d HC3 _ (HQ.out.below HK2.out).law.txt nb (HQ.out.below HK2.out).nm).mono ?_; rintro e v3 ⟨rfl, hb3⟩; have HK3 := Lib.hid (HK2.out.trans (hb3.mono HK2.out.size)); obtain ⟨⟨⟨x0, x1, y0, y1⟩, -, -, -⟩, ⟨-, a0, a1, a2, a3, a4, a5, a6, -⟩, ⟨-, b0, b1, b2, b3, b4, b5, b6, -⟩, -⟩ := HQ.out.below HK3.out; clear hb3)
                    | (go_at_call 29; have J5 := J4; clear J4; refine (iny_val b true p d HC4 _ (HQ.out.below HK3.out).law.txt nb (HQ.out.below HK3.out).nm).mono ?_; rintro e v4 ⟨rfl, hb4⟩; have HK4 := Lib.hid (HK3.out.trans (hb4.mono HK3.out.size)); obtain ⟨⟨⟨x0, x1, y0, y1⟩, -, -, -⟩, ⟨-, a0, a1, a2, a3, a4, a5, a6, -⟩, ⟨-, b0, b1, b2, b3, b4, b5, b6, -⟩, -⟩ := HQ.out.below HK4.out; clear hb4))
                  go_roundw
                  case rel => exact ⟨d + 1, by go_num, hltd, HBQ.out.trans ((HWY.out.trans (HK4.out.mono HWY.out.size)).mono HBQ.out.size), fun d' hd' => by
                    rcases Nat.lt_succ_iff_lt_or_eq.1 hd' with h | rfl
                    · exact hnd.out d' h
                    · unfold condPD; simp only [HC1.out, HC2.out, HC3.out, HC4.out]; rfl⟩
                  case measure => simp [intOf]; omega
        · have hged : ¬ ((d : Int) < 2) := by omega
          have hd2 : d = 2 := by omega
          subst hd2
          go_wp2
          go_roundw
          case rel => exact ⟨p + 1, by go_num, hltp, HBO.out.trans (HBQ.out.mono HBO.out.size), fun p' hp' => by
            rcases Nat.lt_succ_iff_lt_or_eq.1 hp' with h | rfl
            · exact hnp.out p' h
            · exact hnd.out⟩
          case measure => simp [intOf]; omega
    · have hgep : ¬ ((p : Int) < 10) := by omega
      exact absurd (HLW.out HWI.out fun p' hp' => hnp.out p' (by omega)) id
theorem scopeWithin_walk (a b : ScV) (o : ObjV) (A : Option Addr) (c : Nat) (ls : List LabV) (w : World) (ht : TextsAt w) (h : ObjFit w o A ls) : Calls Tryd.prog 6 #[a.val, b.val, o.val A c] w fun e w' => e = .returned (.bool true) ∧ Below w.heap.size w w' := by
  cases hva : validS a
  · exact scopeWithin_bad a b o A c ls w ht h (.inl hva)
  · cases hvb : validS b
    · exact scopeWithin_bad a b o A c ls w ht h (.inr hvb)
    · cases hw : withinS a b
      · exact scopeWithin_no a b o A c ls w ht h hva hvb hw
      · exact scopeWithin_in a b o A c ls w ht h hva hvb hw
end Go.Proofs.YtdchffghgajbfaaDoor
