/- The law ScopeAnswers: the walk. -/
import Derived.Test.YtdchffghgajbfaaDoorY3
import Derived.Test.YtdchffghgajbfaaDoorY7
namespace Go.Proofs.YtdchffghgajbfaaDoor
open Go.RowKit

theorem BJ {a w w' : World} (h : Below w.heap.size w w') (k : Below a.heap.size a w) : Below a.heap.size a w' := k.trans (h.mono k.size)
/-- the boxes of the law's arguments: an object, two scopes -/
structure ALaw (W : World) (n : Nat) (s t : ScV) (o : ObjV) (A : Option Addr) (c : Nat) (ls : List LabV) : Prop where
  obj : ObjAt W n o A c
  two : TwoSc W (n + 1) (n + 1 + 1) s t
  fit : ObjFit W o A ls
  txt : TextsAt W
theorem ALaw.below {W W' : World} {n : Nat} {s t : ScV} {o : ObjV} {A : Option Addr} {c : Nat} {ls : List LabV} (h : ALaw W n s t o A c ls) (hb : Below W.heap.size W W') : ALaw W' n s t o A c ls := ⟨h.obj.below hb, h.two.below hb, h.fit.below hb, h.txt.below hb⟩
theorem aLaw (w : World) (s t : ScV) (o : ObjV) (A : Option Addr) (c : Nat) (ls : List LabV) (ht : TextsAt w) (h : ObjFit w o A ls) :
    ALaw (((w.alloc (.cells (o.cells A c) 58)).alloc (.cells #[.int .i64 s.kind, .int .i64 s.arg] 54)).alloc (.cells #[.int .i64 t.kind, .int .i64 t.arg] 54)) w.heap.size s t o A c ls ∧
    Below w.heap.size w (((w.alloc (.cells (o.cells A c) 58)).alloc (.cells #[.int .i64 s.kind, .int .i64 s.arg] 54)).alloc (.cells #[.int .i64 t.kind, .int .i64 t.arg] 54)) := by
  have h1 := objAt_new w o A c
  have hb1 : Below w.heap.size w (w.alloc (.cells (o.cells A c) 58)) := (Below.refl _ _).alloc (Nat.le_refl _) _
  have hs : (w.alloc (.cells (o.cells A c) 58)).heap.size = w.heap.size + 1 := by simp
  have h3 := twoSc (w.alloc (.cells (o.cells A c) 58)) s t
  rw [hs] at h3
  have hb2 : Below (w.alloc (.cells (o.cells A c) 58)).heap.size (w.alloc (.cells (o.cells A c) 58)) (((w.alloc (.cells (o.cells A c) 58)).alloc (.cells #[.int .i64 s.kind, .int .i64 s.arg] 54)).alloc (.cells #[.int .i64 t.kind, .int .i64 t.arg] 54)) := ((Below.refl _ _).alloc (Nat.le_refl _) _).alloc (by simp) _
  have hb := hb1.trans (hb2.mono hb1.size)
  exact ⟨⟨h1.below hb2, h3, h.below hb, ht.below hb⟩, hb⟩
theorem within_val2 (a b : ScV) (r : Bool) (hr : Hid (withinS a b = r)) (w : World) : Calls Tryd.prog 27 #[.agg #[.int .i64 a.kind, .int .i64 a.arg], .agg #[.int .i64 b.kind, .int .i64 b.arg]] w fun e w' => e = .returned (.bool r) ∧ Below w.heap.size w w' := by
  have := within_any a b w
  rw [hr.out] at this
  exact this
theorem uses_err (ps : List PartV) (h : (usesV ps).2 ≠ 0) : (usesV ps).1 = [] := by
  cases hn : (allB ps).any negA
  · cases hs : sumsA sums0 ((allB ps).map kvOf) with
    | none => rw [usesV_over hn hs]
    | some S => rw [usesV_ok hn hs] at h; exact absurd rfl h
  · rw [usesV_neg hn]
set_option maxRecDepth 100000 in
set_option maxHeartbeats 8000000 in
theorem scopeAnswers_walk (o : ObjV) (A : Option Addr) (c : Nat) (ls : List LabV) (s t : ScV) (w : World) (ht : TextsAt w) (h : ObjFit w o A ls) (hN : NamesOk o.parts) (hT : (allB o.parts).length ≤ 1073741824) :
    Calls Tryd.prog 8 #[o.val A c, s.val, t.val] w fun e w' => e = .returned (.bool true) ∧ Below w.heap.size w w' := by
  obtain ⟨B0, m0, hlab, -⟩ := h.lab
  obtain ⟨hla, hb0⟩ := aLaw w s t o A c ls ht h
  have hn62 : o.parts.length ≤ 1152921504606846976 := by have := h.n64; omega
  have HP24 := Lib.hid h.ok.small
  unfold ObjV.val ScV.val
  obtain ⟨w0, hw0⟩ : ∃ w0, ((w.alloc (.cells (o.cells A c) 58)).alloc (.cells #[.int .i64 s.kind, .int .i64 s.arg] 54)).alloc (.cells #[.int .i64 t.kind, .int .i64 t.arg] 54) = w0 := ⟨_, rfl⟩
  rw [hw0] at hb0 hla
  unfold ObjV.cells at hw0
  rw [hlab] at hw0 ⊢
  have HB0 := Lib.hid hb0
  have HLA := Lib.hid hla
  have HLAB := Lib.hid hlab
  have HN := Lib.hid hN
  have HT := Lib.hid hT
  have HT2 := Lib.hid (show (allB o.parts).length ≤ 1099511627776 by omega)
  obtain ⟨M, hM⟩ : ∃ M, ofS o 6 = M := ⟨_, rfl⟩
  have HM := Lib.hid hM
  obtain ⟨qa, hqa⟩ : ∃ qa, M.length = qa := ⟨_, rfl⟩
  have HQA := Lib.hid hqa
  have hq3 : qa ≤ 4 := by
    rw [← hqa, ← hM, of_all, in_all, List.length_append]
    simp only [List.length_cons, List.length_nil]
    split <;> simp
  obtain ⟨U, hU⟩ : ∃ U, (usesV o.parts).1.map amtOf = U := ⟨_, rfl⟩
  have HU := Lib.hid hU
  obtain ⟨qu, hqu⟩ : ∃ qu, U.length = qu := ⟨_, rfl⟩
  have HQU := Lib.hid hqu
  obtain ⟨eu, heu⟩ : ∃ eu, (usesV o.parts).2 = eu := ⟨_, rfl⟩
  have HEU := Lib.hid heu
  have hqu9 : qu ≤ 1099511627777 := by
    rw [← hqu, ← hU, List.length_map]
    have := usesV_len o.parts
    omega
  have HERR := Lib.hid (show eu ≠ 0 → qu = 0 from fun h => by
    rw [← hqu, ← hU, uses_err o.parts (by rw [heu]; exact h)]; rfl)
  obtain ⟨bv, hbv⟩ : ∃ b, validS s = b := ⟨_, rfl⟩
  obtain ⟨bi, hbi⟩ : ∃ b, inS o.prio o.dl o.parts s = b := ⟨_, rfl⟩
  obtain ⟨bw, hbw⟩ : ∃ b, withinS s t = b := ⟨_, rfl⟩
  have HBV := Lib.hid hbv
  have HBI := Lib.hid hbi
  have HBWI := Lib.hid hbw
  clear hb0 hla hlab ht h hN hT hM hqa hU hqu heu hbv hbi hbw
  go_enter Tryd.func8, Tryd.ntmps8
  go_upto_region 4 with (go_at_call 26; refine (fixed_any _).mono ?_; rintro e w1 ⟨rfl, hb1⟩; have HB1 := Lib.hid hb1; clear hb1)
  clear hw0
  have HL1 := Lib.hid (HLA.out.below HB1.out)
  obtain ⟨x0, x1, x2, x3, x4, x5, x6⟩ := HL1.out.obj
  rw [HLAB.out] at x2
  go_upto_region 5 with (go_at_call 30; refine (own_val o A c ls B0 m0 HLAB.out _ HL1.out.fit).mono ?_; rintro e w2 ⟨L2, m2, B2, c2, rfl, hf2, hb2⟩; have HF2 := Lib.hid hf2; have HB2 := Lib.hid hb2; clear hf2 hb2)
  clear x0 x1 x2 x3 x4 x5 x6
  have HX3 := Lib.hid (OBox.of (heap_alloc_new w2 (.cells #[.string o.path, .string o.name, .slice L2 ls.length m2, .int .i64 o.prio, .int .i64 o.dl, .slice B2 o.parts.length c2, .int .i64 o.ver] 58)))
  have HB3 := Lib.hid (show Below w1.heap.size w1 (w2.alloc (.cells #[.string o.path, .string o.name, .slice L2 ls.length m2, .int .i64 o.prio, .int .i64 o.dl, .slice B2 o.parts.length c2, .int .i64 o.ver] 58)) from HB2.out.alloc HB2.out.size _)
  have HF3 := Lib.hid (HF2.out.below ((Below.refl w2.heap.size w2).alloc (Nat.le_refl _) (.cells #[.string o.path, .string o.name, .slice L2 ls.length m2, .int .i64 o.prio, .int .i64 o.dl, .slice B2 o.parts.length c2, .int .i64 o.ver] 58)))
  obtain ⟨pb, hpb⟩ : ∃ pb, w2.heap.size = pb := ⟨_, rfl⟩
  rw [hpb] at HX3 ⊢
  generalize hw3 : w2.alloc (.cells #[.string o.path, .string o.name, .slice L2 ls.length m2, .int .i64 o.prio, .int .i64 o.dl, .slice B2 o.parts.length c2, .int .i64 o.ver] 58) = w3 at HX3 HB3 HF3 ⊢
  clear hw3 HF2 HB2 hpb
  have HL3 := Lib.hid (HL1.out.below HB3.out)
  have HEND := Lib.hid (HB0.out.trans ((HB1.out.trans (HB3.out.mono HB1.out.size)).mono HB0.out.size))
  have HS := Lib.hid (show ∀ w', Below w3.heap.size w3 w' → (w'.cell? ⟨w.heap.size, 0, none⟩ = some (.string o.path) ∧ w'.cell? ⟨w.heap.size, 1, none⟩ = some (.string o.name) ∧ w'.cell? ⟨w.heap.size, 2, none⟩ = some (.slice B0 ls.length m0) ∧ w'.cell? ⟨w.heap.size, 3, none⟩ = some (.int .i64 o.prio) ∧ w'.cell? ⟨w.heap.size, 4, none⟩ = some (.int .i64 o.dl) ∧ w'.cell? ⟨w.heap.size, 5, none⟩ = some (.slice A o.parts.length c) ∧ w'.cell? ⟨w.heap.size, 6, none⟩ = some (.int .i64 o.ver) ∧ w'.cell? ⟨w.heap.size + 1, 0, none⟩ = some (.int .i64 s.kind) ∧ w'.cell? ⟨w.heap.size + 1, 1, none⟩ = some (.int .i64 s.arg) ∧ w'.cell? ⟨w.heap.size + 1 + 1, 0, none⟩ = some (.int .i64 t.kind) ∧ w'.cell? ⟨w.heap.size + 1 + 1, 1, none⟩ = some (.int .i64 t.arg) ∧ w'.cell? ⟨pb, 0, none⟩ = some (.string o.path) ∧ w'.cell? ⟨pb, 1, none⟩ = some (.string o.name) ∧ w'.cell? ⟨pb, 2, none⟩ = some (.slice L2 ls.length m2) ∧ w'.cell? ⟨pb, 3, none⟩ = some (.int .i64 o.prio) ∧ w'.cell? ⟨pb, 4, none⟩ = some (.int .i64 o.dl) ∧ w'.cell? ⟨pb, 5, none⟩ = some (.slice B2 o.parts.length c2) ∧ w'.cell? ⟨pb, 6, none⟩ = some (.int .i64 o.ver)) from fun w' hb => by
    obtain ⟨x0, x1, x2, x3, x4, x5, x6⟩ := (HL3.out.below hb).obj
    rw [HLAB.out] at x2
    obtain ⟨y0, y1, z0, z1⟩ := (HL3.out.below hb).two
    obtain ⟨-, p0, p1, p2, p3, p4, p5, p6, -⟩ := HX3.out.below hb
    exact ⟨x0, x1, x2, x3, x4, x5, x6, y0, y1, z0, z1, p0, p1, p2, p3, p4, p5, p6⟩)
  go_cut [48] (fun v wx => v = .bool false ∧ Below w3.heap.size w3 wx)
  case first =>
    go_region_held3 (fun w' => w'.cell? ⟨w.heap.size, 0, none⟩ = some (.string o.path) ∧ w'.cell? ⟨w.heap.size, 1, none⟩ = some (.string o.name) ∧ w'.cell? ⟨w.heap.size, 2, none⟩ = some (.slice B0 ls.length m0) ∧ w'.cell? ⟨w.heap.size, 3, none⟩ = some (.int .i64 o.prio) ∧ w'.cell? ⟨w.heap.size, 4, none⟩ = some (.int .i64 o.dl) ∧ w'.cell? ⟨w.heap.size, 5, none⟩ = some (.slice A o.parts.length c) ∧ w'.cell? ⟨w.heap.size, 6, none⟩ = some (.int .i64 o.ver) ∧ w'.cell? ⟨w.heap.size + 1, 0, none⟩ = some (.int .i64 s.kind) ∧ w'.cell? ⟨w.heap.size + 1, 1, none⟩ = some (.int .i64 s.arg) ∧ w'.cell? ⟨w.heap.size + 1 + 1, 0, none⟩ = some (.int .i64 t.kind) ∧ w'.cell? ⟨w.heap.size + 1 + 1, 1, none⟩ = some (.int .i64 t.arg) ∧ w'.cell? ⟨pb, 0, none⟩ = some (.string o.path) ∧ w'.cell? ⟨pb, 1, none⟩ = some (.string o.name) ∧ w'.cell? ⟨pb, 2, none⟩ = some (.slice L2 ls.length m2) ∧ w'.cell? ⟨pb, 3, none⟩ = some (.int .i64 o.prio) ∧ w'.cell? ⟨pb, 4, none⟩ = some (.int .i64 o.dl) ∧ w'.cell? ⟨pb, 5, none⟩ = some (.slice B2 o.parts.length c2) ∧ w'.cell? ⟨pb, 6, none⟩ = some (.int .i64 o.ver)) (exact HS.out _ (by repeat (first | exact HK9.out | exact HK8.out | exact HK7.out | exact HK6.out | exact HK5.out | exact HK4.out | exact HK3.out | exact HK2.out | exact HK1.out | exact Below.refl _ _ | refine Below.drew ?_))) (first
      | (go_at_call 28; refine (valid_val s bv HBV _).mono ?_; rintro e v1 ⟨rfl, hb1⟩; have HK1 := Lib.hid (show Below w3.heap.size w3 v1 from BJ hb1 (by repeat (first | exact Below.refl _ _ | refine Below.drew ?_))); clear hb1)
      | (go_at_call 36; refine (rvalid_val s bv HBV _).mono ?_; rintro e v2 ⟨rfl, hb2⟩; have HK2 := Lib.hid (show Below w3.heap.size w3 v2 from BJ hb2 (by repeat (first | exact HK1.out | exact Below.refl _ _ | refine Below.drew ?_))); clear hb2)
      | (go_at_call 29; refine (in_val s bi o HBI _ _ _ _ _ (fun _ => True) _ ?_ ?_).mono ?_; exact HF3.out.ok.below (by repeat (first | exact HK2.out | exact HK1.out | exact Below.refl _ _ | refine Below.drew ?_)); exact HL3.out.txt.below (by repeat (first | exact HK2.out | exact HK1.out | exact Below.refl _ _ | refine Below.drew ?_)); rintro e v3 ⟨rfl, hb3⟩; have HK3 := Lib.hid (show Below w3.heap.size w3 v3 from BJ hb3 (by repeat (first | exact HK2.out | exact HK1.out | exact Below.refl _ _ | refine Below.drew ?_))); clear hb3)
      | (go_at_call 37; refine (rin_val s bi o HBI _ _ _ A c (fun _ => True) _ ?_ hn62 HP24.out).mono ?_; exact HL3.out.fit.row.below (by repeat (first | exact HK3.out | exact HK2.out | exact HK1.out | exact Below.refl _ _ | refine Below.drew ?_)); rintro e v4 ⟨rfl, hb4⟩; have HK4 := Lib.hid (show Below w3.heap.size w3 v4 from BJ hb4 (by repeat (first | exact HK3.out | exact HK2.out | exact HK1.out | exact Below.refl _ _ | refine Below.drew ?_))); clear hb4)
      | (go_at_call 27; refine (within_val2 s t bw HBWI _).mono ?_; rintro e v5 ⟨rfl, hb5⟩; have HK5 := Lib.hid (show Below w3.heap.size w3 v5 from BJ hb5 (by repeat (first | exact HK4.out | exact HK3.out | exact HK2.out | exact HK1.out | exact Below.refl _ _ | refine Below.drew ?_))); clear hb5)
      | (go_at_call 38; refine (rwithin_val s t bw HBWI _).mono ?_; rintro e v6 ⟨rfl, hb6⟩; have HK6 := Lib.hid (show Below w3.heap.size w3 v6 from BJ hb6 (by repeat (first | exact HK5.out | exact HK4.out | exact HK3.out | exact HK2.out | exact HK1.out | exact Below.refl _ _ | refine Below.drew ?_))); clear hb6)
      | (go_at_call 31; refine (of_val o M qa HM HQA.out _ _ _ _ _ (fun _ => True) _ ?_ ?_).mono ?_; exact HF3.out.ok.below (by repeat (first | exact HK6.out | exact HK5.out | exact HK4.out | exact HK3.out | exact HK2.out | exact HK1.out | exact Below.refl _ _ | refine Below.drew ?_)); exact HL3.out.txt.below (by repeat (first | exact HK6.out | exact HK5.out | exact HK4.out | exact HK3.out | exact HK2.out | exact HK1.out | exact Below.refl _ _ | refine Below.drew ?_)); rintro e v7 ⟨C7, d7, rfl, hrow7, hb7⟩; have HRW7 := Lib.hid hrow7; clear hrow7; have HK7 := Lib.hid (show Below w3.heap.size w3 v7 from BJ hb7 (by repeat (first | exact HK6.out | exact HK5.out | exact HK4.out | exact HK3.out | exact HK2.out | exact HK1.out | exact Below.refl _ _ | refine Below.drew ?_))); clear hb7)
      | (go_at_call 39; refine (rof_val o M qa HM HQA.out _ _ _ A c (fun _ => True) _ ?_ hn62 HP24.out).mono ?_; exact HL3.out.fit.row.below (by repeat (first | exact HK7.out | exact HK6.out | exact HK5.out | exact HK4.out | exact HK3.out | exact HK2.out | exact HK1.out | exact Below.refl _ _ | refine Below.drew ?_)); rintro e v8 ⟨C8, d8, rfl, hrow8, hb8⟩; have HRW8 := Lib.hid hrow8; clear hrow8; have HB78 := Lib.hid (show Below v7.heap.size v7 v8 from BJ hb8 (by repeat (first | exact Below.refl _ _ | refine Below.drew ?_))); have HK8 := Lib.hid (show Below w3.heap.size w3 v8 from BJ hb8 (by repeat (first | exact HK7.out | exact HK6.out | exact HK5.out | exact HK4.out | exact HK3.out | exact HK2.out | exact HK1.out | exact Below.refl _ _ | refine Below.drew ?_))); clear hb8)
      | (go_at_call 34; refine (same_val _ _ qa _ _ M HQA.out (by omega) _ ?_ ?_).mono ?_; exact HRW7.out.below (by repeat (first | exact HB78.out | refine Below.drew ?_)); exact HRW8.out.below (by repeat (first | exact Below.refl _ _ | refine Below.drew ?_)); rintro e v9 ⟨rfl, hb9⟩; have HK9 := Lib.hid (show Below w3.heap.size w3 v9 from BJ hb9 (by repeat (first | exact HK8.out | exact HK7.out | exact HK6.out | exact HK5.out | exact HK4.out | exact HK3.out | exact HK2.out | exact HK1.out | exact Below.refl _ _ | refine Below.drew ?_))); clear hb9))
    all_goals (go_wp2_with fail; go_meet; exact ⟨rfl, by first | exact HK9.out | skip⟩)
  case rest =>
    obtain ⟨rfl, hb4⟩ := hcut
    rename World => w4
    have HB4 := Lib.hid hb4
    clear hb4
    have HB4F := Lib.hid (HEND.out.trans (HB4.out.mono HEND.out.size))
    obtain ⟨-, -, -, -, -, -, -, -, -, -, -, p0, p1, p2, p3, p4, p5, p6⟩ := HS.out _ HB4.out
    go_upto_region 9 with (first
      | (go_at_call 32; refine (uses_own o U qu eu HU HQU.out HEU HN.out HT2.out _ _ _ _ _ (fun _ => True) _ (HF3.out.ok.below HB4.out)).mono ?_; rintro e w5 ⟨A5, c5, rfl, hown, hb⟩; have RU5 := Lib.hid ((own_rows hown).mono fun _ _ => True.intro); have HB5 := Lib.hid (HB4.out.trans (hb.mono HB4.out.size)); obtain ⟨x0, x1, x2, x3, x4, x5, x6, -, -, -, -, -, -, -, -, -, -, -⟩ := HS.out _ (HB4.out.trans (hb.mono HB4.out.size)); clear hown hb)
      | (go_at_call 40; refine (ruses_any o U qu eu HU HQU HEU HN.out HT.out _ _ _ A c (fun _ => True) _ (HL3.out.fit.row.below HB5.out) hn62 HP24.out).mono ?_; rintro e w6 ⟨A6, c6, rfl, hrow, hb⟩; have RU6 := Lib.hid hrow; have HB56 := Lib.hid hb; have HB6 := Lib.hid (HB5.out.trans (hb.mono HB5.out.size)); clear hrow hb))
    clear p0 p1 p2 p3 p4 p5 p6 x0 x1 x2 x3 x4 x5 x6
    obtain ⟨x0, x1, x2, x3, x4, x5, x6, -, -, -, -, p0, p1, p2, p3, p4, p5, p6⟩ := HS.out _ HB6.out
    by_cases h0 : eu = 0
    · have e0 : (eu == 0) = true := by simpa using h0
      clear h0
      go_wp2_with (first
        | (go_at_call 35; refine (sameAmts_val _ _ qu _ _ _ _ U _ (RU5.out.below HB56.out) RU6.out HQU.out (by omega)).mono ?_; rintro e w7 ⟨rfl, hb⟩; have HB7 := Lib.hid (HB6.out.trans (hb.mono HB6.out.size)); obtain ⟨x0, x1, x2, x3, x4, x5, x6, -, -, -, -, p0, p1, p2, p3, p4, p5, p6⟩ := HS.out _ (HB6.out.trans (hb.mono HB6.out.size)); clear hb)
        | (go_at_call 33; refine (sameParts_val o _ _ _ _ _ _ _ _ _ _ (fun _ => True) (fun _ => True) _ (HF3.out.row.below HB7.out) (HL3.out.fit.row.below HB7.out) hn62 HP24.out).mono ?_; rintro e w8 ⟨rfl, hb⟩; have HB8 := Lib.hid (HB7.out.trans (hb.mono HB7.out.size)); clear hb))
      go_ret
      exact ⟨rfl, HEND.out.trans (HB8.out.mono HEND.out.size)⟩
    · have e0 : (eu == 0) = false := by simpa using h0
      have hq0 := HERR.out h0
      subst hq0
      clear h0
      go_wp2_with (first
        | (go_at_call 35; refine (sameAmts_val _ _ 0 _ _ _ _ U _ (RU5.out.below HB56.out) RU6.out HQU.out (by omega)).mono ?_; rintro e w7 ⟨rfl, hb⟩; have HB7 := Lib.hid (HB6.out.trans (hb.mono HB6.out.size)); obtain ⟨x0, x1, x2, x3, x4, x5, x6, -, -, -, -, p0, p1, p2, p3, p4, p5, p6⟩ := HS.out _ (HB6.out.trans (hb.mono HB6.out.size)); clear hb)
        | (go_at_call 33; refine (sameParts_val o _ _ _ _ _ _ _ _ _ _ (fun _ => True) (fun _ => True) _ (HF3.out.row.below HB7.out) (HL3.out.fit.row.below HB7.out) hn62 HP24.out).mono ?_; rintro e w8 ⟨rfl, hb⟩; have HB8 := Lib.hid (HB7.out.trans (hb.mono HB7.out.size)); clear hb))
      go_ret
      exact ⟨rfl, HEND.out.trans (HB8.out.mono HEND.out.size)⟩
end Go.Proofs.YtdchffghgajbfaaDoor
