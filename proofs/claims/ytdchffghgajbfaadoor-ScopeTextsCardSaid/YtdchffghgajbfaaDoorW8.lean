/- The law ScopeTexts: the walk. -/
import Derived.Test.YtdchffghgajbfaaDoorX3
import Derived.Test.YtdchffghgajbfaaDoorX5
namespace Go.Proofs.YtdchffghgajbfaaDoor
open Go.RowKit

set_option maxRecDepth 100000 in
theorem scopeTexts_walk (t : ByteArray) (s : ScV) (w : World) (ht : TextsAt w) : Calls Tryd.prog 9 #[.string t, s.val] w fun e w' => e = .returned (.bool true) ∧ Below w.heap.size w w' := by
  have HB0 := Lib.hid ((Below.refl w.heap.size w).alloc (Nat.le_refl _) (.cells #[.int .i64 s.kind, .int .i64 s.arg] 54))
  obtain ⟨x0, x1⟩ := scAt_new w s.kind s.arg
  have X0 := Lib.hid x0
  have X1 := Lib.hid x1
  have HT := Lib.hid (ht.below HB0.out)
  obtain ⟨⟨p, n⟩, hp⟩ : ∃ r, parseS t = r := ⟨_, rfl⟩
  obtain ⟨⟨T, m⟩, hT⟩ : ∃ r, printS s = r := ⟨_, rfl⟩
  have HP := Lib.hid hp
  have HPR := Lib.hid hT
  have hrun := fun W => run_neqSc p p true (by rw [eqSc_iff]; simp) W
  have e1 : (T.toList == T.toList) = true := by simp
  unfold ScV.val
  clear hp hT ht x0 x1
  go_enter Tryd.func9, Tryd.ntmps9
  go_upto_region 4 with (go_at_call 26; refine (fixed_any _).mono ?_; rintro e w1 ⟨rfl, hb1⟩; have HB1 := Lib.hid hb1; clear hb1)
  have HT1 := Lib.hid (HT.out.below HB1.out)
  go_upto_region 5 with (go_at_call 41; refine (parse_val t p n HP _ HT1.out).mono ?_; rintro e w2 ⟨rfl, hb2⟩; have HB2 := Lib.hid (HB1.out.trans (hb2.mono HB1.out.size)); clear hb2)
  have HB3 := Lib.hid (HB2.out.alloc HB2.out.size (.cells #[.int .i64 p.kind, .int .i64 p.arg] 54))
  have PA := Lib.hid (scAt_new w2 p.kind p.arg)
  go_upto_region 6 with (go_at_call 42; refine (rparse_val t p n HP _).mono ?_; rintro e w4 ⟨rfl, hb4⟩; have HB4 := Lib.hid (HB3.out.trans (hb4.mono HB3.out.size)); have PA4 := Lib.hid (PA.out.below hb4); clear hb4)
  have HB5 := Lib.hid (HB4.out.alloc HB4.out.size (.cells #[.int .i64 p.kind, .int .i64 p.arg] 54))
  have PA5 := Lib.hid (PA4.out.below ((Below.refl w4.heap.size w4).alloc (Nat.le_refl _) (.cells #[.int .i64 p.kind, .int .i64 p.arg] 54)))
  obtain ⟨q0, q1⟩ := PA5.out
  obtain ⟨r0, r1⟩ := scAt_new w4 p.kind p.arg
  have y0 := (HB5.out.cell (World.block_lt_of_cell? _ _ X0.out)).trans X0.out
  have y1 := (HB5.out.cell (World.block_lt_of_cell? _ _ X1.out)).trans X1.out
  go_wp2_with (first
    | (go_at_call 43; refine (print_val s T m HPR _ (HT.out.below HB5.out)).mono ?_; rintro e w6 ⟨rfl, hb6⟩; have HB6 := Lib.hid (HB5.out.trans (hb6.mono HB5.out.size)); have z0 := (hb6.cell (World.block_lt_of_cell? _ _ y0)).trans y0; have z1 := (hb6.cell (World.block_lt_of_cell? _ _ y1)).trans y1; clear hb6)
    | (go_at_call 44; refine (rprint_val s T m HPR _).mono ?_; rintro e w7 ⟨rfl, hb7⟩; have HB7 := Lib.hid (HB6.out.trans (hb7.mono HB6.out.size)); clear hb7))
  go_ret
  exact ⟨rfl, HB0.out.trans (HB7.out.mono HB0.out.size)⟩
end Go.Proofs.YtdchffghgajbfaaDoor
