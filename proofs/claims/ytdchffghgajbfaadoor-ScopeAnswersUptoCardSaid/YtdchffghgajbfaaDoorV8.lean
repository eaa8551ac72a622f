/- scope: Print. -/
import Derived.Test.YtdchffghgajbfaaDoorV7
namespace Go.Proofs.YtdchffghgajbfaaDoor
open Go.RowKit

def PrintPost (t : ByteArray) (n : Int) (w : World) (e : Ending) (w' : World) : Prop := e = .returned (.tuple #[.string t, .int .i64 n]) ∧ Below w.heap.size w w'
theorem print_bad (s : ScV) (w : World) (hv : validS s = false) : Calls Tryd.prog 43 #[s.val] w (PrintPost ⟨#[]⟩ 150 w) := by
  obtain ⟨k, a⟩ := s
  have hb0 := Lib.hid ((Below.refl w.heap.size w).alloc (Nat.le_refl _) (.cells #[.int .i64 k, .int .i64 a] 54))
  have HV := Lib.hid hv
  clear hv
  unfold ScV.val
  obtain ⟨s0, s1⟩ := scAt_new w k a
  go_enter Tryd.func43, Tryd.ntmps43
  go_wp2_with (go_at_call 28; refine (valid_val ⟨k, a⟩ false HV _).mono ?_; rintro e w2 ⟨rfl, hb2⟩)
  go_ret2
  exact ⟨rfl, hb0.out.trans (hb2.mono hb0.out.size)⟩
theorem print_k (k a : Int) (t : ByteArray) (f : FuncId) (w : World) (ht : TextsAt w) (hk : ∀ w, TextsAt w → Calls Tryd.prog 65 #[.int .i64 k] w (KindPost t f w)) (hv : validS ⟨k, a⟩ = true) (h5 : (k == 5) = false) :
    Calls Tryd.prog 43 #[.agg #[.int .i64 k, .int .i64 a]] w (PrintPost t 0 w) := by
  have hb0 := Lib.hid ((Below.refl w.heap.size w).alloc (Nat.le_refl _) (.cells #[.int .i64 k, .int .i64 a] 54))
  have HV := Lib.hid hv
  have HT := Lib.hid ht
  have HK := Lib.hid hk
  clear hv ht hk
  have hfld : ∀ W', (Instr.field 105 (.agg #[.string t, .func (.func f) #[] #[]]) 0).run Tryd.prog W' = .ok (.string t) W' := fun W' => by kernel_rfl
  obtain ⟨s0, s1⟩ := scAt_new w k a
  go_enter Tryd.func43, Tryd.ntmps43
  go_wp2_with (first
    | (go_at_call 28; refine (valid_val ⟨k, a⟩ true HV _).mono ?_; rintro e w2 ⟨rfl, hb2⟩; have HB2 := Lib.hid (hb0.out.trans (hb2.mono hb0.out.size)); have m0 := (hb2.cell (World.block_lt_of_cell? _ _ s0)).trans s0; clear hb2)
    | (go_at_call 65; refine (kind_val (HK.out _ (HT.out.below HB2.out))).mono ?_; rintro e w3 ⟨rfl, hb3⟩; have HB3 := Lib.hid (HB2.out.trans (hb3.mono HB2.out.size)); have n0 := (hb3.cell (World.block_lt_of_cell? _ _ m0)).trans m0; clear hb3))
  go_ret2
  exact ⟨rfl, HB3.out⟩
theorem dig_enc {a : Int} (h : 0 ≤ a ∧ a < 10) : Utf8.encode (48 + a) = digB a := by
  have : a = 0 ∨ a = 1 ∨ a = 2 ∨ a = 3 ∨ a = 4 ∨ a = 5 ∨ a = 6 ∨ a = 7 ∨ a = 8 ∨ a = 9 := by omega
  rcases this with rfl | rfl | rfl | rfl | rfl | rfl | rfl | rfl | rfl | rfl <;> decide
theorem print_5 (a : Int) (w : World) (ht : TextsAt w) (hv : validS ⟨5, a⟩ = true) : Calls Tryd.prog 43 #[.agg #[.int .i64 5, .int .i64 a]] w (PrintPost (textK 5 ++ digB a) 0 w) := by
  have hb0 := Lib.hid ((Below.refl w.heap.size w).alloc (Nat.le_refl _) (.cells #[.int .i64 5, .int .i64 a] 54))
  have HV := Lib.hid hv
  have HT := Lib.hid ht
  have hr : 0 ≤ a ∧ a < 10 := by simp [validS] at hv; omega
  have HE := Lib.hid (dig_enc hr)
  have hcat : (textK 5).size + (Utf8.encode (48 + a)).size ≤ 9223372036854775807 := by rw [HE.out]; show 9 + 1 ≤ _; omega
  clear hv ht
  have hfld : ∀ W', (Instr.field 105 (.agg #[.string (textK 5), .func (.func 94) #[] #[]]) 0).run Tryd.prog W' = .ok (.string (textK 5)) W' := fun W' => by kernel_rfl
  obtain ⟨s0, s1⟩ := scAt_new w 5 a
  go_enter Tryd.func43, Tryd.ntmps43
  go_wp2_with (first
    | (go_at_call 28; refine (valid_val ⟨5, a⟩ true HV _).mono ?_; rintro e w2 ⟨rfl, hb2⟩; have HB2 := Lib.hid (hb0.out.trans (hb2.mono hb0.out.size)); have m0 := (hb2.cell (World.block_lt_of_cell? _ _ s0)).trans s0; have m1 := (hb2.cell (World.block_lt_of_cell? _ _ s1)).trans s1; clear hb2)
    | (go_at_call 65; refine (kind_val (kindOf5 _ (HT.out.below HB2.out))).mono ?_; rintro e w3 ⟨rfl, hb3⟩; have HB3 := Lib.hid (HB2.out.trans (hb3.mono HB2.out.size)); have n0 := (hb3.cell (World.block_lt_of_cell? _ _ m0)).trans m0; have n1 := (hb3.cell (World.block_lt_of_cell? _ _ m1)).trans m1; clear hb3))
  go_ret2
  exact ⟨by rw [HE.out]; rfl, HB3.out⟩
theorem print_any (s : ScV) (w : World) (ht : TextsAt w) : Calls Tryd.prog 43 #[s.val] w (PrintPost (printS s).1 (printS s).2 w) := by
  cases hv : validS s
  · have := print_bad s w hv
    unfold printS; rw [hv]; exact this
  · obtain ⟨k, a⟩ := s
    unfold printS
    rw [hv]
    rcases validS_kinds hv with rfl | rfl | rfl | rfl | rfl | rfl
    · exact print_k 0 a _ _ w ht kindOf0 hv rfl
    · exact print_k 1 a _ _ w ht kindOf1 hv rfl
    · exact print_k 2 a _ _ w ht kindOf2 hv rfl
    · exact print_k 3 a _ _ w ht kindOf3 hv rfl
    · exact print_k 4 a _ _ w ht kindOf4 hv rfl
    · exact print_5 a w ht hv
end Go.Proofs.YtdchffghgajbfaaDoor
