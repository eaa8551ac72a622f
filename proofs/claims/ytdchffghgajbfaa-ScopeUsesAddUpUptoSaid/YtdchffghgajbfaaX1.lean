/- fixed: the document's one answer. -/
import Derived.Test.YtdchffghgajbfaaV3
import Derived.Test.YtdchffghgajbfaaV6
namespace Go.Proofs.Ytdchffghgajbfaa
open Go.RowKit

def cpuB : ByteArray := ⟨#[99, 112, 117]⟩
def fxReq : List Amt := [⟨cpuB, 5⟩, ⟨cpuB, 6⟩]
def fxParts : List PartV := [⟨⟨#[]⟩, fxReq, []⟩]
def fxObj : ObjV := ⟨⟨#[]⟩, ⟨#[]⟩, .slice none 0 0, 0, 0, fxParts, 0⟩
def fxReqAll : List Amt := [⟨⟨#[99, 111, 117, 110, 116]⟩, 1000⟩, ⟨⟨#[114, 101, 113, 117, 101, 115, 116, 115, 46, 99, 112, 117]⟩, 11⟩]
theorem fx_uses : (usesV fxParts).2 = 0 ∧ (usesV fxParts).1.map amtOf = fxReqAll ∧ (usesV fxParts).1.length = 2 := by
  have h : usesV fxParts = ([(countK, 1000), ([114, 101, 113, 117, 101, 115, 116, 115, 46, 99, 112, 117], 11)], 0) := by decide
  rw [h]
  exact ⟨rfl, rfl, rfl⟩
theorem fx_row (w : World) : Row kPart (fun _ => True) ((w.alloc (.cells #[.string cpuB, .int .i64 5, .string cpuB, .int .i64 6] 36)).alloc (.cells #[.string ⟨#[]⟩, .slice (some ⟨w.heap.size, 0, none⟩) 2 2, .slice none 0 0] 33)) (some ⟨w.heap.size + 1, 0, none⟩) fxParts := by
  have h0 := heap_alloc_new w (.cells #[.string cpuB, .int .i64 5, .string cpuB, .int .i64 6] 36)
  have hs : (w.alloc (.cells #[.string cpuB, .int .i64 5, .string cpuB, .int .i64 6] 36)).heap.size = w.heap.size + 1 := by simp
  have hb := (Below.refl (w.alloc (.cells #[.string cpuB, .int .i64 5, .string cpuB, .int .i64 6] 36)).heap.size _).alloc (Nat.le_refl _) (.cells #[.string ⟨#[]⟩, .slice (some ⟨w.heap.size, 0, none⟩) 2 2, .slice none 0 0] 33)
  have hreq : Row kAmt (fun _ => True) (w.alloc (.cells #[.string cpuB, .int .i64 5, .string cpuB, .int .i64 6] 36)) (some ⟨w.heap.size, 0, none⟩) fxReq := fun _ =>
    ⟨_, rfl, trivial, [.string cpuB, .int .i64 5, .string cpuB, .int .i64 6], ⟨rfl, fun i hi => by
      match i, hi with
      | 0, _ => rfl
      | 1, _ => rfl⟩, fun j u hu => by rw [add_new, cell_of_row _ _ _ _ _ _ h0]; simpa using hu⟩
  have h1 := heap_alloc_new (w.alloc (.cells #[.string cpuB, .int .i64 5, .string cpuB, .int .i64 6] 36)) (.cells #[.string ⟨#[]⟩, .slice (some ⟨w.heap.size, 0, none⟩) 2 2, .slice none 0 0] 33)
  rw [hs] at h1
  refine fun _ => ⟨_, rfl, trivial, [.string ⟨#[]⟩, .slice (some ⟨w.heap.size, 0, none⟩) 2 2, .slice none 0 0], Flat.single ?_, fun j u hu => by rw [add_new, cell_of_row _ _ _ _ _ _ h1]; simpa using hu⟩
  exact ⟨[.string ⟨#[]⟩], [.slice (some ⟨w.heap.size, 0, none⟩) 2 2, .slice none 0 0], rfl, rfl, [.slice (some ⟨w.heap.size, 0, none⟩) 2 2], [.slice none 0 0], rfl,
    ⟨_, rfl, _, 2, rfl, by decide, by unfold maxLen; omega, hreq.below hb⟩, ⟨_, rfl, none, 0, rfl, Nat.le_refl _, by unfold maxLen; omega, Row.nil _ _ _ _⟩⟩
theorem fx_names : NamesOk fxParts := by
  intro p hp
  obtain rfl : p = ⟨⟨#[]⟩, fxReq, []⟩ := by simpa [fxParts] using hp
  refine ⟨fun a ha => ?_, fun a ha => by simp at ha⟩
  simp only [fxReq, List.mem_cons, List.not_mem_nil, or_false] at ha
  rcases ha with rfl | rfl <;> exact ⟨by show 3 ≤ _; omega, by simp, by simp⟩
theorem fx_calls (w : World) : Calls Try.prog 5 #[.agg #[.string ⟨#[]⟩, .string ⟨#[]⟩, .slice none 0 0, .int .i64 0, .int .i64 0, .slice (some ⟨w.heap.size + 1, 0, none⟩) 1 1, .int .i64 0]]
    ((w.alloc (.cells #[.string cpuB, .int .i64 5, .string cpuB, .int .i64 6] 36)).alloc (.cells #[.string ⟨#[]⟩, .slice (some ⟨w.heap.size, 0, none⟩) 2 2, .slice none 0 0] 33))
    fun e w' => ∃ A c, e = .returned (.tuple #[.slice A 2 c, .int .i64 0]) ∧ Row kAmt (fun _ => True) w' A fxReqAll ∧ Below w.heap.size w w' := by
  have hok : ObjOk ((w.alloc (.cells #[.string cpuB, .int .i64 5, .string cpuB, .int .i64 6] 36)).alloc (.cells #[.string ⟨#[]⟩, .slice (some ⟨w.heap.size, 0, none⟩) 2 2, .slice none 0 0] 33)) fxObj (some ⟨w.heap.size + 1, 0, none⟩) (fun _ => True) :=
    ⟨⟨none, 0, 0, rfl⟩, fx_row w, by decide, by
      intro p hp
      obtain rfl : p = ⟨⟨#[]⟩, fxReq, []⟩ := by simpa [fxObj, fxParts] using hp
      exact ⟨by decide, by decide⟩⟩
  refine (uses_any fxObj _ 1 _ _ hok fx_names (by decide)).mono fun e w' h => ?_
  obtain ⟨A, c, he, hown, hb⟩ := h
  obtain ⟨f1, f2, f3⟩ := fx_uses
  rw [show fxObj.parts = fxParts from rfl] at he hown
  rw [f3, f2] at hown
  rw [f3, f1] at he
  refine ⟨A, c, he, hown.row'.2.1, ?_⟩
  have hb0 : Below w.heap.size w ((w.alloc (.cells #[.string cpuB, .int .i64 5, .string cpuB, .int .i64 6] 36)).alloc (.cells #[.string ⟨#[]⟩, .slice (some ⟨w.heap.size, 0, none⟩) 2 2, .slice none 0 0] 33)) :=
    ((Below.refl _ _).alloc (Nat.le_refl _) _).alloc (by simp) _
  exact hb0.trans (hb.mono hb0.size)
set_option maxRecDepth 100000 in
theorem fixed_any (w : World) : Calls Try.prog 4 #[] w fun e w' => e = .returned (.bool true) ∧ Below w.heap.size w w' := by
  have HC := Lib.hid (fx_calls w)
  have hrun : ∀ W, (binOp .eql 36 (.agg #[.string ⟨#[114, 101, 113, 117, 101, 115, 116, 115, 46, 99, 112, 117]⟩, .int .i64 11]) (.agg #[.string ⟨#[114, 101, 113, 117, 101, 115, 116, 115, 46, 99, 112, 117]⟩, .int .i64 11])).run Try.prog W = .ok (.bool true) W := fun W => by kernel_rfl
  go_enter Try.func4, Try.ntmps4
  go_upto_region 2 with (go_at_call 5; refine HC.out.mono ?_; rintro e w2 ⟨A, c, rfl, hrow, hb2⟩; obtain ⟨a, rfl, _, m0, m1⟩ := amt_at hrow 1 (by decide); have HB2 := Lib.hid hb2; clear hb2 hrow)
  simp only [fxReqAll, List.getElem_cons_succ, List.getElem_cons_zero] at m0 m1
  have ha : a.add (1 * 2) = ⟨a.block, a.off + 2, none⟩ := by simp [Addr.add]
  rw [ha] at m0 m1
  clear ha
  go_wp2_with (go_at_call 10; refine (valid_val ⟨5, 9⟩ true (Lib.hid rfl) _).mono ?_; rintro e w3 ⟨rfl, hb3⟩)
  go_ret
  exact ⟨rfl, HB2.out.trans (hb3.mono HB2.out.size)⟩
end Go.Proofs.Ytdchffghgajbfaa
