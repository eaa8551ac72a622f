/- scope: Parse. -/
import Derived.Test.YtdchffghgajbfaaV8
import Derived.Test.YtdchffghgajbfaaShelf
namespace Go.Proofs.Ytdchffghgajbfaa
open Go.RowKit

theorem parse_none {t : ByteArray} (h : ∀ s ∈ allS, textS s ≠ t) : parseS t = (⟨0, 0⟩, 150) := by
  unfold parseS parseIn
  rw [List.find?_eq_none.2 fun s hs => by simpa using h s hs]
theorem text_kind {k : Nat} (hk : k < 5) : ∀ s ∈ allS, s.kind = k → textS s = textK k := by
  intro s hs he
  have : s.kind ≠ 5 := by omega
  unfold textS
  rw [if_neg this, he]
/-- of those of a kind below k none has this text -/
def NotTo (k : Nat) (t : ByteArray) : Prop := ∀ s ∈ allS, s.kind < k → textS s ≠ t
theorem kind_nonneg : ∀ s ∈ allS, 0 ≤ s.kind ∧ s.kind < 6 := by decide
theorem five_arg : ∀ s ∈ allS, s.kind = 5 → 0 ≤ s.arg ∧ s.arg < 10 := by decide
theorem NotTo.zero (t : ByteArray) : NotTo 0 t := fun s hs h => by have := kind_nonneg s hs; omega
theorem NotTo.step {k : Nat} {t : ByteArray} (h : NotTo k t) (hk : k < 5) (ht : t ≠ textK k) : NotTo (k + 1) t := fun s hs hl => by
  by_cases he : s.kind = k
  · rw [text_kind hk s hs he]; exact fun e => ht e.symm
  · exact h s hs (by omega)
theorem NotTo.last {t : ByteArray} (h : NotTo 5 t) (ht : ∀ a : Int, 0 ≤ a → a < 10 → t ≠ textK 5 ++ digB a) : NotTo 6 t := fun s hs hl => by
  by_cases he : s.kind = 5
  · have := five_arg s hs he
    unfold textS
    rw [if_pos he]
    exact fun e => ht s.arg this.1 this.2 e.symm
  · exact h s hs (by omega)
theorem NotTo.none {t : ByteArray} (h : NotTo 6 t) : parseS t = (⟨0, 0⟩, 150) := parse_none fun s hs => h s hs (by have := kind_nonneg s hs; omega)
theorem parse_kind {k : Nat} (hk : k < 5) : parseS (textK k) = (⟨k, 0⟩, 0) := by
  have : k = 0 ∨ k = 1 ∨ k = 2 ∨ k = 3 ∨ k = 4 := by omega
  rcases this with rfl | rfl | rfl | rfl | rfl
  · exact parse_text ⟨0, 0⟩ (by decide)
  · exact parse_text ⟨1, 0⟩ (by decide)
  · exact parse_text ⟨2, 0⟩ (by decide)
  · exact parse_text ⟨3, 0⟩ (by decide)
  · exact parse_text ⟨4, 0⟩ (by decide)
theorem parse_dig {a : Int} (h : 0 ≤ a ∧ a < 10) : parseS (textK 5 ++ digB a) = (⟨5, a⟩, 0) := by
  refine parse_text ⟨5, a⟩ ?_
  have : a = 0 ∨ a = 1 ∨ a = 2 ∨ a = 3 ∨ a = 4 ∨ a = 5 ∨ a = 6 ∨ a = 7 ∨ a = 8 ∨ a = 9 := by omega
  rcases this with rfl | rfl | rfl | rfl | rfl | rfl | rfl | rfl | rfl | rfl <;> decide
/-- what CutPrefix answers -/
theorem cut_no {t p : ByteArray} (h : Lib.hasPrefix t.data.toList p.data.toList = false) (r : ByteArray) : t ≠ p ++ r := by
  rintro rfl
  have : Lib.hasPrefix (p ++ r).data.toList p.data.toList = true := by simp [Lib.hasPrefix]
  rw [this] at h; cases h
theorem cut_yes {t p : ByteArray} (h : Lib.hasPrefix t.data.toList p.data.toList = true) : t = p ++ ⟨(Lib.trimPrefix t.data.toList p.data.toList).toArray⟩ := by
  have h2 : p.data.toList <+: t.data.toList := List.isPrefixOf_iff_prefix.1 h
  obtain ⟨r, hr⟩ := h2
  refine bytes_inj ?_
  unfold Lib.trimPrefix
  rw [if_pos h, ← hr]
  simp

def ParsePost (p : ScV × Int) (w : World) (e : Ending) (w' : World) : Prop := e = .returned (.tuple #[.agg #[.int .i64 p.1.kind, .int .i64 p.1.arg], .int .i64 p.2]) ∧ Below w.heap.size w w'
theorem one_byte {R : ByteArray} (h : R.size = 1) : ∃ b : UInt8, R = ⟨#[b]⟩ := by
  obtain ⟨⟨l⟩⟩ := R
  match l, h with
  | [b], _ => exact ⟨b, rfl⟩
theorem dig_byte {b : UInt8} (h : 48 ≤ b.toNat) : (⟨#[b]⟩ : ByteArray) = digB ((b.toNat : Int) - 48) := by
  unfold digB
  have : 48 + ((b.toNat : Int) - 48).toNat = b.toNat := by omega
  rw [this]; simp
theorem dig_inj {a : Int} {b : UInt8} (ha : 0 ≤ a ∧ a < 10) (h : (⟨#[b]⟩ : ByteArray) = digB a) : 48 ≤ b.toNat ∧ b.toNat ≤ 57 := by
  unfold digB at h
  have h2 : b = UInt8.ofNat (48 + a.toNat) := by injection h with h; simpa using h
  rw [h2]
  simp
  omega
theorem cat_inj {p r s : ByteArray} (h : p ++ r = p ++ s) : r = s := by
  have := congrArg (fun b => b.data.toList) h
  simp only [ByteArray.data_append, Array.toList_append, List.append_cancel_left_eq] at this
  exact bytes_inj this
/-- two results, the first a struct in its own cell -/
theorem results_cell_tmp {P : Program} {fn : Func} {p u : Tmp} {ty : TypeId} (h : fn.results = #[.cell p ty, .tmp u]) (tmps : Array Value) (w : World) (g : Nat) (t : TypeId) (cs : Array Value) (fr : Nat × Nat) (d : TypeDesc)
    (hp : tmps.getD p undef = .pointer (some ⟨g, 0, none⟩)) (hg : w.heap[g]? = some (.cells cs t fr))
    (hu : P.underlying ty = some d) (hd : (match d with | .struct _ | .array _ _ => true | _ => false) = true) (hi : (P.info? ty).map (·.size) = some cs.size) :
    (results fn tmps).run P w = .ok (.tuple #[.agg cs, tmps.getD u undef]) w := by
  have hp' : tmps[p]?.getD undef = .pointer (some ⟨g, 0, none⟩) := by simpa using hp
  simp [results, h, hp', asAddr, run_loadVar_row w g t ty cs fr d hg hu hd hi]
end Go.Proofs.Ytdchffghgajbfaa
