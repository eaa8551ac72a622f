/- scope: Parse. -/
import Derived.Test.YtdchffghgajbfaaDoorV8
import Derived.Test.YtdchffghgajbfaaDoorShelf
namespace Go.Proofs.YtdchffghgajbfaaDoor
open Go.RowKit

theorem parse_none {t : ByteArray} (h : ∀ s ∈ allS, textS s ≠ t) : parseS t = (⟨0, 0⟩, 150) := by
  unfold parseS parseIn
  rw [List.find?_eq_none.2 fun s hs => by simpa using h s hs]
theorem text_kind {k : Nat} (hk : k < 5) : ∀ s ∈ allS, s.kind = k → textS s = textK k := by
  intro s hs he
  have : s.kind ≠ 5 := by omega
  unfold textS
  rw [if_neg this, he]
/-- of those of a kind below k none has this text -/
def NotTo (k : Nat) (t : ByteArray) : Prop := ∀ s ∈ allS, s.kind < k → textS s ≠ t
theorem kind_nonneg : ∀ s ∈ allS, 0 ≤ s.kind ∧ s.kind < 6 := by decide
theorem five_arg : ∀ s ∈ allS, s.kind = 5 → 0 ≤ s.arg ∧ s.arg < 10 := by decide
theorem NotTo.zero (t : ByteArray) : NotTo 0 t := fun s hs h => by have := kind_nonneg s hs; omega
theorem NotTo.step {k : Nat} {t : ByteArray} (h : NotTo k t) (hk : k < 5) (ht : t ≠ textK k) : NotTo (k + 1) t := fun s hs hl => by
  by_cases he : s.kind = k
  · rw [text_kind hk s hs he]; exact fun e => ht e.symm
  · exact h s hs (by omega)
theorem NotTo.last {t : ByteArray} (h : NotTo 5 t) (ht : ∀ a : Int, 0 ≤ a → a < 10 → t ≠ textK 5 ++ digB a) : NotTo 6 t := fun s hs hl => by
  by_cases he : s.kind = 5
  · have := five_arg s hs he
    unfold textS
    rw [if_pos he]
    exact fun e => ht s.arg this.1 this.2 e.symm
  · exact h s hs (by omega)
theorem NotTo.none {t : ByteArray} (h : NotTo 6 t) : parseS t = (⟨0, 0⟩, 150) := parse_none fun s hs => h s hs (by have := kind_nonneg s hs; omega)
theorem parse_kind {k : Nat} (hk : k < 5) : parseS (textK k) = (⟨k, 0⟩, 0) := by
  have : k = 0 ∨ k = 1 ∨ k = 2 ∨ k = 3 ∨ k = 4 := by omega
  rcases this with rfl | rfl | rfl | rfl | rfl
  · exact parse_text ⟨0, 0⟩ (by decide)
  · exact parse_text ⟨1, 0⟩ (by decide)
  · exact parse_text ⟨2, 0⟩ (by decide)
  · exact parse_text ⟨3, 0⟩ (by decide)
  · exact parse_text ⟨4, 0⟩ (by decide)
theorem parse_dig {a : Int} (h : 0 ≤ a ∧ a < 10) : parseS (textK 5 ++ digB a) = (⟨5, a⟩, 0) := by
  refine parse_text ⟨5, a⟩ ?_
  have : a = 0 ∨ a = 1 ∨ a = 2 ∨ a = 3 ∨ a = 4 ∨ a = 5 ∨ a = 6 ∨ a = 7 ∨ a = 8 ∨ a = 9 := by omega
  rcases this with rfl | rfl | rfl | rfl | rfl | rfl | rfl | rfl | rfl | rfl <;> decide
/-- what CutPrefix answers -/
theorem cut_no {t p : ByteArray} (h : Lib.hasPrefix t.data.toList p.data.toList = false) (r : ByteArray) : t ≠ p ++ r := by
  rintro rfl
  have : Lib.hasPrefix (p ++ r).data.toList p.data.toList = true := by simp [Lib.hasPrefix]
  rw [this] at h; cases h
theorem cut_yes {t p : ByteArray} (h : Lib.hasPrefix t.data.toList p.data.toList = true) : t = p ++ ⟨(Lib.trimPrefix t.data.toList p.data.toList).toArray⟩ := by
  have h2 : p.data.toList <+: t.data.toList := List.isPrefixOf_iff_prefix.1 h
  obtain ⟨r, hr⟩ := h2
  refine bytes_inj ?_
  unfold Lib.trimPrefix
  rw [if_pos h, ← hr]
  simp

def ParsePost (p : ScV × Int) (w : World) (e : Ending) (w' : World) : Prop := e = .returned (.tuple #[.agg #[.int .i64 p.1.kind, .int .i64 p.1.arg], .int .i64 p.2]) ∧ Below w.heap.size w w'
theorem one_byte {R : ByteArray} (h : R.size = 1) : ∃ b : UInt8, R = ⟨#[b]⟩ := by
  obtain ⟨⟨l⟩⟩ := R
  match l, h with
  | [b], _ => exact ⟨b, rfl⟩
theorem dig_byte {b : UInt8} (h : 48 ≤ b.toNat) : (⟨#[b]⟩ : ByteArray) = digB ((b.toNat : Int) - 48) := by
  unfold digB
  have : 48 + ((b.toNat : Int) - 48).toNat = b.toNat := by omega
  rw [this]; simp
theorem dig_inj {a : Int} {b : UInt8} (ha : 0 ≤ a ∧ a < 10) (h : (⟨#[b]⟩ : ByteArray) = digB a) : 48 ≤ b.toNat ∧ b.toNat ≤ 57 := by
  unfold digB at h
  have h2 : b = UInt8.ofNat (48 + a.toNat) := by injection h with h; simpa using h
  rw [h2]
  simp
  omega
theorem cat_inj {p r s : ByteArray} (h : p ++ r = p ++ s) : r = s := by
  have := congrArg (fun b => b.data.toList) h
  simp only [ByteArray.data_append, Array.toList_append, List.append_cancel_left_eq] at this
  exact bytes_inj this
theorem textIdx : ∀ (k : Nat), k < 6 → ∀ W : World, (Instr.index 107 (.agg #[.string ⟨#[97, 108, 108]⟩, .string ⟨#[98, 101, 115, 116]⟩, .string ⟨#[110, 111, 116, 98, 101, 115, 116]⟩, .string ⟨#[101, 110, 100, 115]⟩, .string ⟨#[110, 111, 116, 101, 110, 100, 115]⟩, .string ⟨#[112, 114, 105, 111, 114, 105, 116, 121, 61]⟩]) (.int .i64 k)).run Tryd.prog W = .ok (.string (textK k)) W
  | 0, _ => fun W => by kernel_rfl
  | 1, _ => fun W => by kernel_rfl
  | 2, _ => fun W => by kernel_rfl
  | 3, _ => fun W => by kernel_rfl
  | 4, _ => fun W => by kernel_rfl
  | 5, _ => fun W => by kernel_rfl
  | k + 6, h => absurd h (by omega)
/-- two results, the first a struct in its own cell -/
theorem results_cell_tmp {P : Program} {fn : Func} {p u : Tmp} {ty : TypeId} (h : fn.results = #[.cell p ty, .tmp u]) (tmps : Array Value) (w : World) (g : Nat) (t : TypeId) (cs : Array Value) (fr : Nat × Nat) (d : TypeDesc)
    (hp : tmps.getD p undef = .pointer (some ⟨g, 0, none⟩)) (hg : w.heap[g]? = some (.cells cs t fr))
    (hu : P.underlying ty = some d) (hd : (match d with | .struct _ | .array _ _ => true | _ => false) = true) (hi : (P.info? ty).map (·.size) = some cs.size) :
    (results fn tmps).run P w = .ok (.tuple #[.agg cs, tmps.getD u undef]) w := by
  have hp' : tmps[p]?.getD undef = .pointer (some ⟨g, 0, none⟩) := by simpa using hp
  simp [results, h, hp', asAddr, run_loadVar_row w g t ty cs fr d hg hu hd hi]
set_option maxRecDepth 100000 in
theorem parse_any (t : ByteArray) (w : World) (ht : TextsAt w) : Calls Tryd.prog 41 #[.string t] w (ParsePost (parseS t) w) := by
  have HB0 := Lib.hid ((Below.refl w.heap.size w).alloc (Nat.le_refl _) (.cells #[.int .i64 0, .int .i64 0] 54))
  have HBX := fun (k a : Int) => Lib.hid ((Below.refl w.heap.size w).alloc (Nat.le_refl _) (.cells #[.int .i64 k, .int .i64 a] 54))
  obtain ⟨t0, t1, t2, t3, t4, t5⟩ := ht.below HB0.out
  clear ht
  go_enter Tryd.func41, Tryd.ntmps41
  go_wp2
  clear t0 t1 t2 t3 t4 t5
  go_loopw [9] (fun kv wr => ∃ k : Nat, kv = .int .i64 k ∧ k ≤ 6 ∧ wr = w.alloc (.cells #[.int .i64 0, .int .i64 0] 54) ∧ Hid (NotTo k t)) (fun kv _ => 6 - (intOf kv).toNat)
  case atStart => exact ⟨0, rfl, by omega, rfl, NotTo.zero t⟩
  case round =>
    obtain ⟨k, rfl, hk, rfl, hnt⟩ := hrel
    by_cases hlt : k < 6
    · have hlt1 : (k : Int) < 6 := by omega
      have hi := textIdx k hlt
      obtain ⟨T, hT⟩ : ∃ T, textK (k : Int) = T := ⟨_, rfl⟩
      rw [hT] at hi
      cases hp : Lib.hasPrefix t.data.toList T.data.toList
      · have HC := Lib.hid (fun W => Tryd.strings_CutPrefix t T W)
        rw [hp] at HC
        have HN := Lib.hid (show NotTo (k + 1) t from by
          by_cases h5 : k = 5
          · subst h5
            exact hnt.out.last fun a _ _ => by rw [show (((5 : Nat) : Int)) = 5 from rfl] at hT; rw [hT]; exact cut_no hp _
          · exact hnt.out.step (by omega) (by rw [hT]; have := cut_no hp ⟨#[]⟩; rwa [show T ++ (⟨#[]⟩ : ByteArray) = T from bytes_inj (by simp)] at this))
        clear hp hT
        go_wp2_with (go_at_call 75; refine (HC.out _).mono ?_; rintro e w2 ⟨rfl, rfl⟩)
        go_roundw
        case rel => exact ⟨k + 1, by go_num, hlt, by first | trivial | rfl, HN.out⟩
        case measure => simp [intOf]; omega
      · obtain ⟨R, hR⟩ : ∃ R, (ByteArray.mk (Lib.trimPrefix t.data.toList T.data.toList).toArray) = R := ⟨_, rfl⟩
        have HTR := Lib.hid (show t = T ++ R by rw [← hR]; exact cut_yes hp)
        have HC := Lib.hid (fun W => Tryd.strings_CutPrefix t T W)
        rw [hp, hR] at HC
        clear hp hR
        by_cases h5 : k = 5
        · subst h5
          have e5 : ((5 : Int) == 5) = true := rfl
          have n5 : ((5 : Int) != 5) = false := rfl
          have ht5 : textK 5 = T := hT
          rw [show ((5 : Nat) : Int) = 5 from rfl] at hi
          by_cases hr : R.size = 1
          · obtain ⟨b, rfl⟩ := one_byte hr
            have hb0 : (0 : Int) < ((ByteArray.mk #[b]).size : Int) := by rw [hr]; decide
            have hr1 : (((ByteArray.mk #[b]).size : Int) == 1) = true := by rw [hr]; rfl
            have hbr : b.toNat < 256 := b.toNat_lt
            have hbb : (ByteArray.mk #[b])[0]'(show 0 < (ByteArray.mk #[b]).size from Nat.one_pos) = b := rfl
            by_cases h48 : 48 ≤ b.toNat
            · have e48 : decide ((b.toNat : Int) ≥ 48) = true := by simp; omega
              by_cases h57 : b.toNat ≤ 57
              · have e57 : decide ((b.toNat : Int) ≤ 57) = true := by simp; omega
                have HF := Lib.hid (show parseS t = (⟨5, (b.toNat : Int) - 48⟩, 0) by rw [HTR.out, ← ht5, dig_byte h48]; exact parse_dig (by omega))
                clear hT ht5 hr
                go_wp2_with (go_at_call 75; refine (HC.out _).mono ?_; rintro e w2 ⟨rfl, rfl⟩)
                (try simp only [Exit.inBlock, Exit.then]); refine bodyPost_ret (results_cell_tmp rfl _ _ w.heap.size 54 #[.int .i64 5, .int .i64 ((b.toNat : Int) - 48)] (0, 0) _ rfl (heap_alloc_new _ _) Tryd.underlying54 rfl (by kernel_rfl)) rfl ?_
                unfold ParsePost
                rw [HF.out]
                exact ⟨rfl, (HBX _ _).out⟩
              · have e57 : decide ((b.toNat : Int) ≤ 57) = false := by simp; omega
                have HN := Lib.hid (show NotTo 6 t from hnt.out.last fun a h1 h2 => by
                  rw [HTR.out, ht5]
                  intro h
                  have := dig_inj ⟨h1, h2⟩ (cat_inj h)
                  omega)
                clear hT ht5 hr
                go_wp2_with (go_at_call 75; refine (HC.out _).mono ?_; rintro e w2 ⟨rfl, rfl⟩)
                go_roundw
                case rel => exact ⟨6, by go_num, by omega, by first | trivial | rfl, HN.out⟩
                case measure => simp [intOf]
            · have e48 : decide ((b.toNat : Int) ≥ 48) = false := by simp; omega
              have HN := Lib.hid (show NotTo 6 t from hnt.out.last fun a h1 h2 => by
                rw [HTR.out, ht5]
                intro h
                have := dig_inj ⟨h1, h2⟩ (cat_inj h)
                omega)
              clear hT ht5 hr
              go_wp2_with (go_at_call 75; refine (HC.out _).mono ?_; rintro e w2 ⟨rfl, rfl⟩)
              go_roundw
              case rel => exact ⟨6, by go_num, by omega, by first | trivial | rfl, HN.out⟩
              case measure => simp [intOf]
          · have er : ((R.size : Int) == 1) = false := by simp; omega
            have HN := Lib.hid (show NotTo 6 t from hnt.out.last fun a h1 h2 => by
              rw [HTR.out, ht5]
              intro h
              have := cat_inj h
              rw [this] at hr
              exact hr rfl)
            clear hT ht5 hr
            go_wp2_with (go_at_call 75; refine (HC.out _).mono ?_; rintro e w2 ⟨rfl, rfl⟩)
            go_roundw
            case rel => exact ⟨6, by go_num, by omega, by first | trivial | rfl, HN.out⟩
            case measure => simp [intOf]
        · have e5 : ((k : Int) == 5) = false := by simp; omega
          have n5 : ((k : Int) != 5) = true := by simp; omega
          by_cases hr : R = ⟨#[]⟩
          · subst hr
            have HF := Lib.hid (show parseS t = (⟨k, 0⟩, 0) by rw [HTR.out, show T ++ (⟨#[]⟩ : ByteArray) = T from bytes_inj (by simp), ← hT]; exact parse_kind (by omega))
            clear h5 hT
            go_wp2_with (go_at_call 75; refine (HC.out _).mono ?_; rintro e w2 ⟨rfl, rfl⟩)
            (try simp only [Exit.inBlock, Exit.then]); refine bodyPost_ret (results_cell_tmp rfl _ _ w.heap.size 54 #[.int .i64 k, .int .i64 0] (0, 0) _ rfl (heap_alloc_new _ _) Tryd.underlying54 rfl (by kernel_rfl)) rfl ?_
            unfold ParsePost
            rw [HF.out]
            exact ⟨rfl, (HBX _ _).out⟩
          · have e1 : (R.toList == []) = false := by
              rw [toList_eq, Bool.eq_false_iff]
              intro h
              exact hr (bytes_inj (by simpa using h))
            have HN := Lib.hid (show NotTo (k + 1) t from hnt.out.step (by omega) (by
              rw [hT, HTR.out]
              intro h
              rw [show T ++ R = T ↔ T ++ R = T ++ ⟨#[]⟩ by rw [show T ++ (⟨#[]⟩ : ByteArray) = T from bytes_inj (by simp)]] at h
              exact hr (cat_inj h)))
            clear h5 hT hr
            go_wp2_with (go_at_call 75; refine (HC.out _).mono ?_; rintro e w2 ⟨rfl, rfl⟩)
            go_roundw
            case rel => exact ⟨k + 1, by go_num, hlt, by first | trivial | rfl, HN.out⟩
            case measure => simp [intOf]; omega
    · have hge : ¬ ((k : Int) < 6) := by omega
      have hk6 : k = 6 := by omega
      subst hk6
      have HF := Lib.hid hnt.out.none
      go_wp2
      (try simp only [Exit.inBlock, Exit.then]); refine bodyPost_ret (results_cell_tmp rfl _ _ w.heap.size 54 #[.int .i64 0, .int .i64 0] (0, 0) _ rfl (heap_alloc_new _ _) Tryd.underlying54 rfl (by kernel_rfl)) rfl ?_
      unfold ParsePost
      rw [HF.out]
      exact ⟨rfl, (HBX _ _).out⟩
end Go.Proofs.YtdchffghgajbfaaDoor
