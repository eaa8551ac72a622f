/- What ScopeKeepsApart wants: own's lists as the call's own; Of and Uses with what they own; what is kept while rows of the call's own are written. -/
import Derived.Test.YtdchffghgajbfaaX7
namespace Go.Proofs.Ytdchffghgajbfaa
open Go.RowKit

theorem own_pt (o : ObjV) (A : Option Addr) (c : Nat) (ls : List LabV) (B0 : Option Addr) (m0 : Nat) (hl : o.labels = .slice B0 ls.length m0) (w : World) (h : ObjFit w o A ls) :
    Calls Try.prog 6 #[.agg #[.string o.path, .string o.name, .slice B0 ls.length m0, .int .i64 o.prio, .int .i64 o.dl, .slice A o.parts.length c, .int .i64 o.ver]] w fun e w' =>
      ∃ (L : Option Addr) (m : Nat) (B : Option Addr) (c : Nat) (R : Nat → Prop), e = .returned (.agg #[.string o.path, .string o.name, .slice L ls.length m, .int .i64 o.prio, .int .i64 o.dl, .slice B o.parts.length c, .int .i64 o.ver]) ∧ PartsAt w.heap.size w' (.slice B o.parts.length c) o.parts R ∧ Below w.heap.size w w' := by
  have := own_any o A c ls w h
  unfold ObjV.val at this
  rw [hl] at this
  refine this.mono fun e w' hp => ?_
  obtain ⟨L, m, B, c, R, rfl, hparts, hlr, hb⟩ := hp
  exact ⟨L, m, B, c, R, rfl, hparts, hb⟩
theorem uses_own (o : ObjV) (U : List Amt) (q : Nat) (eu : Int) (hU : Hid ((usesV o.parts).1.map amtOf = U)) (hq : U.length = q) (he : Hid ((usesV o.parts).2 = eu)) (hN : NamesOk o.parts) (hT : (allB o.parts).length ≤ 1099511627776)
    (L : Option Addr) (n m : Nat) (B : Option Addr) (c : Nat) (P : Nat → Prop) (w : World) (ho : ObjOk w (o.re L n m) B P) :
    Calls Try.prog 5 #[.agg #[.string o.path, .string o.name, .slice L n m, .int .i64 o.prio, .int .i64 o.dl, .slice B o.parts.length c, .int .i64 o.ver]] w fun e w' => ∃ A c, e = .returned (.tuple #[.slice A q c, .int .i64 eu]) ∧ Own kAmt 36 w.heap.size (fun _ => False) w' (.slice A q c) U ∧ Below w.heap.size w w' := by
  subst hq
  refine (uses_any (o.re L n m) B c P w ho hN hT).mono fun e w' hp => ?_
  obtain ⟨A, c, h1, hown, hb⟩ := hp
  have hl : (usesV o.parts).1.length = U.length := by rw [← hU.out, List.length_map]
  rw [show (o.re L n m).parts = o.parts from rfl] at h1 hown
  rw [hl] at h1 hown
  rw [he.out] at h1
  rw [hU.out] at hown
  exact ⟨A, c, h1, hown.plain kAmt_plain, hb⟩
theorem own_rows {α : Type} {d : Kn α} {e base : Nat} {w : World} {A : Option Addr} {n c : Nat} {xs : List α} (h : Own d e base (fun _ => False) w (.slice A n c) xs) : Row d (fun k => base ≤ k ∧ k < w.heap.size) w A xs := by
  obtain ⟨A', c', hv, _, _, h3⟩ := h.row
  cases hv
  exact h3.mono fun k hk => hk.elim (fun f => f.elim) (fun e => h.block_lt k e)
/-- the block of a row of the call's own -/
theorem own_blk {α : Type} {d : Kn α} {e base : Nat} {P : Nat → Prop} {w : World} {A : Option Addr} {n c : Nat} {xs : List α} (h : Own d e base P w (.slice A n c) xs) (hx : xs ≠ []) : ∃ g cur, A = some ⟨g, 0, none⟩ ∧ base ≤ g ∧ w.heap[g]? = some (.cells cur e (0, 0)) := by
  obtain ⟨cells, ho, _⟩ := h
  rcases ho.2 with ⟨hv, h0⟩ | ⟨g, cap, cur, hv, hg, hb, _⟩
  · exact absurd (List.length_eq_zero_iff.1 h0) hx
  · cases hv; exact ⟨g, cur, rfl, hg, hb⟩
def m1P : PartV := ⟨⟨#[109, 49]⟩, [], []⟩
def m2P : PartV := ⟨⟨#[109, 50]⟩, [], []⟩
theorem marks_row (w : World) : Row kPart (fun k => k = w.heap.size) (w.alloc (.cells #[.string ⟨#[109, 49]⟩, .slice none 0 0, .slice none 0 0, .string ⟨#[109, 50]⟩, .slice none 0 0, .slice none 0 0] 33)) (some ⟨w.heap.size, 0, none⟩) [m1P, m2P] := by
  have h0 := heap_alloc_new w (.cells #[.string ⟨#[109, 49]⟩, .slice none 0 0, .slice none 0 0, .string ⟨#[109, 50]⟩, .slice none 0 0, .slice none 0 0] 33)
  refine fun _ => ⟨_, rfl, rfl, [.string ⟨#[109, 49]⟩, .slice none 0 0, .slice none 0 0, .string ⟨#[109, 50]⟩, .slice none 0 0, .slice none 0 0], ⟨rfl, fun i hi => ?_⟩, fun j u hu => by rw [add_new, cell_of_row _ _ _ _ _ _ h0]; simpa using hu⟩
  have hz : ∀ (W : World), Sl kAmt (fun k => k = w.heap.size) W (.slice none 0 0) [] := fun W => Sl.nil _ _ _
  match i, hi with
  | 0, _ => exact ⟨[.string ⟨#[109, 49]⟩], [.slice none 0 0, .slice none 0 0], rfl, rfl, [.slice none 0 0], [.slice none 0 0], rfl, ⟨_, rfl, hz _⟩, ⟨_, rfl, hz _⟩⟩
  | 1, _ => exact ⟨[.string ⟨#[109, 50]⟩], [.slice none 0 0, .slice none 0 0], rfl, rfl, [.slice none 0 0], [.slice none 0 0], rfl, ⟨_, rfl, hz _⟩, ⟨_, rfl, hz _⟩⟩
/-- what is kept while the rows from a up to b and from c up to d are written -/
abbrev Wr (a b c d : Nat) : Nat → Prop := fun k => (a ≤ k ∧ k < b) ∨ (c ≤ k ∧ k < d)
theorem Row.turn {α : Type} {d : Kn α} {P S : Nat → Prop} {w w' : World} {A : Option Addr} {xs : List α} (h : Row d P w A xs) (ht : Turn S w w') (hs : ∀ k, P k → ¬ S k) : Row d P w' A xs := h.keep fun k hk hl => ht.block k hl (hs k hk)
theorem OBox.turn {S : Nat → Prop} {w w' : World} {b : Nat} {v0 v1 v2 v3 v4 v5 v6 : Value} (h : OBox w b v0 v1 v2 v3 v4 v5 v6) (ht : Turn S w w') (hs : ¬ S b) : OBox w' b v0 v1 v2 v3 v4 v5 v6 := .of ((ht.block b (Array.getElem?_eq_some_iff.1 h.blk).1 hs).trans h.blk)
/-- scope i's kind is written -/
theorem own_kind {base g n c : Nat} {w : World} {M : List ScV} (h : Own kSc 42 base (fun _ => False) w (.slice (some ⟨g, 0, none⟩) n c) M) (i : Nat) (hi : i < M.length) (v : Int) :
    Own kSc 42 base (fun _ => False) (w.setCell ⟨g, i * 2, none⟩ (.int .i64 v)) (.slice (some ⟨g, 0, none⟩) n c) (M.set i ⟨v, M[i].arg⟩) :=
  Own.setEnc (f := ScV.cells) (n := 2) h i hi 0 (by omega) _ _ rfl
/-- amount i's value is written -/
theorem own_val5 {base g n c : Nat} {w : World} {M : List Amt} (h : Own kAmt 36 base (fun _ => False) w (.slice (some ⟨g, 0, none⟩) n c) M) (i : Nat) (hi : i < M.length) (v : Int) :
    Own kAmt 36 base (fun _ => False) (w.setCell ⟨g, i * 2 + 1, none⟩ (.int .i64 v)) (.slice (some ⟨g, 0, none⟩) n c) (M.set i ⟨M[i].name, v⟩) :=
  Own.setEnc (f := Amt.cells) (n := 2) h i hi 1 (by omega) _ _ rfl
theorem sumsA_len : ∀ (L S T : List (Key × Int)), sumsA S L = some T → T.length ≤ S.length + L.length
  | [], S, T, h => by
    simp only [sumsA] at h
    cases h; simp
  | a :: L, S, T, h => by
    simp only [sumsA] at h
    split at h
    · cases h
    · have h1 := sumsA_len L _ _ h
      have h2 := addK_len a.1 (getK a.1 S + a.2) S
      simp only [List.length_cons]; omega
theorem usesV_len (ps : List PartV) : (usesV ps).1.length ≤ (allB ps).length + 1 := by
  have hl : (allA ps).length = (allB ps).length := by rw [← allB_kv, List.length_map]
  cases hn : (allB ps).any negA
  · cases hs : sumsA sums0 ((allB ps).map kvOf) with
    | none => rw [usesV_over hn hs]; simp
    | some S =>
      rw [usesV_ok hn hs]
      have := sumsA_len _ _ _ hs
      simp only [sums0, List.length_cons, List.length_nil, List.length_map] at this
      show S.length ≤ _
      omega
  · rw [usesV_neg hn]; simp
end Go.Proofs.Ytdchffghgajbfaa
