/- The order of a ledger's rows, in plain words. No program in sight. -/
import Derived.Test.YtalkdddeiebfmaaGreatDoorJ14
namespace Go.Proofs.YtalkdddeiebfmaaGreatDoor
open Go.Sort Go.Shelf

/-- a way to compare that is an order -/
structure Tot {α : Type} (c : α → α → Int) : Prop where
  sym : ∀ x y, c x y < 0 ↔ 0 < c y x
  tr : ∀ x y z, c x y ≤ 0 → c y z ≤ 0 → c x z ≤ 0
theorem Tot.swo {α : Type} {c : α → α → Int} (h : Tot c) : SWO (ltOf c) where
  irrefl x := by
    have := h.sym x x
    simp only [ltOf, decide_eq_false_iff_not]; omega
  trans x y z h1 h2 := by
    simp only [ltOf, decide_eq_true_eq] at *
    have a := h.sym x y
    have b := h.sym y z
    have e := h.sym x z
    have e2 := h.sym z x
    by_cases hh : c x z < 0
    · exact hh
    · have h3 : c z x ≤ 0 := by omega
      have h4 := h.tr z x y h3 (by omega)
      omega
  ntrans x y z h1 h2 := by
    simp only [ltOf, decide_eq_false_iff_not] at *
    have a := h.sym x y
    have b := h.sym y z
    have e := h.sym x z
    have := h.tr z y x (by omega) (by omega)
    omega
def lexC {α : Type} (c d : α → α → Int) (x y : α) : Int := if c x y ≠ 0 then c x y else d x y
theorem Tot.lex {α : Type} {c d : α → α → Int} (hc : Tot c) (hd : Tot d) : Tot (lexC c d) := by
  constructor
  · intro x y
    have h1 := hc.sym x y
    have h2 := hc.sym y x
    have h3 := hd.sym x y
    unfold lexC
    split <;> split <;> omega
  · intro x y z h1 h2
    have a1 := hc.sym x y
    have a2 := hc.sym y x
    have b1 := hc.sym y z
    have b2 := hc.sym z y
    have e1 := hc.sym x z
    have e2 := hc.sym z x
    have t1 := hc.tr x y z
    have t2 := hc.tr y z x
    have t3 := hc.tr z x y
    have t4 := hd.tr x y z
    unfold lexC at *
    split at h1 <;> split at h2 <;> split <;> omega
def onC {α β : Type} (f : α → β) (c : β → β → Int) (x y : α) : Int := c (f x) (f y)
theorem Tot.on {α β : Type} {c : β → β → Int} (h : Tot c) (f : α → β) : Tot (onC f c) := ⟨fun _ _ => h.sym _ _, fun _ _ _ => h.tr _ _ _⟩
def cmpI (a b : Int) : Int := if a < b then -1 else if a > b then 1 else 0
theorem tot_cmpI : Tot cmpI := by
  constructor
  · intro x y; unfold cmpI; split <;> split <;> (try split) <;> (try split) <;> omega
  · intro x y z h1 h2
    unfold cmpI at *
    split at h1 <;> split at h2 <;> split <;> (try split at h1) <;> (try split at h2) <;> (try split) <;> omega
def cmpB (a b : ByteArray) : Int := if a.data.toList < b.data.toList then -1 else if b.data.toList < a.data.toList then 1 else 0
theorem tot_cmpB : Tot cmpB := by
  constructor
  · intro x y
    unfold cmpB
    by_cases h1 : x.data.toList < y.data.toList
    · have h2 : ¬ y.data.toList < x.data.toList := List.not_lt.2 (List.le_of_lt h1)
      rw [if_pos h1, if_neg h2, if_pos h1]; first | done | omega
    · by_cases h2 : y.data.toList < x.data.toList
      · rw [if_neg h1, if_pos h2, if_pos h2]; first | done | omega
      · rw [if_neg h1, if_neg h2, if_neg h2, if_neg h1]; first | done | omega
  · intro x y z h1 h2
    have key : ∀ a b : ByteArray, cmpB a b ≤ 0 ↔ a.data.toList ≤ b.data.toList := fun a b => by
      unfold cmpB
      by_cases h1 : a.data.toList < b.data.toList
      · rw [if_pos h1]; exact ⟨fun _ => List.le_of_lt h1, fun _ => by omega⟩
      · rw [if_neg h1]
        by_cases h2 : b.data.toList < a.data.toList
        · rw [if_pos h2]; exact ⟨fun h => by omega, fun h => absurd h (List.not_le.2 h2)⟩
        · rw [if_neg h2]; exact ⟨fun _ => List.not_lt.1 h2, fun _ => by omega⟩
    rw [key] at *
    exact List.le_trans h1 h2
theorem cmpB_zero {a b : ByteArray} (h : cmpB a b = 0) : a = b := by
  unfold cmpB at h
  split at h
  · omega
  · rename_i h1
    split at h
    · omega
    · rename_i h2
      exact bytes_inj (List.le_antisymm (List.not_lt.1 h2) (List.not_lt.1 h1))
def cmpNames : List ByteArray → List ByteArray → Int
  | [], [] => 0
  | [], _ :: _ => -1
  | _ :: _, [] => 1
  | a :: l, b :: m => if cmpB a b ≠ 0 then cmpB a b else cmpNames l m
theorem tot_cmpNames : Tot cmpNames := by
  constructor
  · intro x
    induction x with
    | nil => intro y; cases y <;> simp [cmpNames]
    | cons a l ih =>
      intro y
      cases y with
      | nil => simp [cmpNames]
      | cons b m =>
        have h0 := ih m
        have h1 := tot_cmpB.sym a b
        have h2 := tot_cmpB.sym b a
        unfold cmpNames
        split <;> split <;> omega
  · intro x
    induction x with
    | nil => intro y z h1 h2; cases z <;> simp [cmpNames]
    | cons a l ih =>
      intro y z h1 h2
      cases y with
      | nil => simp [cmpNames] at h1
      | cons b m =>
        cases z with
        | nil => simp [cmpNames] at h2
        | cons c k =>
          have h0 := ih m k
          have a1 := tot_cmpB.sym a b
          have a2 := tot_cmpB.sym b a
          have b1 := tot_cmpB.sym b c
          have b2 := tot_cmpB.sym c b
          have e1 := tot_cmpB.sym a c
          have e2 := tot_cmpB.sym c a
          have t1 := tot_cmpB.tr a b c
          have t2 := tot_cmpB.tr b c a
          have t3 := tot_cmpB.tr c a b
          simp only [cmpNames] at h1 h2 ⊢
          split at h1 <;> split at h2 <;> split <;> omega
theorem cmpNames_zero : ∀ {x y : List ByteArray}, cmpNames x y = 0 → x = y
  | [], [], _ => rfl
  | [], _ :: _, h => by simp [cmpNames] at h
  | _ :: _, [], h => by simp [cmpNames] at h
  | a :: l, b :: m, h => by
    unfold cmpNames at h
    split at h
    · rename_i h1; exact absurd h h1
    · rename_i h1
      have e1 := cmpB_zero (a := a) (b := b) (by simpa using h1)
      have e2 := cmpNames_zero h
      rw [e1, e2]
/-- the order of rows: path by its names, kind, argument, resource -/
def cmpU : Sh → Sh → Int := lexC (onC (fun s : Sh => pathNames s.1.1) cmpNames) (lexC (onC (fun s : Sh => s.1.2.1.1) cmpI) (lexC (onC (fun s : Sh => s.1.2.1.2) cmpI) (onC (fun s : Sh => s.1.2.2) cmpB)))
theorem tot_cmpU : Tot cmpU := (tot_cmpNames.on _).lex ((tot_cmpI.on _).lex ((tot_cmpI.on _).lex (tot_cmpB.on _)))
theorem path_of_names {p q : ByteArray} (hp : isPath p = true) (hq : isPath q = true) (h : pathNames p = pathNames q) : p = q := by
  rw [pathNames_nm, pathNames_nm] at h
  have h2 : nm p = nm q := by
    have := congrArg (List.map fun b : ByteArray => b.data.toList) h
    simpa [List.map_map, Function.comp_def, mkB_data] using this
  exact bytes_inj (by rw [(pathOk hp).text, (pathOk hq).text, h2])
theorem cmpI_zero {a b : Int} (h : cmpI a b = 0) : a = b := by
  unfold cmpI at h
  split at h
  · omega
  · split at h <;> omega
theorem lexC_zero {α : Type} {c d : α → α → Int} {x y : α} (h : lexC c d x y = 0) : c x y = 0 ∧ d x y = 0 := by
  unfold lexC at h
  split at h
  · rename_i h1; exact absurd h h1
  · rename_i h1; exact ⟨by simpa using h1, h⟩
theorem cmpU_zero {x y : Sh} (hx : isPath x.1.1 = true) (hy : isPath y.1.1 = true) (h : cmpU x y = 0) : x.1 = y.1 := by
  obtain ⟨h1, h⟩ := lexC_zero h
  obtain ⟨h2, h⟩ := lexC_zero h
  obtain ⟨h3, h4⟩ := lexC_zero h
  obtain ⟨⟨p, ⟨k, a⟩, r⟩, v⟩ := x
  obtain ⟨⟨p', ⟨k', a'⟩, r'⟩, v'⟩ := y
  have e1 : p = p' := path_of_names hx hy (cmpNames_zero h1)
  have e2 : k = k' := cmpI_zero h2
  have e3 : a = a' := cmpI_zero h3
  have e4 : r = r' := cmpB_zero h4
  rw [e1, e2, e3, e4]
/-- all sums that are not 0, in order -/
structure RowsOf (S : Pl → Int) (R : List Sh) : Prop where
  asc : R.Pairwise fun x y => cmpU x y < 0
  mem : ∀ x : Sh, x ∈ R ↔ S x.1 ≠ 0 ∧ x.2 = S x.1
theorem rowsOf_unique {S : Pl → Int} {R R' : List Sh} (h : RowsOf S R) (h' : RowsOf S R') : R = R' := by
  have nod : ∀ {R : List Sh}, R.Pairwise (fun x y => cmpU x y < 0) → R.Nodup := fun {R} hp => by
    rw [List.nodup_iff_pairwise_ne]
    refine hp.imp ?_
    rintro a b hab rfl
    have := tot_cmpU.sym a a
    omega
  have hp : R.Perm R' := (List.perm_ext_iff_of_nodup (nod h.asc) (nod h'.asc)).2 fun x => by rw [h.mem, h'.mem]
  refine List.Perm.eq_of_pairwise (le := fun x y => cmpU x y < 0) ?_ h.asc h'.asc hp
  intro a b _ _ h1 h2
  have := tot_cmpU.sym a b
  omega
theorem rowsOf_zero : RowsOf (fun _ => 0) [] := ⟨List.Pairwise.nil, fun x => by simp⟩
end Go.Proofs.YtalkdddeiebfmaaGreatDoor
