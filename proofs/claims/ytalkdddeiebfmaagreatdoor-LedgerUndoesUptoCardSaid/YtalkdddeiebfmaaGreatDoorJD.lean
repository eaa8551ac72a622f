/- Laid together: J15 J16 J17 J18 J19 J20 J21. -/
import Derived.Test.YtalkdddeiebfmaaGreatDoorJC
import Derived.Sort.Walk0
import Derived.Test.YtalkdddeiebfmaaGreatDoorSort2
import Derived.Shelf.SlSortCmp.WholeK
import Derived.Shelf.SlSortCmp.NoneTotal
/- The order of a ledger's rows, in plain words. No program in sight. -/
namespace Go.Proofs.YtalkdddeiebfmaaGreatDoor
open Go.Sort Go.Shelf

/-- a way to compare that is an order -/
structure Tot {α : Type} (c : α → α → Int) : Prop where
  sym : ∀ x y, c x y < 0 ↔ 0 < c y x
  tr : ∀ x y z, c x y ≤ 0 → c y z ≤ 0 → c x z ≤ 0
theorem Tot.swo {α : Type} {c : α → α → Int} (h : Tot c) : SWO (ltOf c) where
  irrefl x := by
    have := h.sym x x
    simp only [ltOf, decide_eq_false_iff_not]; omega
  trans x y z h1 h2 := by
    simp only [ltOf, decide_eq_true_eq] at *
    have a := h.sym x y
    have b := h.sym y z
    have e := h.sym x z
    have e2 := h.sym z x
    by_cases hh : c x z < 0
    · exact hh
    · have h3 : c z x ≤ 0 := by omega
      have h4 := h.tr z x y h3 (by omega)
      omega
  ntrans x y z h1 h2 := by
    simp only [ltOf, decide_eq_false_iff_not] at *
    have a := h.sym x y
    have b := h.sym y z
    have e := h.sym x z
    have := h.tr z y x (by omega) (by omega)
    omega
def lexC {α : Type} (c d : α → α → Int) (x y : α) : Int := if c x y ≠ 0 then c x y else d x y
theorem Tot.lex {α : Type} {c d : α → α → Int} (hc : Tot c) (hd : Tot d) : Tot (lexC c d) := by
  constructor
  · intro x y
    have h1 := hc.sym x y
    have h2 := hc.sym y x
    have h3 := hd.sym x y
    unfold lexC
    split <;> split <;> omega
  · intro x y z h1 h2
    have a1 := hc.sym x y
    have a2 := hc.sym y x
    have b1 := hc.sym y z
    have b2 := hc.sym z y
    have e1 := hc.sym x z
    have e2 := hc.sym z x
    have t1 := hc.tr x y z
    have t2 := hc.tr y z x
    have t3 := hc.tr z x y
    have t4 := hd.tr x y z
    unfold lexC at *
    split at h1 <;> split at h2 <;> split <;> omega
def onC {α β : Type} (f : α → β) (c : β → β → Int) (x y : α) : Int := c (f x) (f y)
theorem Tot.on {α β : Type} {c : β → β → Int} (h : Tot c) (f : α → β) : Tot (onC f c) := ⟨fun _ _ => h.sym _ _, fun _ _ _ => h.tr _ _ _⟩
def cmpI (a b : Int) : Int := if a < b then -1 else if a > b then 1 else 0
theorem tot_cmpI : Tot cmpI := by
  constructor
  · intro x y; unfold cmpI; split <;> split <;> (try split) <;> (try split) <;> omega
  · intro x y z h1 h2
    unfold cmpI at *
    split at h1 <;> split at h2 <;> split <;> (try split at h1) <;> (try split at h2) <;> (try split) <;> omega
def cmpB (a b : ByteArray) : Int := if a.data.toList < b.data.toList then -1 else if b.data.toList < a.data.toList then 1 else 0
theorem tot_cmpB : Tot cmpB := by
  constructor
  · intro x y
    unfold cmpB
    by_cases h1 : x.data.toList < y.data.toList
    · have h2 : ¬ y.data.toList < x.data.toList := List.not_lt.2 (List.le_of_lt h1)
      rw [if_pos h1, if_neg h2, if_pos h1]; first | done | omega
    · by_cases h2 : y.data.toList < x.data.toList
      · rw [if_neg h1, if_pos h2, if_pos h2]; first | done | omega
      · rw [if_neg h1, if_neg h2, if_neg h2, if_neg h1]; first | done | omega
  · intro x y z h1 h2
    have key : ∀ a b : ByteArray, cmpB a b ≤ 0 ↔ a.data.toList ≤ b.data.toList := fun a b => by
      unfold cmpB
      by_cases h1 : a.data.toList < b.data.toList
      · rw [if_pos h1]; exact ⟨fun _ => List.le_of_lt h1, fun _ => by omega⟩
      · rw [if_neg h1]
        by_cases h2 : b.data.toList < a.data.toList
        · rw [if_pos h2]; exact ⟨fun h => by omega, fun h => absurd h (List.not_le.2 h2)⟩
        · rw [if_neg h2]; exact ⟨fun _ => List.not_lt.1 h2, fun _ => by omega⟩
    rw [key] at *
    exact List.le_trans h1 h2
theorem cmpB_zero {a b : ByteArray} (h : cmpB a b = 0) : a = b := by
  unfold cmpB at h
  split at h
  · omega
  · rename_i h1
    split at h
    · omega
    · rename_i h2
      exact bytes_inj (List.le_antisymm (List.not_lt.1 h2) (List.not_lt.1 h1))
def cmpNames : List ByteArray → List ByteArray → Int
  | [], [] => 0
  | [], _ :: _ => -1
  | _ :: _, [] => 1
  | a :: l, b :: m => if cmpB a b ≠ 0 then cmpB a b else cmpNames l m
theorem tot_cmpNames : Tot cmpNames := by
  constructor
  · intro x
    induction x with
    | nil => intro y; cases y <;> simp [cmpNames]
    | cons a l ih =>
      intro y
      cases y with
      | nil => simp [cmpNames]
      | cons b m =>
        have h0 := ih m
        have h1 := tot_cmpB.sym a b
        have h2 := tot_cmpB.sym b a
        unfold cmpNames
        split <;> split <;> omega
  · intro x
    induction x with
    | nil => intro y z h1 h2; cases z <;> simp [cmpNames]
    | cons a l ih =>
      intro y z h1 h2
      cases y with
      | nil => simp [cmpNames] at h1
      | cons b m =>
        cases z with
        | nil => simp [cmpNames] at h2
        | cons c k =>
          have h0 := ih m k
          have a1 := tot_cmpB.sym a b
          have a2 := tot_cmpB.sym b a
          have b1 := tot_cmpB.sym b c
          have b2 := tot_cmpB.sym c b
          have e1 := tot_cmpB.sym a c
          have e2 := tot_cmpB.sym c a
          have t1 := tot_cmpB.tr a b c
          have t2 := tot_cmpB.tr b c a
          have t3 := tot_cmpB.tr c a b
          simp only [cmpNames] at h1 h2 ⊢
          split at h1 <;> split at h2 <;> split <;> omega
theorem cmpNames_zero : ∀ {x y : List ByteArray}, cmpNames x y = 0 → x = y
  | [], [], _ => rfl
  | [], _ :: _, h => by simp [cmpNames] at h
  | _ :: _, [], h => by simp [cmpNames] at h
  | a :: l, b :: m, h => by
    unfold cmpNames at h
    split at h
    · rename_i h1; exact absurd h h1
    · rename_i h1
      have e1 := cmpB_zero (a := a) (b := b) (by simpa using h1)
      have e2 := cmpNames_zero h
      rw [e1, e2]
/-- the order of rows: path by its names, kind, argument, resource -/
def cmpU : Sh → Sh → Int := lexC (onC (fun s : Sh => pathNames s.1.1) cmpNames) (lexC (onC (fun s : Sh => s.1.2.1.1) cmpI) (lexC (onC (fun s : Sh => s.1.2.1.2) cmpI) (onC (fun s : Sh => s.1.2.2) cmpB)))
theorem tot_cmpU : Tot cmpU := (tot_cmpNames.on _).lex ((tot_cmpI.on _).lex ((tot_cmpI.on _).lex (tot_cmpB.on _)))
theorem path_of_names {p q : ByteArray} (hp : isPath p = true) (hq : isPath q = true) (h : pathNames p = pathNames q) : p = q := by
  rw [pathNames_nm, pathNames_nm] at h
  have h2 : nm p = nm q := by
    have := congrArg (List.map fun b : ByteArray => b.data.toList) h
    simpa [List.map_map, Function.comp_def, mkB_data] using this
  exact bytes_inj (by rw [(pathOk hp).text, (pathOk hq).text, h2])
theorem cmpI_zero {a b : Int} (h : cmpI a b = 0) : a = b := by
  unfold cmpI at h
  split at h
  · omega
  · split at h <;> omega
theorem lexC_zero {α : Type} {c d : α → α → Int} {x y : α} (h : lexC c d x y = 0) : c x y = 0 ∧ d x y = 0 := by
  unfold lexC at h
  split at h
  · rename_i h1; exact absurd h h1
  · rename_i h1; exact ⟨by simpa using h1, h⟩
theorem cmpU_zero {x y : Sh} (hx : isPath x.1.1 = true) (hy : isPath y.1.1 = true) (h : cmpU x y = 0) : x.1 = y.1 := by
  obtain ⟨h1, h⟩ := lexC_zero h
  obtain ⟨h2, h⟩ := lexC_zero h
  obtain ⟨h3, h4⟩ := lexC_zero h
  obtain ⟨⟨p, ⟨k, a⟩, r⟩, v⟩ := x
  obtain ⟨⟨p', ⟨k', a'⟩, r'⟩, v'⟩ := y
  have e1 : p = p' := path_of_names hx hy (cmpNames_zero h1)
  have e2 : k = k' := cmpI_zero h2
  have e3 : a = a' := cmpI_zero h3
  have e4 : r = r' := cmpB_zero h4
  rw [e1, e2, e3, e4]
/-- all sums that are not 0, in order -/
structure RowsOf (S : Pl → Int) (R : List Sh) : Prop where
  asc : R.Pairwise fun x y => cmpU x y < 0
  mem : ∀ x : Sh, x ∈ R ↔ S x.1 ≠ 0 ∧ x.2 = S x.1
theorem rowsOf_unique {S : Pl → Int} {R R' : List Sh} (h : RowsOf S R) (h' : RowsOf S R') : R = R' := by
  have nod : ∀ {R : List Sh}, R.Pairwise (fun x y => cmpU x y < 0) → R.Nodup := fun {R} hp => by
    rw [List.nodup_iff_pairwise_ne]
    refine hp.imp ?_
    rintro a b hab rfl
    have := tot_cmpU.sym a a
    omega
  have hp : R.Perm R' := (List.perm_ext_iff_of_nodup (nod h.asc) (nod h'.asc)).2 fun x => by rw [h.mem, h'.mem]
  refine List.Perm.eq_of_pairwise (le := fun x y => cmpU x y < 0) ?_ h.asc h'.asc hp
  intro a b _ _ h1 h2
  have := tot_cmpU.sym a b
  omega
theorem rowsOf_zero : RowsOf (fun _ => 0) [] := ⟨List.Pairwise.nil, fun x => by simp⟩
end Go.Proofs.YtalkdddeiebfmaaGreatDoor
/- The ledger's comparison of rows: the walks. -/
namespace Go.Proofs.YtalkdddeiebfmaaGreatDoor
open Go.RowKit Go.Sort

def NamesPost (p : ByteArray) (w : World) (e : Ending) (w' : World) : Prop := ∃ A c, e = .returned (.slice A (pathNames p).length c) ∧ Row Kn.str (fun _ => True) w' A (pathNames p) ∧ D.Below w.heap.size w w'
theorem names_any (p : ByteArray) (w : World) (hm : Ml w) : Calls Tryz.prog 35 #[.string p] w (NamesPost p w) := by
  have hsp := D.split_any p w hm
  unfold D.SplitPost at hsp
  obtain ⟨N, hN⟩ : ∃ N, pathNames p = N := ⟨_, rfl⟩
  obtain ⟨z, hz⟩ : ∃ z, errPath p = z := ⟨_, rfl⟩
  have HN := Lib.hid hN
  rw [hN, hz] at hsp
  have HS := Lib.hid hsp
  clear hsp hN hz
  go_enter Tryz.func35, Tryz.ntmps35
  go_wp2_with (go_at_call 71; refine HS.out.mono ?_; rintro e w1 ⟨v, rfl, ⟨A, c, rfl, -, -, hr⟩, hb⟩; have HR := Lib.hid hr; have HB := Lib.hid hb; clear hr hb)
  go_ret
  refine ⟨A, c, by rw [HN.out]; rfl, by rw [HN.out]; exact HR.out.mono fun _ _ => trivial, HB.out⟩
theorem nanStr_any (s : ByteArray) (w : World) : Calls Tryz.prog 73 #[.string s] w fun e w' => e = .returned (.bool false) ∧ w = w' := by
  have e1 : (s.toList == s.toList) = true := by simp
  go_enter Tryz.func73, Tryz.ntmps73
  go_wp2
  go_ret
  exact ⟨rfl, rfl⟩
theorem cmpStr_any (a b : ByteArray) (w : World) : Calls Tryz.prog 37 #[.string a, .string b] w fun e w' => e = .returned (.int .i64 (cmpB a b)) ∧ w = w' := by
  have hb : Op.bytesLess a.toList b.toList = decide (a.data.toList < b.data.toList) := by rw [toList_eq, toList_eq, bytesLess_eq]
  have hbb : Op.bytesLess b.toList a.toList = decide (b.data.toList < a.data.toList) := by rw [toList_eq, toList_eq, bytesLess_eq]
  by_cases h1 : a.data.toList < b.data.toList
  · have e1 : Op.bytesLess a.toList b.toList = true := by rw [hb]; simpa using h1
    have HC := Lib.hid (show cmpB a b = -1 by unfold cmpB; rw [if_pos h1])
    clear hb hbb h1
    go_enter Tryz.func37, Tryz.ntmps37
    go_wp2_with (go_at_call 73; refine (nanStr_any _ _).mono ?_; rintro e w' ⟨rfl, rfl⟩)
    go_ret
    exact ⟨by rw [HC.out]; rfl, rfl⟩
  · have e1 : Op.bytesLess a.toList b.toList = false := by rw [hb]; simpa using h1
    by_cases h2 : b.data.toList < a.data.toList
    · have e2 : (a.toList == b.toList) = false := by
        rw [toList_eq, toList_eq]
        simp only [beq_eq_false_iff_ne, ne_eq]
        intro e
        rw [e] at h2
        exact List.lt_irrefl _ h2
      have HC := Lib.hid (show cmpB a b = 1 by unfold cmpB; rw [if_neg h1, if_pos h2])
      have e3 : Op.bytesLess b.toList a.toList = true := by rw [hbb]; simpa using h2
      clear hb hbb h1 h2
      go_enter Tryz.func37, Tryz.ntmps37
      go_wp2_with (go_at_call 73; refine (nanStr_any _ _).mono ?_; rintro e w' ⟨rfl, rfl⟩)
      go_ret
      exact ⟨by rw [HC.out]; rfl, rfl⟩
    · have he : a = b := bytes_inj (List.le_antisymm (List.not_lt.1 h2) (List.not_lt.1 h1))
      have HC := Lib.hid (show cmpB a b = 0 by unfold cmpB; rw [if_neg h1, if_neg h2])
      have e2 : (a.toList == b.toList) = true := by rw [he]; simp
      have e3 : Op.bytesLess b.toList a.toList = false := by rw [hbb]; simpa using h2
      clear hb hbb h1 h2 he
      go_enter Tryz.func37, Tryz.ntmps37
      go_wp2_with (go_at_call 73; refine (nanStr_any _ _).mono ?_; rintro e w' ⟨rfl, rfl⟩)
      go_ret
      exact ⟨by rw [HC.out]; rfl, rfl⟩
theorem cmpNames_drop {a b : List ByteArray} {k : Nat} (h1 : k < a.length) (h2 : k < b.length) : cmpNames (a.drop k) (b.drop k) = if cmpB a[k] b[k] ≠ 0 then cmpB a[k] b[k] else cmpNames (a.drop (k + 1)) (b.drop (k + 1)) := by
  rw [List.drop_eq_getElem_cons h1, List.drop_eq_getElem_cons h2]
  rfl
set_option maxRecDepth 100000 in
theorem strsCompare_any (A B : Option Addr) (c d : Nat) (P Q : Nat → Prop) (xs ys : List ByteArray) (w : World) (hx : Row Kn.str P w A xs) (hy : Row Kn.str Q w B ys) (h1 : xs.length ≤ 9223372036854775806) (h2 : ys.length ≤ 9223372036854775806) :
    Calls Tryz.prog 34 #[.slice A xs.length c, .slice B ys.length d] w fun e w' => e = .returned (.int .i64 (cmpNames xs ys)) ∧ D.Below w.heap.size w w' := by
  have HX := Lib.hid hx
  have HY := Lib.hid hy
  clear hx hy
  go_enter Tryz.func34, Tryz.ntmps34
  go_wp2
  go_loopw [11] (fun iv wr => ∃ i : Nat, iv = .int .i64 i ∧ i ≤ xs.length ∧ i ≤ ys.length ∧ Hid (D.Below w.heap.size w wr) ∧ Hid (cmpNames xs ys = cmpNames (xs.drop i) (ys.drop i))) (fun iv _ => xs.length - (intOf iv).toNat)
  case atStart => exact ⟨0, rfl, Nat.zero_le _, Nat.zero_le _, D.Below.refl _ _, by simp [Hid]⟩
  case round =>
    obtain ⟨i, rfl, hi, hi2, hb, hc⟩ := hrel
    obtain ⟨wo, rfl⟩ : ∃ wo, wo = wr := ⟨_, rfl⟩
    by_cases hlt : i < xs.length
    · obtain ⟨a, rfl, x0⟩ := row_str_at (HX.out.below hb.out.toB) i hlt
      have hlti : (i : Int) < (xs.length : Int) := by omega
      by_cases hlty : i < ys.length
      · obtain ⟨b, rfl, y0⟩ := row_str_at (HY.out.below hb.out.toB) i hlty
        have e1 : decide ((i : Int) ≥ (ys.length : Int)) = false := by simp; omega
        have hyi : (i : Int) < (ys.length : Int) := by omega
        have HD := Lib.hid (cmpNames_drop hlt hlty)
        obtain ⟨s, hs⟩ : ∃ s, xs[i] = s := ⟨_, rfl⟩
        obtain ⟨t, ht⟩ : ∃ t, ys[i] = t := ⟨_, rfl⟩
        rw [hs] at x0 HD
        rw [ht] at y0 HD
        obtain ⟨z, hz⟩ : ∃ z, cmpB s t = z := ⟨_, rfl⟩
        rw [hz] at HD
        have HZ := Lib.hid hz
        clear hs ht hz
        by_cases hz0 : z = 0
        · subst hz0
          have HE := Lib.hid (show cmpNames xs ys = cmpNames (xs.drop (i + 1)) (ys.drop (i + 1)) by rw [hc.out, HD.out, if_neg (by simp)])
          have HB := Lib.hid hb.out
          clear hb hc HD
          go_wp2_with (go_at_call 37; refine (cmpStr_any _ _ _).mono ?_; rintro e w2 ⟨rfl, rfl⟩; rw [HZ.out])
          go_roundw
          case rel => exact ⟨i + 1, by go_num, hlt, hlty, HB.out, HE.out⟩
          case measure => simp [intOf]; omega
        · have HE := Lib.hid (show cmpNames xs ys = z by rw [hc.out, HD.out, if_pos hz0])
          have e2 : (z != 0) = true := by simpa using hz0
          have HB := Lib.hid hb.out
          clear hb hc HD hz0
          go_wp2_with (go_at_call 37; refine (cmpStr_any _ _ _).mono ?_; rintro e w2 ⟨rfl, rfl⟩; rw [HZ.out])
          go_ret
          exact ⟨by rw [HE.out]; rfl, HB.out⟩
      · have HE := Lib.hid (show cmpNames xs ys = 1 by
          rw [hc.out, (List.drop_eq_nil_of_le (by omega) : ys.drop i = []), List.drop_eq_getElem_cons hlt]
          rfl)
        have e1 : decide ((i : Int) ≥ (ys.length : Int)) = true := by simp; omega
        have HB := Lib.hid hb.out
        clear hb hc
        go_wp2
        go_ret
        exact ⟨by rw [HE.out]; rfl, HB.out⟩
    · have hge : ¬ ((i : Int) < (xs.length : Int)) := by omega
      have HB := Lib.hid hb.out
      have hce := hc.out
      rw [(List.drop_eq_nil_of_le (by omega) : xs.drop i = [])] at hce
      by_cases hl2 : xs.length < ys.length
      · have e1 : decide ((xs.length : Int) < (ys.length : Int)) = true := by simp; omega
        have HE := Lib.hid (show cmpNames xs ys = -1 by
          rw [hce, List.drop_eq_getElem_cons (l := ys) (i := i) (by omega)]
          rfl)
        clear hb hc hce
        go_wp2
        go_ret
        exact ⟨by rw [HE.out]; rfl, HB.out⟩
      · have e1 : decide ((xs.length : Int) < (ys.length : Int)) = false := by simp; omega
        have HE := Lib.hid (show cmpNames xs ys = 0 by
          rw [hce, (List.drop_eq_nil_of_le (by omega) : ys.drop i = [])]
          rfl)
        clear hb hc hce
        go_wp2
        go_ret
        exact ⟨by rw [HE.out]; rfl, HB.out⟩
end Go.Proofs.YtalkdddeiebfmaaGreatDoor
/- The ledger's comparison of two rows: the walk. -/
namespace Go.Proofs.YtalkdddeiebfmaaGreatDoor
open Go.RowKit Go.Sort

def orL : List Int → Int
  | [] => 0
  | a :: l => if a ≠ 0 then a else orL l
theorem row_int_at {P : Nat → Prop} {w : World} {A : Option Addr} {ss : List Int} (h : Row (Kn.int .i64) P w A ss) (i : Nat) (hi : i < ss.length) : ∃ a, A = some a ∧ w.cell? (a.add i) = some (.int .i64 ss[i]) := by
  obtain ⟨a, cs, hA, _, hr, hc⟩ := h.at_ i hi
  refine ⟨a, hA, ?_⟩
  have := hc 0 (.int .i64 ss[i]) (by rw [show cs = [Value.int .i64 ss[i]] from hr]; rfl)
  simpa [Kn.int, Kn.scalar] using this
theorem Row.newInts (w : World) (xs : List Int) (cs : Array Value) (hc : cs = (xs.map (Value.int .i64)).toArray) : Row (Kn.int .i64) (fun _ => True) (w.alloc (.cells cs 3)) (some ⟨w.heap.size, 0, none⟩) xs := fun _ =>
  ⟨_, rfl, trivial, xs.map (Value.int .i64), ⟨by simp [Kn.int, Kn.scalar], fun i hi => by
    show ((xs.map (Value.int .i64)).drop (i * 1)).take 1 = [Value.int .i64 xs[i]]
    rw [Nat.mul_one, List.drop_eq_getElem_cons (by simpa using hi)]
    simp⟩, fun j u hu => by
    rw [add_new, cell_of_row _ _ _ _ _ _ (heap_alloc_new w _), hc]; simpa using hu⟩
set_option maxRecDepth 100000 in
theorem cmpOr_any (A : Option Addr) (c : Nat) (P : Nat → Prop) (xs : List Int) (w : World) (hx : Row (Kn.int .i64) P w A xs) (h1 : xs.length ≤ 9223372036854775806) :
    Calls Tryz.prog 33 #[.slice A xs.length c] w fun e w' => e = .returned (.int .i64 (orL xs)) ∧ D.Below w.heap.size w w' := by
  have HX := Lib.hid hx
  clear hx
  go_enter Tryz.func33, Tryz.ntmps33
  go_wp2
  go_loopw [8] (fun iv wr => ∃ i : Nat, iv = .int .i64 i ∧ i ≤ xs.length ∧ Hid (D.Below w.heap.size w wr) ∧ Hid (orL xs = orL (xs.drop i))) (fun iv _ => xs.length - (intOf iv).toNat)
  case atStart => exact ⟨0, rfl, Nat.zero_le _, D.Below.refl _ _, by simp [Hid]⟩
  case round =>
    obtain ⟨i, rfl, hi, hb, hc⟩ := hrel
    obtain ⟨wo, rfl⟩ : ∃ wo, wo = wr := ⟨_, rfl⟩
    by_cases hlt : i < xs.length
    · obtain ⟨a, rfl, x0⟩ := row_int_at (HX.out.below hb.out.toB) i hlt
      have hlti : (i : Int) < (xs.length : Int) := by omega
      have HD := Lib.hid (show orL (xs.drop i) = if xs[i] ≠ 0 then xs[i] else orL (xs.drop (i + 1)) by rw [List.drop_eq_getElem_cons hlt]; rfl)
      obtain ⟨z, hz⟩ : ∃ z, xs[i] = z := ⟨_, rfl⟩
      rw [hz] at x0 HD
      clear hz
      by_cases hz0 : z = 0
      · subst hz0
        have HE := Lib.hid (show orL xs = orL (xs.drop (i + 1)) by rw [hc.out, HD.out, if_neg (by simp)])
        have HB := Lib.hid hb.out
        clear hb hc HD
        go_wp2
        go_roundw
        case rel => exact ⟨i + 1, by go_num, hlt, HB.out, HE.out⟩
        case measure => simp [intOf]; omega
      · have HE := Lib.hid (show orL xs = z by rw [hc.out, HD.out, if_pos hz0])
        have e2 : (z != 0) = true := by simpa using hz0
        have HB := Lib.hid hb.out
        clear hb hc HD hz0
        go_wp2
        go_ret
        exact ⟨by rw [HE.out]; rfl, HB.out⟩
    · have hge : ¬ ((i : Int) < (xs.length : Int)) := by omega
      have HE := Lib.hid (show orL xs = 0 by rw [hc.out, (List.drop_eq_nil_of_le (by omega) : xs.drop i = [])]; rfl)
      have HB := Lib.hid hb.out
      clear hb hc
      go_wp2
      go_ret
      exact ⟨by rw [HE.out]; rfl, HB.out⟩
theorem BJD {a w w' : World} (h : D.Below w.heap.size w w') (k : D.Below a.heap.size a w) : D.Below a.heap.size a w' := k.trans (h.mono k.size)
theorem cmpU_or (x y : Sh) : cmpU x y = orL [cmpNames (pathNames x.1.1) (pathNames y.1.1), cmpI x.1.2.1.1 y.1.2.1.1, cmpI x.1.2.1.2 y.1.2.1.2, cmpB x.1.2.2 y.1.2.2] := by
  unfold cmpU lexC onC
  simp only [orL]
  repeat' split
  all_goals first | rfl | omega
set_option maxRecDepth 100000 in
set_option maxHeartbeats 2000000 in
theorem rowsFn_any (x y : Sh) (W : World) (hm : Ml W) : Calls Tryz.prog 32 #[.agg #[.string x.1.1, .int .i64 x.1.2.1.1, .int .i64 x.1.2.1.2, .string x.1.2.2, .int .i64 x.2], .agg #[.string y.1.1, .int .i64 y.1.2.1.1, .int .i64 y.1.2.1.2, .string y.1.2.2, .int .i64 y.2]] W fun e w' => e = .returned (.int .i64 (cmpU x y)) ∧ D.Below W.heap.size W w' := by
  rw [cmpU_or]
  obtain ⟨⟨p, ⟨k, a⟩, r⟩, v⟩ := x
  obtain ⟨⟨p', ⟨k', a'⟩, r'⟩, v'⟩ := y
  simp only
  obtain ⟨N, hN⟩ : ∃ N, pathNames p = N := ⟨_, rfl⟩
  obtain ⟨N', hN'⟩ : ∃ N, pathNames p' = N := ⟨_, rfl⟩
  have HP := Lib.hid (fun w hm => (by have h := names_any p w hm; unfold NamesPost at h; rw [hN] at h; exact h : Calls Tryz.prog 35 #[.string p] w fun e w' => ∃ A c, e = .returned (.slice A N.length c) ∧ Row Kn.str (fun _ => True) w' A N ∧ D.Below w.heap.size w w'))
  have HP' := Lib.hid (fun w hm => (by have h := names_any p' w hm; unfold NamesPost at h; rw [hN'] at h; exact h : Calls Tryz.prog 35 #[.string p'] w fun e w' => ∃ A c, e = .returned (.slice A N'.length c) ∧ Row Kn.str (fun _ => True) w' A N' ∧ D.Below w.heap.size w w'))
  have hl : ∀ q : ByteArray, (pathNames q).length ≤ 8 := fun q => by
    rw [pathNames_nm, List.length_map]
    by_cases h : isPath q = true
    · exact (pathOk h).few
    · have : nm q = [] := by
        unfold nm
        unfold isPath at h
        rw [Bool.not_eq_true, Option.isSome_eq_false_iff, Option.isNone_iff_eq_none] at h
        rw [h]; rfl
      rw [this]; simp
  have hl1 := hl p
  have hl2 := hl p'
  rw [hN] at hl1 ⊢
  rw [hN'] at hl2 ⊢
  clear hN hN' hl
  have hx := heap_alloc_new W (.cells #[.string p, .int .i64 k, .int .i64 a, .string r, .int .i64 v] 49)
  have hb1 := (D.Below.refl W.heap.size W).alloc (Nat.le_refl _) (.cells #[.string p, .int .i64 k, .int .i64 a, .string r, .int .i64 v] 49)
  obtain ⟨w1, hw1⟩ : ∃ w1, W.alloc (.cells #[.string p, .int .i64 k, .int .i64 a, .string r, .int .i64 v] 49) = w1 := ⟨_, rfl⟩
  have hs1 : w1.heap.size = W.heap.size + 1 := by rw [← hw1]; simp
  rw [hw1] at hx hb1
  have hy := heap_alloc_new w1 (.cells #[.string p', .int .i64 k', .int .i64 a', .string r', .int .i64 v'] 49)
  have hb2 := (D.Below.refl w1.heap.size w1).alloc (Nat.le_refl _) (.cells #[.string p', .int .i64 k', .int .i64 a', .string r', .int .i64 v'] 49)
  obtain ⟨w2, hw2⟩ : ∃ w2, w1.alloc (.cells #[.string p', .int .i64 k', .int .i64 a', .string r', .int .i64 v'] 49) = w2 := ⟨_, rfl⟩
  rw [hw2] at hy hb2
  have hx2 := (hb2.block W.heap.size (by omega)).trans hx
  rw [hs1] at hy
  have HW := Lib.hid (BJD hb2 hb1)
  have HML := Lib.hid (hm.below HW.out.toB)
  have HS := Lib.hid (show ∀ w', Go.RowKit.Below w2.heap.size w2 w' → (w'.cell? ⟨W.heap.size, 0, none⟩ = some (.string p) ∧ w'.cell? ⟨W.heap.size, 1, none⟩ = some (.int .i64 k) ∧ w'.cell? ⟨W.heap.size, 2, none⟩ = some (.int .i64 a) ∧ w'.cell? ⟨W.heap.size, 3, none⟩ = some (.string r) ∧ w'.cell? ⟨W.heap.size + 1, 0, none⟩ = some (.string p') ∧ w'.cell? ⟨W.heap.size + 1, 1, none⟩ = some (.int .i64 k') ∧ w'.cell? ⟨W.heap.size + 1, 2, none⟩ = some (.int .i64 a') ∧ w'.cell? ⟨W.heap.size + 1, 3, none⟩ = some (.string r')) from fun w' hb => by
    have h1 := (hb.block W.heap.size (Array.getElem?_eq_some_iff.1 hx2).1).trans hx2
    have h2 := (hb.block (W.heap.size + 1) (Array.getElem?_eq_some_iff.1 hy).1).trans hy
    exact ⟨cell_of_row _ _ _ _ _ _ h1, cell_of_row _ _ _ _ _ _ h1, cell_of_row _ _ _ _ _ _ h1, cell_of_row _ _ _ _ _ _ h1, cell_of_row _ _ _ _ _ _ h2, cell_of_row _ _ _ _ _ _ h2, cell_of_row _ _ _ _ _ _ h2, cell_of_row _ _ _ _ _ _ h2⟩)
  have hl64 : N.length ≤ 9223372036854775806 := by omega
  have hl65 : N'.length ≤ 9223372036854775806 := by omega
  have T1 := True.intro
  have U1 := True.intro
  clear hx hb1 hy hb2 hx2 hm
  go_enter Tryz.func32, Tryz.ntmps32
  go_upto_region 1 with fail
  clear hw1 hw2 hs1
  go_cut [4] (fun s wx => s = .int .i64 (orL [cmpNames N N', cmpI k k', cmpI a a', cmpB r r']) ∧ D.Below w2.heap.size w2 wx)
  case first =>
    go_region_held3 (fun w' => w'.cell? ⟨W.heap.size, 0, none⟩ = some (.string p) ∧ w'.cell? ⟨W.heap.size, 1, none⟩ = some (.int .i64 k) ∧ w'.cell? ⟨W.heap.size, 2, none⟩ = some (.int .i64 a) ∧ w'.cell? ⟨W.heap.size, 3, none⟩ = some (.string r) ∧ w'.cell? ⟨W.heap.size + 1, 0, none⟩ = some (.string p') ∧ w'.cell? ⟨W.heap.size + 1, 1, none⟩ = some (.int .i64 k') ∧ w'.cell? ⟨W.heap.size + 1, 2, none⟩ = some (.int .i64 a') ∧ w'.cell? ⟨W.heap.size + 1, 3, none⟩ = some (.string r')) (exact HS.out _ (D.Below.toB (by repeat (first | exact HB8.out | exact HK3.out | exact HK2.out | exact HK1.out | exact D.Below.refl _ _ | refine D.Below.drew ?_ | refine D.Below.alloc ?_ (by have := HK3.out.size; simp; try omega) _)))) (first
      | (go_at_call 35; have T2 := T1; clear T1; refine (HP.out _ ?_).mono ?_; exact HML.out.below (D.Below.toB (by repeat (first | exact D.Below.refl _ _ | refine D.Below.drew ?_))); rintro e v1 ⟨A1, c1, rfl, hr1, hb1⟩; have HR1 := Lib.hid hr1; clear hr1; have HK1 := Lib.hid (show D.Below w2.heap.size w2 v1 from BJD hb1 (by repeat (first | exact D.Below.refl _ _ | refine D.Below.drew ?_))); clear hb1)
      | (go_at_call 35; have T3 := T2; clear T2; refine (HP'.out _ ?_).mono ?_; exact HML.out.below (D.Below.toB (by repeat (first | exact HK1.out | exact D.Below.refl _ _ | refine D.Below.drew ?_))); rintro e v2 ⟨A2, c2, rfl, hr2, hb2⟩; have HR2 := Lib.hid hr2; clear hr2; have HB12 := Lib.hid (show D.Below v1.heap.size v1 v2 from BJD hb2 (by repeat (first | exact D.Below.refl _ _ | refine D.Below.drew ?_))); have HK2 := Lib.hid (show D.Below w2.heap.size w2 v2 from BJD hb2 (by repeat (first | exact HK1.out | exact D.Below.refl _ _ | refine D.Below.drew ?_))); clear hb2)
      | (go_at_call 34; refine (strsCompare_any A1 A2 c1 c2 (fun _ => True) (fun _ => True) N N' _ ?_ ?_ hl64 hl65).mono ?_; exact HR1.out.below (D.Below.toB (by repeat (first | exact HB12.out | exact D.Below.refl _ _ | refine D.Below.drew ?_))); exact HR2.out.below (D.Below.toB (by repeat (first | exact D.Below.refl _ _ | refine D.Below.drew ?_))); rintro e v3 ⟨rfl, hb3⟩; have HK3 := Lib.hid (show D.Below w2.heap.size w2 v3 from BJD hb3 (by repeat (first | exact HK2.out | exact HK1.out | exact D.Below.refl _ _ | refine D.Below.drew ?_))); clear hb3)
      | (go_at_call 36; have U2 := U1; clear U1; refine (Tryz.cmp_Compare_int k k' _).mono ?_; rintro e v4 ⟨rfl, rfl⟩)
      | (go_at_call 36; have U3 := U2; clear U2; refine (Tryz.cmp_Compare_int a a' _).mono ?_; rintro e v5 ⟨rfl, rfl⟩)
      | (go_at_call 37; refine (cmpStr_any r r' _).mono ?_; rintro e v6 ⟨rfl, rfl⟩)
      | (go_at_call 33; refine (cmpOr_any _ _ (fun _ => True) [cmpNames N N', cmpI k k', cmpI a a', cmpB r r'] _ (Row.newInts _ _ _ rfl) (by simp)).mono ?_; rintro e v7 ⟨rfl, hb7⟩; have HB8 := Lib.hid (show D.Below w2.heap.size w2 v7 from BJD hb7 (HK3.out.alloc HK3.out.size _)); clear hb7))
    all_goals (go_wp2_with fail; go_meet; exact ⟨rfl, HB8.out⟩)
  case rest =>
    obtain ⟨rfl, hb3⟩ := hcut
    rename World => w3
    have HB3 := Lib.hid hb3
    clear hb3
    go_wp2
    go_ret
    exact ⟨rfl, BJD HB3.out HW.out⟩
end Go.Proofs.YtalkdddeiebfmaaGreatDoor
/- The ledger's rows, sorted. -/
namespace Go.Proofs.YtalkdddeiebfmaaGreatDoor
open Go.RowKit Go.Sort Go.Shelf Go.Lib

theorem D.Below.grows {w w' : World} (h : D.Below w.heap.size w w') : ∃ q os', w' = grow (w.drewN q) os' := by
  obtain ⟨⟨h1, h2, h3, h4, h5⟩, h6⟩ := h
  refine ⟨w'.drawn - w.drawn, w'.heap.extract w.heap.size w'.heap.size, ?_⟩
  have hh : w'.heap = w.heap ++ w'.heap.extract w.heap.size w'.heap.size := by
    apply Array.ext_getElem?
    intro i
    rw [Array.getElem?_append]
    by_cases hi : i < w.heap.size
    · rw [if_pos hi]; exact h5 i hi
    · rw [if_neg hi, Array.getElem?_extract]
      by_cases h7 : i < w'.heap.size
      · rw [if_pos (by omega)]; congr 1; omega
      · rw [if_neg (by omega)]; exact Array.getElem?_eq_none (by omega)
  have hd : w.drawn + (w'.drawn - w.drawn) = w'.drawn := by omega
  cases w
  cases w'
  simp only [grow, World.drewN] at *
  subst h1
  subst h2
  subst h3
  rw [hd]
  congr 1
theorem sortWorld_block {α : Type} [Inhabited α] (f : α → List Value) (k : Nat) (w : World) (blk off m : Nat) (dk : Array α) (os : Array Obj) (i : Nat) (hi : i < w.heap.size) (hne : i ≠ blk) : (sortWorldK f k w blk off m dk os).heap[i]? = w.heap[i]? := by
  have hs : (putRowK f k (Sort.ahead w m) blk off dk).heap.size = w.heap.size := by rw [size_putRowK]; rfl
  unfold sortWorldK grow
  simp only
  rw [Array.getElem?_append, if_pos (by rw [hs]; exact hi)]
  unfold putRowK putRow mapBlock
  simp only
  rw [Array.getElem?_modify, if_neg (fun e => hne e.symm)]
  rfl
instance instInhabitedSh : Inhabited Sh := ⟨((⟨#[]⟩, (0, 0), ⟨#[]⟩), 0)⟩
set_option maxRecDepth 100000 in
theorem useSort_any {base n : Nat} {A : Option Addr} {M : List Sh} {nm : Nat} (hnm : M.length = nm) (w : World) (hml : Ml w) (hbase : 1 < base) (hown : Own kSh 49 base (fun _ => False) w (.slice A nm n) M) (hM : M ≠ []) (hlen : M.length < 4611686018427387904) :
    Calls Tryz.prog 31 #[.slice A nm n, .func (.func 32) #[] #[]] w fun e w' => e = .returned (.tuple #[]) ∧ ∃ R : List Sh, Own kSh 49 base (fun _ => False) w' (.slice A nm n) R ∧ R.Perm M ∧ R.Pairwise (fun x y => ¬ cmpU y x < 0) ∧ w.grownBy w' (Value.slice A nm n).ownBlock := by
  subst hnm
  obtain ⟨cells, ho, hf⟩ := hown
  rcases ho.2 with ⟨-, h0⟩ | ⟨g, cap, cur, hv, hg, hb, hnc, hcap, hcs, htk⟩
  · exact absurd (List.length_eq_zero_iff.1 h0) hM
  · cases hv
    have hff : Flat kSh (fun _ => False) w M (flatK Sh.cells 5 M.toArray).toList := by
      have := flat_flatK (f := Sh.cells) (n := 5) (hn := by omega) (hl := fun _ => rfl) (h1 := fun x u hu => by simp [Sh.cells] at hu; rcases hu with rfl | rfl | rfl | rfl | rfl <;> rfl) (fun _ => False) w M.toArray
      exact this
    have hflat : cells = (flatK Sh.cells 5 M.toArray).toList := flat_unique (f := Sh.cells) (n := 5) hf hff
    have hH : HoldsK Sh.cells 5 w g 0 M.toArray := holds_of_blockK hb (by rw [← hflat]; have h := htk; rw [show kSh.sz = 5 from rfl] at h; simpa using h)
    have eg : ∀ args w, (callFunc 32 args).run Tryz.prog w = .ok (.enter 32 args) w := enters_of Tryz.func32 (by kernel_rfl) rfl
    have hblk : g < w.heap.size := (Array.getElem?_eq_some_iff.1 hb).1
    have hcmp : CmpLays Tryz.prog 32 #[] Sh.cells 5 cmpU g 0 M.toArray.size w := fun m os dk _ x y => by
      have hm2 : Ml (sortWorldK Sh.cells 5 w g 0 m dk os) := by
        obtain ⟨z, hz⟩ := hml
        refine ⟨z, ?_⟩
        rw [World.cell?_of_block (w := w) (sortWorld_block _ _ _ _ _ _ _ _ _ (World.block_lt_of_cell? w _ hz) (by show (1 : Nat) ≠ g; omega))]
        exact hz
      exact (rowsFn_any x y _ hm2).mono fun e w' ⟨h1, h2⟩ => ⟨h1, h2.grows⟩
    have hcon := AnyQ.slices_SortFunc Tryz.sortU 5 Tryz.isAgg49 Tryz.sizeOf49 Sh.cells (fun _ => rfl) (fun x v hv => by simp [Sh.cells] at hv; rcases hv with rfl | rfl | rfl | rfl | rfl <;> rfl) cmpU tot_cmpU.swo 32 #[] g 0 n M.toArray w eg hcmp hH hblk (by simpa using hlen)
    change Calls Tryz.prog 31 _ _ _ at hcon
    rw [show M.toArray.size = M.length by simp] at hcon
    refine hcon.mono ?_
    rintro e w' ⟨rfl, d', m, os, h1, h2, rfl⟩
    have hsz : d'.size = M.length := by simpa using h1.1
    refine ⟨rfl, d'.toList, ?_, ?_, ?_, grownBy_sortedK _⟩
    · have := own_sortedK (f := Sh.cells) (k := 5) (hk := by omega) (hl := fun _ => rfl) (h1 := fun x u hu => by simp [Sh.cells] at hu; rcases hu with rfl | rfl | rfl | rfl | rfl <;> rfl) (n := m) (os := os) (d := M.toArray) (d' := d') (fun _ => False) (by simpa using h1.1) hg hb (by simpa using hnc) hcap hcs
      rw [show M.toArray.size = M.length by simp] at this
      exact this
    · have h3 := h1.2.2
      rw [show (d'.extract 0 M.length) = d' by rw [← hsz]; exact Array.extract_size, show (M.toArray.extract 0 M.length) = M.toArray by have : M.toArray.size = M.length := by simp
                                                                                                                                        rw [← this]; exact Array.extract_size] at h3
      simpa using h3
    · rw [List.pairwise_iff_getElem]
      intro i j hi hj hij
      have hi' : i < d'.size := by simpa using hi
      have hj' : j < d'.size := by simpa using hj
      have := h2 i j (Nat.zero_le _) hij (by omega)
      rw [getElem!_pos d' j hj', getElem!_pos d' i hi'] at this
      simpa [ltOf] using this
/-- a list that holds all sums that are not 0, each once, sorted -/
theorem rowsOf_sorted {S : Pl → Int} {M R : List Sh} (hp : R.Perm M) (hs : R.Pairwise (fun x y => ¬ cmpU y x < 0)) (hm : ∀ x : Sh, x ∈ M ↔ S x.1 ≠ 0 ∧ x.2 = S x.1) (hn : M.Nodup) (hpath : ∀ x, S x ≠ 0 → isPath x.1 = true) : RowsOf S R := by
  have hmem : ∀ x : Sh, x ∈ R ↔ S x.1 ≠ 0 ∧ x.2 = S x.1 := fun x => by rw [hp.mem_iff, hm]
  refine ⟨?_, hmem⟩
  have hnR : R.Nodup := hp.nodup_iff.2 hn
  rw [List.nodup_iff_pairwise_ne] at hnR
  refine (List.Pairwise.imp_of_mem ?_ (hs.and hnR) : R.Pairwise _)
  rintro a b ha hb ⟨h1, h2⟩
  have s1 := tot_cmpU.sym a b
  have s2 := tot_cmpU.sym b a
  by_cases h : cmpU a b < 0
  · exact h
  · exfalso
    have h0 : cmpU a b = 0 := by omega
    have ha' := (hmem a).1 ha
    have hb' := (hmem b).1 hb
    have e := cmpU_zero (hpath _ ha'.1) (hpath _ hb'.1) h0
    apply h2
    obtain ⟨x, v⟩ := a
    obtain ⟨y, u⟩ := b
    simp only at e ha' hb'
    subst e
    rw [ha'.2, hb'.2]
end Go.Proofs.YtalkdddeiebfmaaGreatDoor
/- How many entries a ledger's maps have. -/
namespace Go.Proofs.YtalkdddeiebfmaaGreatDoor
open Go.RowKit Go.Maps Go.WideMaps

theorem nodup_le {α : Type} [DecidableEq α] : ∀ (l L : List α), l.Nodup → (∀ x ∈ l, x ∈ L) → l.length ≤ L.length
  | [], _, _, _ => Nat.zero_le _
  | x :: l, L, hn, h => by
    rw [List.nodup_cons] at hn
    have h1 := nodup_le l (L.filter fun y => decide (y ≠ x)) hn.2 fun y hy => by
      rw [List.mem_filter]
      exact ⟨h y (List.mem_cons_of_mem _ hy), by simp only [decide_eq_true_eq]; rintro rfl; exact hn.1 hy⟩
    have h2 : (L.filter fun y => decide (y ≠ x)).length < L.length := List.length_filter_lt_length_iff_exists.2 ⟨x, h x (by simp), by simp⟩
    simp only [List.length_cons]; omega
theorem ownsMap_tight {k : TypeId} {R : Value → Option (DataW Unit × List MemPlace)} {w : World} {b n : Nat} {D : DataW Unit} (K : Keyed Tryz.prog k) (h : w.ownsMap Tryz.prog k R b n D) {α : Type} [DecidableEq α] [Inhabited α] (f : α → Value) (g : α → Lit) (L : List α)
    (hinv : ∀ v l, keyOf Tryz.prog k v = some l → ∃ x, v = f x ∧ l = g x ∧ (Maps.has D (g x) = true → x ∈ L)) : w.ownsMap Tryz.prog k R b L.length D := by
  obtain ⟨es, clock, hb, F, hs, rfl⟩ := h
  refine ⟨es, clock, hb, F, ?_, rfl⟩
  have hch : ∀ e : MapEntry, ∃ x : α, e ∈ es.toList → e.key = f x ∧ x ∈ L := fun e => by
    by_cases he : e ∈ es.toList
    · obtain ⟨y, hy⟩ := F.reads e he
      obtain ⟨x, hx, hl, hm⟩ := hinv _ _ (Go.WideElems.rd_key hy)
      refine ⟨x, fun _ => ⟨hx, hm ?_⟩⟩
      rw [← hl]
      have hin : (Go.WideElems.rg Tryz.prog k R e) ∈ ((es.toList.map (Go.WideElems.rg Tryz.prog k R)).foldr DataW.insert []) := mem_sorted.2 (List.mem_map_of_mem he)
      rw [Maps.has_eq, List.any_eq_true]
      refine ⟨_, hin, ?_⟩
      rw [Go.WideElems.rg_of hy]
      exact WideAt.sameKey_self (K.key (Go.WideElems.rd_key hy))
    · exact ⟨default, fun h => absurd h he⟩
  have hk := ((Go.MapKept.stamped_iff es clock).1 F.stamped).2.2
  have hlen := nodup_le (es.toList.map fun e => (hch e).choose) L (by
    rw [List.nodup_iff_pairwise_ne, List.pairwise_map]
    refine (List.Pairwise.imp_of_mem ?_ hk : es.toList.Pairwise _)
    intro a b ha hb hab e
    have h1 := ((hch a).choose_spec ha).1
    have h2 := ((hch b).choose_spec hb).1
    exact hab (by rw [h1, h2, e])) fun x hx => by
      obtain ⟨e, he, rfl⟩ := List.mem_map.1 hx
      exact ((hch e).choose_spec he).2
  simpa using hlen
section
variable {w : World} {g b1 b2 n m : Nat} {S : Pl → Int} {C : ByteArray → Int}
theorem st_key_inv {v : Value} {l : Lit} (h : keyOf Tryz.prog 9 v = some l) : ∃ x, StOk x ∧ v = .string x ∧ l = .string x.data.toList := by
  obtain ⟨x, rfl, rfl, hx⟩ := Maps.keyOf_str Tryz.underlying9 h
  exact ⟨⟨x.toArray⟩, by unfold StOk; rw [← data_len]; simpa using hx, rfl, by simp⟩
/-- a ledger has no more entries than sums, or counts, that are not 0 -/
theorem IsLed.tight (k : IsLed w g b1 b2 n S C) (ok : LedOk m S C) : IsLed w g b1 b2 m S C := by
  obtain ⟨D, h1, h2, h3⟩ := k.sums.ex
  obtain ⟨E, e1, e2, e3⟩ := k.cnts.ex
  obtain ⟨L, hL, hL2⟩ := ok.sup
  obtain ⟨M, hM, hM2⟩ := ok.csup
  refine ⟨k.box, ⟨D, (ownsMap_tight placeLaw h1 plV plLit L fun v l hk => ?_).mono hL, h2, h3⟩, ⟨E, (ownsMap_tight strLaw e1 Value.string (fun x => .string x.data.toList) M fun v l hk => ?_).mono hM, e2, e3⟩, k.ne12⟩
  · obtain ⟨x, hx, rfl, rfl⟩ := pl_key_inv hk
    exact ⟨x, rfl, rfl, fun hh => hL2 x (by rw [h3 x hx] at hh; simpa using hh)⟩
  · obtain ⟨x, hx, rfl, rfl⟩ := st_key_inv hk
    exact ⟨x, rfl, rfl, fun hh => hM2 x (by rw [e3 x hx] at hh; simpa using hh)⟩
end
end Go.Proofs.YtalkdddeiebfmaaGreatDoor
/- The ledger's Rows: the walk. -/
namespace Go.Proofs.YtalkdddeiebfmaaGreatDoor
open Go.RowKit Go.Maps Go.WideMaps Go.Sort

/-- what the walk over the map has met -/
structure ColS (D : DataW Unit) (S : Pl → Int) (left : Lit → Bool) (M : List Sh) : Prop where
  nod : (M.map Prod.fst).Nodup
  mem : ∀ x, x ∈ M.map Prod.fst ↔ PlOk x ∧ Maps.has D (plLit x) = true ∧ left (plLit x) = false
  val : ∀ s ∈ M, s.2 = S s.1
section
variable {D : DataW Unit} {S : Pl → Int} {left : Lit → Bool} {M : List Sh}
theorem ColS.start (D : DataW Unit) (S : Pl → Int) : ColS D S (Maps.has D) [] := ⟨List.nodup_nil, fun x => by simp, fun s hs => by cases hs⟩
theorem ColS.step (h : ColS D S left M) (hr : ∀ x, PlOk x → D.atKey (plLit x) z64 = i64D (S x)) {x : Pl} {c : Int} (hx : PlOk x) (hlk : left (plLit x) = true) (hat : ∀ zd, D.atKey (plLit x) zd = i64D c) : ColS D S (fun z => left z && !z.sameKey (plLit x)) (M ++ [(x, c)]) := by
  have hc : c = S x := by
    have := (hat z64).symm.trans (hr x hx)
    simpa [i64D] using this
  have hkx : WideAt.IsKeyLit (plLit x) := placeLaw.key (pl_key x hx)
  have hnx : x ∉ M.map Prod.fst := fun hm => by
    have := ((h.mem x).1 hm).2.2
    rw [hlk] at this
    cases this
  refine ⟨?_, fun y => ?_, fun s hs => ?_⟩
  · rw [List.map_append, List.nodup_append]
    refine ⟨h.nod, by simp, fun a ha b hb e => ?_⟩
    simp only [List.map_cons, List.map_nil, List.mem_singleton] at hb
    rw [← e.trans hb] at hnx
    exact hnx ha
  · rw [List.map_append, List.mem_append, h.mem]
    simp only [List.map_cons, List.map_nil, List.mem_singleton]
    by_cases e : y = x
    · subst e
      simp [hx, has_true_of_atKey hat, WideAt.sameKey_self hkx]
    · constructor
      · rintro (⟨h1, h2, h3⟩ | h1)
        · exact ⟨h1, h2, by rw [h3]; rfl⟩
        · exact absurd h1 e
      · rintro ⟨h1, h2, h3⟩
        have h4 : (plLit y).sameKey (plLit x) = false := sameKey_ne fun e2 => e (plLit_inj h1 hx e2)
        rw [h4] at h3
        exact .inl ⟨h1, h2, by simpa using h3⟩
  · rcases List.mem_append.1 hs with hs | hs
    · exact h.val s hs
    · rw [List.mem_singleton.1 hs]; exact hc
theorem ColS.done (h : ColS D S left M) (hh : ∀ x, PlOk x → Maps.has D (plLit x) = decide (S x ≠ 0)) (hl : ∀ kl, left kl = false) (hp : ∀ x, S x ≠ 0 → PlOk x) : M.Nodup ∧ ∀ x : Sh, x ∈ M ↔ S x.1 ≠ 0 ∧ x.2 = S x.1 := by
  have hn := h.nod
  rw [List.nodup_iff_pairwise_ne, List.pairwise_map] at hn
  refine ⟨?_, fun x => ?_⟩
  · rw [List.nodup_iff_pairwise_ne]
    exact hn.imp fun hab e => hab (by rw [e])
  · constructor
    · intro hx
      have h1 := (h.mem x.1).1 (List.mem_map_of_mem hx)
      have h2 := h1.2.1
      rw [hh x.1 h1.1] at h2
      exact ⟨by simpa using h2, h.val x hx⟩
    · rintro ⟨h1, h2⟩
      have h3 := (h.mem x.1).2 ⟨hp x.1 h1, by rw [hh x.1 (hp x.1 h1)]; simpa using h1, hl _⟩
      obtain ⟨y, hy, e⟩ := List.mem_map.1 h3
      have h4 := h.val y hy
      have : y = x := by
        obtain ⟨a, b⟩ := y
        obtain ⟨c, d⟩ := x
        simp only at e h4 h2
        subst e
        rw [h4, h2]
      rw [← this]; exact hy
end
theorem wpList_next_pl (w : World) {ops : Array Oper} {rest : List Oper} {o : Oper} {a : Act} {Q : Exit → Act → World → Prop}
    (hg : o.guard = none) (it : Operand) (hop : o.op = Op.next it false) (b r n : Nat) (D : DataW Unit) (left : Lit → Bool) (cnt : Nat) (hit : a.eval it = .pointer (some ⟨r, 0, none⟩)) (h : w.ranges Tryz.prog 79 (plainElem Tryz.prog 2) b r n D left cnt)
    (hDone : cnt = 0 → (∀ kl, left kl = false) → wpList Tryz.prog ops Q rest (a.put o.dst (.tuple #[.bool false])) w)
    (hMore : ∀ (p : ByteArray) (k g : Int) (t : ByteArray) (c : Int) (w' : World) (cnt' : Nat), PlOk (p, (k, g), t) → left (plLit (p, (k, g), t)) = true → (∀ zd, D.atKey (plLit (p, (k, g), t)) zd = i64D c) → w'.ranges Tryz.prog 79 (plainElem Tryz.prog 2) b r n D (fun z => left z && !z.sameKey (plLit (p, (k, g), t))) cnt' → cnt' < cnt →
      w.grownBy w' (some r) → w'.heap.size = w.heap.size → (Instr.entry (.pointer (some ⟨r, 0, none⟩))).run Tryz.prog w' = .ok (.tuple #[.agg #[.string p, .int .i64 k, .int .i64 g, .string t], .int .i64 c]) w' → wpList Tryz.prog ops Q rest (a.put o.dst (.tuple #[.bool true, .agg #[.string p, .int .i64 k, .int .i64 g, .string t], .int .i64 c])) w') :
    wpList Tryz.prog ops Q (o :: rest) a w :=
  wpList_next_ranges w hg it hop 79 placeLaw (plainElem Tryz.prog 2) plV (Value.int .i64) (fun key kl hkey => by obtain ⟨x, -, rfl, -⟩ := pl_key_inv hkey; exact ⟨x, rfl⟩) (fun v y hv => by obtain ⟨c, rfl, _⟩ := plainElem_int_inv Tryz.underlying2 hv; exact ⟨c, rfl⟩)
    b r n D left cnt hit h hDone (fun x c kl y w' cnt' hkey hlk hv hat hrg hlt hgr hsz hen => by
      obtain ⟨x', hx', ex, rfl⟩ := pl_key_inv hkey
      obtain rfl : x = x' := by
        obtain ⟨a1, ⟨a2, a3⟩, a4⟩ := x
        obtain ⟨c1, ⟨c2, c3⟩, c4⟩ := x'
        simp [plV, plCells] at ex
        obtain ⟨rfl, rfl, rfl, rfl⟩ := ex
        rfl
      obtain ⟨c', ec, rfl, hwc⟩ := plainElem_int_inv Tryz.underlying2 hv
      cases ec
      obtain ⟨p, ⟨k, g⟩, t⟩ := x
      exact hMore p k g t c w' cnt' hx' hlk hat hrg hlt hgr hsz hen)
end Go.Proofs.YtalkdddeiebfmaaGreatDoor
/- The ledger's Rows: the walk. -/
namespace Go.Proofs.YtalkdddeiebfmaaGreatDoor
open Go.RowKit Go.Maps Go.WideMaps Go.Sort

theorem useElem : Elem Tryz.prog 36 49 kSh 56 :=
  Elem.mk_ (z := .agg #[.string ⟨#[]⟩, .int .i64 0, .int .i64 0, .string ⟨#[]⟩, .int .i64 0]) Tryz.underlying36 (by kernel_rfl) rfl (by omega)
theorem ownsMap_size_pl {w : World} {b n : Nat} {D : DataW Unit} {R : Value → Option (DataW Unit × List MemPlace)} (h : w.ownsMap Tryz.prog 79 R b n D) : Maps.size D ≤ n := by
  obtain ⟨es, clock, _, _, h3, rfl⟩ := h
  show ((es.toList.map _).foldr DataW.insert []).length ≤ n
  rw [length_sorted, List.length_map, Array.length_toList]; exact h3
def LRowsPost (S : Pl → Int) (w : World) (e : Ending) (w' : World) : Prop :=
  ∃ A c R, e = .returned (.slice A (List.length R) c) ∧ Own kSh 49 w.heap.size (fun _ => False) w' (.slice A R.length c) R ∧ RowsOf S R ∧ Below w.heap.size w w'
section
variable {w : World} {g b1 b2 n m : Nat} {S : Pl → Int} {C : ByteArray → Int}
set_option maxRecDepth 100000 in
set_option maxHeartbeats 1000000 in
theorem lrows_any (w : World) (hm : Ml w) (k : IsLed w g b1 b2 n S C) (ok : LedOk m S C) (hsz : (m + 1) * 56 ≤ 140737488355328) :
    Calls Tryz.prog 14 #[.pointer (some ⟨g, 0, none⟩)] w (LRowsPost S w) := by
  obtain ⟨D, hown, hlook, hhas⟩ := (k.tight ok).sums.ex
  have g0 := k.g0
  have HB1 := Lib.hid (show b1 < w.heap.size from k.sums.lt)
  have HOWN := Lib.hid hown
  have HLOOK := Lib.hid hlook
  have HHAS := Lib.hid hhas
  have HOK := Lib.hid ok
  have HM := Lib.hid hm
  have hds := ownsMap_size_pl hown
  clear hown hlook hhas ok hm k
  go_enter Tryz.func14, Tryz.ntmps14
  go_wp2_with (first
    | (at_range; refine wpList_range_own _ rfl _ 74 rfl 79 2 placeLaw Tryz.underlying74 _ b1 m _ rfl HOWN.out ?_; intro w6 hrg0 hg0 hs0)
    | go_in)
  have HRG0 := Lib.hid hrg0
  have HB6 := Lib.hid (show Below w.heap.size w w6 from (Below.refl _ _).grown hg0 (Nat.le_refl _) (fun j hj => by cases hj))
  clear hrg0 hg0
  try go_frame
  go_loopw [3] (fun lv wr => ∃ (left : Lit → Bool) (cnt n : Nat) (B : Option Addr) (M : List Sh), lv = .slice B M.length n ∧ Hid (wr.ranges Tryz.prog 79 (plainElem Tryz.prog 2) b1 w.heap.size m D left cnt) ∧ M.length + cnt ≤ m ∧ Hid (ColS D S left M) ∧ Hid (Own kSh 49 w.heap.size (fun _ => False) wr lv M) ∧ Hid (Below w.heap.size w wr)) (fun _ wr => wr.rangeLeft b1 w.heap.size)
  case atStart => exact ⟨_, _, 0, none, [], rfl, HRG0.out, by simp; omega, ColS.start D S, Own.nil _ _ _ _ _, HB6.out⟩
  case round =>
    obtain ⟨left, cnt, n7, B7, M, rfl, hrg, hcnt, hcol, hom, hb7⟩ := hrel
    obtain ⟨wq, rfl⟩ : ∃ wq, wq = wr := ⟨_, rfl⟩
    have hszq := hb7.out.size
    go_wp2_with (first
      | (at_next; refine wpList_next_pl _ rfl _ rfl b1 w.heap.size m _ _ _ rfl hrg.out ?_ ?_)
      | go_in)
    · intro _ hl0
      have hdone := hcol.out.done HHAS.out hl0 fun x hx => (HOK.out.pl x hx).1
      have hpath := fun x hx => (HOK.out.pl x hx).2.1
      by_cases hM : M = []
      · subst hM
        have HR := Lib.hid (show RowsOf S [] from rowsOf_sorted (List.Perm.refl _) List.Pairwise.nil hdone.2 hdone.1 hpath)
        have HS := Lib.hid (AnyF.slices_SortFunc_none Tryz.sortU B7 n7 (.func (.func 32) #[] #[]) wq)
        have HS2 := Lib.hid (show Calls Tryz.prog 31 #[.slice B7 0 n7, .func (.func 32) #[] #[]] wq _ from HS.out)
        clear hdone hpath hl0
        go_wp2_with (go_at_call 31; refine HS2.out.mono ?_; rintro e w8 ⟨rfl, rfl⟩)
        go_ret
        exact ⟨B7, n7, [], rfl, hom.out, HR.out, hb7.out⟩
      · have hML := HM.out.below hb7.out
        have hlt := HM.out.low
        have HS := Lib.hid (useSort_any (nm := M.length) rfl wq hML hlt hom.out hM (by omega))
        have HD := Lib.hid hdone
        have HP := Lib.hid hpath
        clear hdone hpath hl0 hML hlt hM
        go_wp2_with (go_at_call 31; refine HS.out.mono ?_; rintro e w8 ⟨rfl, R, hown8, hp8, hs8, hg8⟩; have HO8 := Lib.hid hown8; have HG8 := Lib.hid hg8; have HP8 := Lib.hid hp8; have HS8 := Lib.hid hs8; clear hown8 hg8 hp8 hs8)
        go_ret
        have hlen : R.length = M.length := HP8.out.length_eq
        refine ⟨B7, n7, R, by rw [hlen]; rfl, by rw [hlen]; exact HO8.out, rowsOf_sorted HP8.out (HS8.out.imp fun h => by omega) HD.out.2 HD.out.1 HP.out, ?_⟩
        exact hb7.out.grown HG8.out hszq (fun k hk => (hom.out.block_lt k hk).1)
    · intro p kd ar t c w7 cnt' hx hlk hat hrg1 hlt1 hg1 hs1 hen
      obtain ⟨cells7, hor7, -⟩ := hom.out
      have hne1 := row_ne_iter hor7 hrg.out
      have HO7 := Lib.hid (show Own kSh 49 w.heap.size (fun _ => False) w7 (.slice B7 M.length n7) M from
        (hom.out.move fun k hk hl => hk.elim (fun hk => hg1.block k hl (fun e => hne1 (e ▸ hk.symm))) (fun f => f.elim)))
      have HB7 := Lib.hid (show Below w.heap.size w w7 from hb7.out.grown hg1 hszq (fun k hk => by cases hk; exact Nat.le_refl _))
      have HRG1 := Lib.hid hrg1
      have HCOL := Lib.hid (hcol.out.step HLOOK.out hx hlk hat)
      have HLT := Lib.hid (show w7.rangeLeft b1 w.heap.size < wq.rangeLeft b1 w.heap.size by rw [hrg1.left_eq, hrg.out.left_eq]; exact hlt1)
      have hz7 := HB7.out.size
      have h24 : (M.length + 1) * 56 ≤ 140737488355328 := by omega
      have HC := Lib.hid (show Row kSh (fun _ => True) ((w7.alloc (.cells #[.string p, .int .i64 kd, .int .i64 ar, .string t] 79)).alloc (.cells #[.string p, .int .i64 kd, .int .i64 ar, .string t, .int .i64 c] 49)) (some ⟨w7.heap.size + 1, 0, none⟩) [((p, (kd, ar), t), c)] by
        have := Row.newOnePlain (w := w7.alloc (.cells #[.string p, .int .i64 kd, .int .i64 ar, .string t] 79)) (e := 49) (cs := Sh.cells ((p, (kd, ar), t), c)) kSh_plain (x := ((p, (kd, ar), t), c)) rfl
        simpa [Sh.cells] using this)
      clear hor7 hne1 hrg1 hg1 hlk hat hs1 hx
      go_wp2_with (
        (at_builtin; refine wpList_app_plain useElem kSh_plain w.heap.size rfl (.tmp 16) (.tmp 25) rfl (v := .slice B7 M.length n7) (xs := M) (ys := [((p, (kd, ar), t), c)]) rfl ((HO7.out.alloc _).alloc _) rfl rfl HC.out (by exact h24) (by simp; omega) ?_; intro A9 c9 w9 happ; have HA9 := Lib.hid happ; clear happ))
      have HRG9 := Lib.hid (show w9.ranges Tryz.prog 79 (plainElem Tryz.prog 2) b1 w.heap.size m D _ cnt' from
        ((HRG1.out.alloc _).alloc _).kept HA9.out.grown (fun e => by have := (HO7.out.block_lt _ e.symm).1; have := HB1.out; omega) (fun e => by
          obtain ⟨cl, ho9, -⟩ := HO7.out
          exact row_ne_iter ho9 HRG1.out e))
      go_roundw
      case rel =>
        have hl1 : (M ++ [((p, (kd, ar), t), c)]).length = M.length + 1 := by rw [List.length_append]; rfl
        exact ⟨_, cnt', c9, A9, M ++ [((p, (kd, ar), t), c)], by rw [hl1], HRG9.out, by rw [hl1]; omega, HCOL.out, HA9.out.own, HA9.out.below ((HB7.out.alloc hz7 _).alloc (by simp; omega) _) (by simp; omega) (fun q hq => (HO7.out.block_lt q hq).1)⟩
      case measure =>
        have h1 := HRG9.out.left_eq
        have h2 := HRG1.out.left_eq
        have h3 := HLT.out
        show w9.rangeLeft _ _ < wq.rangeLeft _ _
        omega
end
end Go.Proofs.YtalkdddeiebfmaaGreatDoor
