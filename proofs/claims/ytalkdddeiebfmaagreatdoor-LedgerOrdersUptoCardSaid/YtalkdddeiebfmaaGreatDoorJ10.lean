/- The ledger as a machine on functions, in plain words. No program in sight. -/
import Derived.Test.YtalkdddeiebfmaaGreatDoorJ9
namespace Go.Proofs.YtalkdddeiebfmaaGreatDoor

theorem judgeL_zero {J : Sh → Int} : ∀ {T : List Sh}, judgeL J T = 0 ↔ ∀ s ∈ T, J s = 0
  | [] => by simp [judgeL]
  | s :: T => by
    unfold judgeL
    have ih := judgeL_zero (J := J) (T := T)
    by_cases h : J s = 0
    · rw [if_pos h, ih]; simp [h]
    · rw [if_neg h]; simp [h]
theorem judgeL_if {c : Sh → Prop} [DecidablePred c] {z : Int} (hz : z ≠ 0) : ∀ (T : List Sh), judgeL (fun s => if c s then z else 0) T = if T.any (fun s => decide (c s)) = true then z else 0
  | [] => by simp [judgeL]
  | s :: T => by
    unfold judgeL
    rw [judgeL_if hz T]
    by_cases h : c s
    · simp [h, hz]
    · rw [if_neg h, if_pos rfl, List.any_cons, decide_eq_false h, Bool.false_or]
def judgeA (S : Pl → Int) (T : List Sh) : Int := judgeL (fun s => if S s.1 > 9223372036854775807 - s.2 then 7 else 0) T
def judgeU (S : Pl → Int) (T : List Sh) : Int := judgeL (fun s => if S s.1 < s.2 then 170 else 0) T
abbrev LRes := Int × (Pl → Int) × (ByteArray → Int)
def chargeV (S : Pl → Int) (C : ByteArray → Int) (o : ObjV) : LRes :=
  if (sharesV o).2.2 ≠ 0 then ((sharesV o).2.2, S, C) else if judgeA S (sharesV o).2.1 ≠ 0 then (judgeA S (sharesV o).2.1, S, C) else (0, addS 1 S (sharesV o).2.1, addC 1 C (sharesV o).1)
def goneV (S : Pl → Int) (C : ByteArray → Int) (o : ObjV) : List ByteArray × List Sh × Int :=
  if (sharesV o).2.2 ≠ 0 then ([], [], (sharesV o).2.2) else if judgeU S (sharesV o).2.1 ≠ 0 then ([], [], judgeU S (sharesV o).2.1) else if (sharesV o).1.any (fun p => C p == 0) = true then ([], [], 170) else ((sharesV o).1, (sharesV o).2.1, 0)
def releaseV (S : Pl → Int) (C : ByteArray → Int) (o : ObjV) : LRes :=
  if (goneV S C o).2.2 = 0 then (0, addS (-1) S (goneV S C o).2.1, addC (-1) C (goneV S C o).1) else ((goneV S C o).2.2, S, C)
def changeV (S : Pl → Int) (C : ByteArray → Int) (o p : ObjV) : LRes :=
  if (goneV S C o).2.2 ≠ 0 then ((goneV S C o).2.2, S, C)
  else if (chargeV (releaseV S C o).2.1 (releaseV S C o).2.2 p).1 ≠ 0 then ((chargeV (releaseV S C o).2.1 (releaseV S C o).2.2 p).1, S, C)
  else chargeV (releaseV S C o).2.1 (releaseV S C o).2.2 p
/-- what a ledger's functions are, always; m: how many objects came at most -/
structure LedOk (m : Nat) (S : Pl → Int) (C : ByteArray → Int) : Prop where
  lo : ∀ x, 0 ≤ S x
  hi : ∀ x, S x ≤ 9223372036854775807
  clo : ∀ p, 0 ≤ C p
  chi : ∀ p, C p ≤ m
  pl : ∀ x, S x ≠ 0 → PlOk x ∧ isPath x.1 = true ∧ validS ⟨x.2.1.1, x.2.1.2⟩ = true
  sup : ∃ L : List Pl, L.length ≤ m ∧ ∀ x, S x ≠ 0 → x ∈ L
  csup : ∃ L : List ByteArray, L.length ≤ m ∧ ∀ p, C p ≠ 0 → p ∈ L
theorem ledOk_zero : LedOk 0 (fun _ => 0) (fun _ => 0) := ⟨fun _ => by omega, fun _ => by omega, fun _ => by omega, fun _ => by omega, fun _ h => absurd rfl h, ⟨[], Nat.le_refl _, fun _ h => absurd rfl h⟩, ⟨[], Nat.le_refl _, fun _ h => absurd rfl h⟩⟩
theorem LedOk.mono {m n : Nat} {S : Pl → Int} {C : ByteArray → Int} (h : LedOk m S C) (hn : m ≤ n) : LedOk n S C := ⟨h.lo, h.hi, h.clo, fun p => by have := h.chi p; omega, h.pl, let ⟨L, h1, h2⟩ := h.sup; ⟨L, by omega, h2⟩, let ⟨L, h1, h2⟩ := h.csup; ⟨L, by omega, h2⟩⟩
theorem svL_out {T : List Sh} {x : Pl} (h : x ∉ T.map Prod.fst) : svL T x = 0 := by
  unfold svL
  induction T with
  | nil => simp
  | cons s T ih =>
    rw [List.map_cons, List.mem_cons, not_or] at h
    rw [List.map_cons, List.sum_cons, ih h.2, if_neg (fun e => h.1 e.symm)]
    rfl
theorem svL_in : ∀ {T : List Sh}, (T.map Prod.fst).Nodup → ∀ s ∈ T, svL T s.1 = s.2
  | [], _, s, h => by cases h
  | t :: T, hn, s, h => by
    rw [List.map_cons, List.nodup_cons] at hn
    unfold svL
    rw [List.map_cons, List.sum_cons]
    rcases List.mem_cons.1 h with rfl | h
    · rw [if_pos rfl]
      have := svL_out hn.1
      unfold svL at this
      omega
    · have hne : t.1 ≠ s.1 := fun e => hn.1 (by rw [e]; exact List.mem_map_of_mem h)
      rw [if_neg hne]
      have := svL_in hn.2 s h
      unfold svL at this
      omega
theorem svL_nonneg {T : List Sh} (h : ∀ s ∈ T, 0 ≤ s.2) (x : Pl) : 0 ≤ svL T x := by
  unfold svL
  induction T with
  | nil => simp
  | cons s T ih =>
    rw [List.map_cons, List.sum_cons]
    have h1 := ih fun t ht => h t (by simp [ht])
    have h2 := h s (by simp)
    split <;> omega
theorem cvL_le : ∀ (l : List ByteArray) (p : ByteArray), l.Nodup → 0 ≤ cvL l p ∧ cvL l p ≤ 1
  | [], p, _ => by simp [cvL]
  | q :: l, p, h => by
    rw [List.nodup_cons] at h
    have h1 := cvL_le l p h.2
    unfold cvL at h1 ⊢
    rw [List.map_cons, List.sum_cons]
    by_cases e : q = p
    · subst e
      have h2 : cvL l q = 0 := by
        have : ∀ (l : List ByteArray), q ∉ l → cvL l q = 0 := by
          intro l
          induction l with
          | nil => intro _; simp [cvL]
          | cons r l ih =>
            intro hh
            rw [List.mem_cons, not_or] at hh
            have := ih hh.2
            unfold cvL at this ⊢
            rw [List.map_cons, List.sum_cons, if_neg (fun e => hh.1 e.symm), this]
            rfl
        exact this l h.1
      unfold cvL at h2
      rw [if_pos rfl, h2]; omega
    · rw [if_neg e]; omega
theorem cvL_in {l : List ByteArray} {p : ByteArray} (h : p ∈ l) : 1 ≤ cvL l p := by
  induction l with
  | nil => cases h
  | cons q l ih =>
    unfold cvL at ih ⊢
    rw [List.map_cons, List.sum_cons]
    have hpos : 0 ≤ (l.map fun q => if q = p then (1 : Int) else 0).sum := by
      clear ih h
      induction l with
      | nil => simp
      | cons r l ih => rw [List.map_cons, List.sum_cons]; split <;> omega
    by_cases e : q = p
    · rw [if_pos e]; omega
    · rw [if_neg e]
      have := ih ((List.mem_cons.1 h).resolve_left (fun e2 => e e2.symm))
      omega
theorem cvL_out {l : List ByteArray} {p : ByteArray} (h : p ∉ l) : cvL l p = 0 := by
  induction l with
  | nil => simp [cvL]
  | cons r l ih =>
    rw [List.mem_cons, not_or] at h
    have := ih h.2
    unfold cvL at this ⊢
    rw [List.map_cons, List.sum_cons, if_neg (fun e => h.1 e.symm), this]
    rfl
theorem addS_back (T : List Sh) (S : Pl → Int) : addS 1 (addS (-1) S T) T = S := by
  funext x
  rw [addS_svL, addS_svL]; omega
theorem addC_back (l : List ByteArray) (C : ByteArray → Int) : addC 1 (addC (-1) C l) l = C := by
  funext x
  rw [addC_cvL, addC_cvL]; omega
theorem judgeA_zero {S : Pl → Int} {T : List Sh} (h : judgeA S T = 0) : ∀ s ∈ T, S s.1 + s.2 ≤ 9223372036854775807 := fun s hs => by
  have := judgeL_zero.1 h s hs
  split at this <;> omega
theorem judgeU_zero {S : Pl → Int} {T : List Sh} (h : judgeU S T = 0) : ∀ s ∈ T, s.2 ≤ S s.1 := fun s hs => by
  have := judgeL_zero.1 h s hs
  split at this <;> omega
theorem LedOk.charge {m : Nat} {S : Pl → Int} {C : ByteArray → Int} (k : LedOk m S C) {l : List ByteArray} {T : List Sh} {o : ObjV} (h : SharesOk o l T) (hj : judgeA S T = 0) : LedOk (m + 1 + T.length + l.length) (addS 1 S T) (addC 1 C l) := by
  have hv := fun x => svL_nonneg (T := T) (fun s hs => (h.sh s hs).1.pos) x
  refine ⟨fun x => ?_, fun x => ?_, fun p => ?_, fun p => ?_, fun x hx => ?_, ?_, ?_⟩
  · rw [addS_svL]; have := k.lo x; have := hv x; omega
  · rw [addS_svL]
    by_cases hm : x ∈ T.map Prod.fst
    · obtain ⟨s, hs, rfl⟩ := List.mem_map.1 hm
      rw [svL_in h.nod s hs]
      have := judgeA_zero hj s hs
      omega
    · rw [svL_out hm]; have := k.hi x; omega
  · rw [addC_cvL]; have := k.clo p; have := cvL_le l p h.lnod; omega
  · rw [addC_cvL]; have := k.chi p; have := cvL_le l p h.lnod; omega
  · rw [addS_svL] at hx
    by_cases hm : x ∈ T.map Prod.fst
    · obtain ⟨s, hs, rfl⟩ := List.mem_map.1 hm
      obtain ⟨h1, h2, h3⟩ := h.sh s hs
      exact ⟨h1.pl, h2, h3⟩
    · rw [svL_out hm] at hx; exact k.pl x (by omega)
  · obtain ⟨L, h1, h2⟩ := k.sup
    refine ⟨L ++ T.map Prod.fst, by rw [List.length_append, List.length_map]; omega, fun x hx => ?_⟩
    rw [List.mem_append]
    by_cases hm : x ∈ T.map Prod.fst
    · exact .inr hm
    · rw [addS_svL, svL_out hm] at hx; exact .inl (h2 x (by omega))
  · obtain ⟨L, h1, h2⟩ := k.csup
    refine ⟨L ++ l, by rw [List.length_append]; omega, fun p hp => ?_⟩
    rw [List.mem_append]
    by_cases hm : p ∈ l
    · exact .inr hm
    · rw [addC_cvL, cvL_out hm] at hp; exact .inl (h2 p (by omega))
theorem LedOk.release {m : Nat} {S : Pl → Int} {C : ByteArray → Int} (k : LedOk m S C) {l : List ByteArray} {T : List Sh} {o : ObjV} (h : SharesOk o l T) (hj : judgeU S T = 0) (hc : l.any (fun p => C p == 0) = false) : LedOk m (addS (-1) S T) (addC (-1) C l) := by
  have hv := fun x => svL_nonneg (T := T) (fun s hs => (h.sh s hs).1.pos) x
  refine ⟨fun x => ?_, fun x => ?_, fun p => ?_, fun p => ?_, fun x hx => ?_, ?_, ?_⟩
  · rw [addS_svL]
    by_cases hm : x ∈ T.map Prod.fst
    · obtain ⟨s, hs, rfl⟩ := List.mem_map.1 hm
      rw [svL_in h.nod s hs]
      have := judgeU_zero hj s hs
      omega
    · rw [svL_out hm]; have := k.lo x; omega
  · rw [addS_svL]; have := k.hi x; have := hv x; omega
  · rw [addC_cvL]
    by_cases hm : p ∈ l
    · have h1 := List.any_eq_false.1 hc p hm
      have h2 := cvL_le l p h.lnod
      have h3 := k.clo p
      have : C p ≠ 0 := by simpa using h1
      omega
    · rw [cvL_out hm]; have := k.clo p; omega
  · rw [addC_cvL]; have := k.chi p; have := cvL_le l p h.lnod; omega
  · rw [addS_svL] at hx
    by_cases hm : x ∈ T.map Prod.fst
    · obtain ⟨s, hs, rfl⟩ := List.mem_map.1 hm
      obtain ⟨h1, h2, h3⟩ := h.sh s hs
      exact ⟨h1.pl, h2, h3⟩
    · rw [svL_out hm] at hx; exact k.pl x (by omega)
  · obtain ⟨L, h1, h2⟩ := k.sup
    refine ⟨L, h1, fun x hx => ?_⟩
    by_cases hm : x ∈ T.map Prod.fst
    · obtain ⟨s, hs, rfl⟩ := List.mem_map.1 hm
      refine h2 _ fun h0 => hx ?_
      rw [addS_svL, svL_in h.nod s hs]
      have := judgeU_zero hj s hs
      have := (h.sh s hs).1.pos
      omega
    · rw [addS_svL, svL_out hm] at hx; exact h2 x (by omega)
  · obtain ⟨L, h1, h2⟩ := k.csup
    refine ⟨L, h1, fun p hp => ?_⟩
    by_cases hm : p ∈ l
    · have h3 := List.any_eq_false.1 hc p hm
      exact h2 p (by simpa using h3)
    · rw [addC_cvL, cvL_out hm] at hp; exact h2 p (by omega)
end Go.Proofs.YtalkdddeiebfmaaGreatDoor
