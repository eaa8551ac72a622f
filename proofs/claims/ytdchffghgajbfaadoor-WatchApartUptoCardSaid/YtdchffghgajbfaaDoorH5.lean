/- The hub in plain words, second part: what was pushed, what Since tells. No program in sight. -/
import Derived.Test.YtdchffghgajbfaaDoorH0
namespace Go.Proofs.YtdchffghgajbfaaDoor
open Go.RowKit

def sumL (ls : List (List Ev)) : Nat := (ls.map List.length).sum
theorem sumL_cons (l : List Ev) (ls : List (List Ev)) : sumL (l :: ls) = l.length + sumL ls := by simp [sumL]
theorem sumL_append (ls ms : List (List Ev)) : sumL (ls ++ ms) = sumL ls + sumL ms := by simp [sumL]
theorem sumL_drop_le (ls : List (List Ev)) : ∀ (i j : Nat), i ≤ j → sumL (ls.drop j) ≤ sumL (ls.drop i) := by
  intro i j h
  have : ls.drop i = (ls.drop i).take (j - i) ++ ls.drop j := by
    have := List.take_append_drop (j - i) (ls.drop i)
    rw [List.drop_drop, show i + (j - i) = j by omega] at this
    exact this.symm
  rw [this, sumL_append]; omega

/-- the hub behind these pushes, the first d of them forgotten -/
def hubOf (first : Int) (ps : List (List Ev)) (d : Nat) : HubS := ⟨first + d, first + ps.length, ps.drop d, (sumL (ps.drop d) : Nat)⟩
structure HistOk (first : Int) (ps : List (List Ev)) (d : Nat) : Prop where
  f0 : 0 ≤ first
  hi : first + ps.length ≤ 1152921504606846976
  dle : d ≤ ps.length
  ne : ∀ l ∈ ps, l ≠ []
  ver : ∀ i (h : i < ps.length), ∀ e ∈ ps[i], e.ver = first + 1 + i
  fit : sumL (ps.drop d) ≤ 128
  tight : ∀ i, i < d → 128 < sumL (ps.drop i)
theorem HistOk.hub {first : Int} {ps : List (List Ev)} {d : Nat} (h : HistOk first ps d) : HubOk (hubOf first ps d) := by
  have := h.f0; have := h.hi; have := h.dle
  refine ⟨by simp [hubOf]; omega, by simpa [hubOf] using h.hi, by simp [hubOf]; omega, by simp [hubOf, sumL], by have := h.fit; simp [hubOf]; omega, fun l hl => h.ne l (List.mem_of_mem_drop hl), fun i hi e he => ?_⟩
  simp only [hubOf, List.length_drop] at hi
  simp only [hubOf, List.getElem_drop] at he
  have := h.ver (d + i) (by omega) e he
  simp only [hubOf]; omega
theorem hubNew_hist (v : Int) (hv : v ≤ 1152921504606846976) : hubNew v = hubOf (max v 0) [] 0 ∧ HistOk (max v 0) [] 0 := by
  refine ⟨?_, by omega, by simp; omega, by simp, by simp, by simp, by simp [sumL], by simp⟩
  unfold hubNew hubOf
  simp only [List.length_nil, List.drop_nil, sumL, List.map_nil, List.sum_nil]
  have : min (max v 0) 1152921504606846976 = max v 0 := by omega
  rw [this]; simp
theorem trimQ_spec : ∀ (vs : List (List Ev)) (low : Int), ∃ j, j ≤ vs.length ∧ trimQ low vs (sumL vs : Nat) = (low + j, vs.drop j, ((sumL (vs.drop j) : Nat) : Int)) ∧ sumL (vs.drop j) ≤ 128 ∧ ∀ i, i < j → 128 < sumL (vs.drop i)
  | [], low => ⟨0, Nat.le_refl _, by simp [trimQ, sumL], by simp [sumL], by simp⟩
  | v :: vs, low => by
    unfold trimQ
    by_cases hc : ((sumL (v :: vs) : Nat) : Int) > 128
    · rw [if_pos hc]
      obtain ⟨j, h1, h2, h3, h4⟩ := trimQ_spec vs (low + 1)
      have e : ((sumL (v :: vs) : Nat) : Int) - v.length = (sumL vs : Nat) := by rw [sumL_cons]; omega
      rw [e, h2]
      refine ⟨j + 1, by simp; omega, by simp; omega, by simpa using h3, fun i hi => ?_⟩
      cases i with
      | zero => simp only [List.drop_zero]; omega
      | succ i => simpa using h4 i (by omega)
    · rw [if_neg hc]
      exact ⟨0, Nat.zero_le _, by simp, by simp only [List.drop_zero]; omega, by simp⟩
theorem hubPush_hist {first : Int} {ps : List (List Ev)} {d : Nat} (h : HistOk first ps d) {l : List Ev} (hp : pushOk (first + ps.length) l = true) (hl : l.length ≤ 128) :
    ∃ d', HistOk first (ps ++ [l]) d' ∧ hubPush (hubOf first ps d) l = (hubOf first (ps ++ [l]) d', 0) := by
  obtain ⟨h1, h2, h3⟩ := pushOk_of hp
  obtain ⟨j, j1, j2, j3, j4⟩ := trimQ_spec (ps.drop d ++ [l]) (first + d)
  have hd : (ps ++ [l]).drop d = ps.drop d ++ [l] := List.drop_append_of_le_length h.dle
  have hsum : ((sumL (ps.drop d) : Nat) : Int) + l.length = (sumL (ps.drop d ++ [l]) : Nat) := by rw [sumL_append]; simp [sumL]
  have hhi := h.hi
  have hdl := h.dle
  refine ⟨d + j, ⟨h.f0, by simp; omega, by simp at j1 ⊢; omega, ?_, ?_, ?_, ?_⟩, ?_⟩
  · intro x hx
    rcases List.mem_append.1 hx with hx | hx
    · exact h.ne x hx
    · rw [List.mem_singleton.1 hx]; exact h2
  · intro i hi e he
    by_cases hlt : i < ps.length
    · rw [List.getElem_append_left hlt] at he; exact h.ver i hlt e he
    · have : i = ps.length := by simp at hi; omega
      subst this
      simp at he
      have := (h3 e he).2
      omega
  · rw [← List.drop_drop, hd]; exact j3
  · intro i hi
    by_cases hid : i < d
    · have := h.tight i hid
      rw [List.drop_append_of_le_length (by omega), sumL_append]; omega
    · obtain ⟨k, rfl⟩ : ∃ k, i = d + k := ⟨i - d, by omega⟩
      rw [← List.drop_drop, hd]; exact j4 k (by omega)
  · unfold hubPush
    rw [if_neg (by simpa [hubOf] using hp), if_neg (by omega)]
    unfold hubPushed hubOf
    simp only [hsum, j2]
    have a1 : first + (d : Int) + j = first + ((d + j : Nat) : Int) := by omega
    have a2 : first + (ps.length : Int) + 1 = first + ((ps ++ [l]).length : Int) := by simp; omega
    rw [← List.drop_drop, hd, a1, a2]

abbrev inP (path : ByteArray) (l : List Ev) : List Ev := l.filter fun x => underB x.path path
/-- all that was told so far has one version, or is no longer than asked for -/
def FitsMost (told : List Ev) (most : Int) : Prop := (told.length : Int) ≤ most ∨ ∃ v, ∀ e ∈ told, e.ver = v
structure SinceOk (ls : List (List Ev)) (v0 : Int) (path : ByteArray) (most : Int) (told : List Ev) (k : Nat) : Prop where
  kle : k ≤ ls.length
  eq : told = (ls.take k).flatMap (inP path)
  fits : FitsMost told most
/-- told from the first version behind v0 on: what the loop comes to -/
theorem sinceL_spec {ls : List (List Ev)} {v0 high : Int} {path : ByteArray} {most : Int} (hv : ∀ i (h : i < ls.length), ∀ e ∈ ls[i], e.ver = v0 + 1 + i) (hh : high = v0 + ls.length) :
    ∀ (n k : Nat) (told : List Ev), ls.length - k = n → SinceOk ls v0 path most told k →
      ∃ told' k', SinceOk ls v0 path most told' k' ∧ k ≤ k' ∧
        ((k' = ls.length ∧ sinceL high most path told (ls.drop k) = (told', high, 0)) ∨ (told' ≠ [] ∧ k' < ls.length ∧ ∃ v', sinceL high most path told (ls.drop k) = (told', v', 0) ∧ (∃ h : told' ≠ [], (told'.getLast h).ver = v'))) := by
  intro n
  induction n with
  | zero =>
    intro k told hk ho
    have : ls.drop k = [] := List.drop_eq_nil_of_le (by omega)
    exact ⟨told, k, ho, Nat.le_refl _, .inl ⟨by have := ho.kle; omega, by rw [this]; rfl⟩⟩
  | succ n ih =>
    intro k told hk ho
    have hlt : k < ls.length := by omega
    have hd : ls.drop k = ls[k] :: ls.drop (k + 1) := List.drop_eq_getElem_cons hlt
    by_cases hs : told.length > 0 ∧ (inP path ls[k]).length > 0 ∧ ((told.length + (inP path ls[k]).length : Nat) : Int) > most
    · have hne : told ≠ [] := List.length_pos_iff.1 hs.1
      refine ⟨told, k, ho, Nat.le_refl _, .inr ⟨hne, hlt, (told.getLast hne).ver, ?_, hne, rfl⟩⟩
      rw [hd, sinceL, if_pos hs, List.getLast?_eq_some_getLast hne]; rfl
    · have e : sinceL high most path told (ls.drop k) = sinceL high most path (told ++ inP path ls[k]) (ls.drop (k + 1)) := by rw [hd, sinceL, if_neg hs]
      have ho2 : SinceOk ls v0 path most (told ++ inP path ls[k]) (k + 1) := by
        refine ⟨hlt, by rw [List.take_succ_eq_append_getElem hlt, List.flatMap_append, ← ho.eq]; simp, ?_⟩
        by_cases h1 : told.length > 0
        · by_cases h2 : (inP path ls[k]).length > 0
          · left; have := fun h3 => hs ⟨h1, h2, h3⟩
            rw [List.length_append]; omega
          · have : inP path ls[k] = [] := List.eq_nil_of_length_eq_zero (by omega)
            rw [this, List.append_nil]; exact ho.fits
        · have : told = [] := List.eq_nil_of_length_eq_zero (by omega)
          subst this
          right
          exact ⟨v0 + 1 + k, fun e he => hv k hlt e (by simp [inP] at he; exact he.1)⟩
      obtain ⟨t', k', h1, h2, h3⟩ := ih (k + 1) _ (by omega) ho2
      rw [e]
      exact ⟨t', k', h1, by omega, h3⟩
/-- what Since tells of a hub that is known by its history -/
structure Told (first : Int) (ps : List (List Ev)) (v : Nat) (path : ByteArray) (most : Int) (l : List Ev) (k : Nat) : Prop where
  le : v ≤ k
  kle : k ≤ ps.length
  eq : l = ((ps.drop v).take (k - v)).flatMap (inP path)
  fits : FitsMost l most
  last : k = ps.length ∨ ∃ h : l ≠ [], (l.getLast h).ver = first + k
theorem hubSince_told {first : Int} {ps : List (List Ev)} {d : Nat} (h : HistOk first ps d) (v : Nat) (hv1 : d ≤ v) (hv2 : v ≤ ps.length) (path : ByteArray) (hp : isPath path = true) (most : Int) (hm : 1 ≤ most ∧ most ≤ 100) :
    ∃ (l : List Ev) (k : Nat), hubSince (hubOf first ps d) (first + v) path most = (l, first + (k : Int), 0) ∧ Told first ps v path most l k := by
  have e : hubSince (hubOf first ps d) (first + v) path most = sinceL (first + ps.length) most path [] (ps.drop v) := by
    unfold hubSince
    rw [if_neg (by omega), if_neg (by rw [hp]; simp), if_neg (by simp [hubOf]; omega), if_neg (by simp [hubOf]; omega)]
    simp only [hubOf]
    rw [List.drop_drop, show d + (first + v - (first + d)).toNat = v by omega]
  have hver : ∀ i (hi : i < (ps.drop v).length), ∀ e ∈ (ps.drop v)[i], e.ver = (first + v) + 1 + i := fun i hi e he => by
    rw [List.getElem_drop] at he
    rw [List.length_drop] at hi
    have := h.ver (v + i) (by omega) e he
    omega
  obtain ⟨t, k, ho, _, h3⟩ := sinceL_spec (most := most) (path := path) hver (high := first + ps.length) (by simp; omega) _ 0 [] rfl ⟨Nat.zero_le _, rfl, .inl (by simp; omega)⟩
  rw [List.drop_zero] at h3
  have hkl := ho.kle
  rw [List.length_drop] at hkl
  rcases h3 with ⟨h4, h5⟩ | ⟨hne, h4, v', h5, hne', h6⟩
  · rw [List.length_drop] at h4
    refine ⟨t, ps.length, by rw [e, h5], hv2, Nat.le_refl _, ?_, ho.fits, .inl rfl⟩
    rw [ho.eq, h4]
  · rw [List.length_drop] at h4
    -- the last one told: of the version v + its place
    have hlast : ∃ k2 : Nat, v < k2 ∧ k2 ≤ v + k ∧ v' = first + (k2 : Int) ∧ t = ((ps.drop v).take (k2 - v)).flatMap (inP path) := by
      have hmem : t.getLast hne ∈ ((ps.drop v).take k).flatMap (inP path) := by rw [← ho.eq]; exact List.getLast_mem hne
      clear h5
      -- strip the empty ones behind
      have key : ∀ n, n ≤ k → t = ((ps.drop v).take n).flatMap (inP path) → ∃ k2, 0 < k2 ∧ k2 ≤ n ∧ v' = first + (v + k2 : Nat) ∧ t = ((ps.drop v).take k2).flatMap (inP path) := by
        intro n
        induction n with
        | zero => intro _ ht; exact absurd (by rw [ht]; simp) hne
        | succ n ihn =>
          intro hn ht
          have hlt : n < (ps.drop v).length := by rw [List.length_drop]; omega
          by_cases hem : inP path (ps.drop v)[n] = []
          · have ht' : t = ((ps.drop v).take n).flatMap (inP path) := by
              rw [ht, List.take_succ_eq_append_getElem hlt, List.flatMap_append, List.flatMap_singleton, hem, List.append_nil]
            obtain ⟨k2, a, b, c⟩ := ihn (by omega) ht'
            exact ⟨k2, a, by omega, c⟩
          · refine ⟨n + 1, by omega, Nat.le_refl _, ?_, ht⟩
            have hl2 : t.getLast hne ∈ inP path (ps.drop v)[n] := by
              have ht2 : t = ((ps.drop v).take n).flatMap (inP path) ++ inP path (ps.drop v)[n] := by
                rw [ht, List.take_succ_eq_append_getElem hlt, List.flatMap_append, List.flatMap_singleton]
              have : t.getLast hne = (inP path (ps.drop v)[n]).getLast hem := by
                have hg : t.getLast? = (inP path (ps.drop v)[n]).getLast? := by rw [ht2, List.getLast?_append, List.getLast?_eq_some_getLast hem]; rfl
                rw [List.getLast?_eq_some_getLast hne, List.getLast?_eq_some_getLast hem] at hg
                exact Option.some.inj hg
              rw [this]; exact List.getLast_mem hem
            have := hver n hlt _ (List.mem_filter.1 hl2).1
            rw [← h6, this]; omega
      obtain ⟨k2, a, b, c, f⟩ := key k (Nat.le_refl _) ho.eq
      exact ⟨v + k2, by omega, by omega, c, by rw [show v + k2 - v = k2 by omega]; exact f⟩
    obtain ⟨k2, q1, q2, q3, q4⟩ := hlast
    refine ⟨t, k2, by rw [e, h5, q3], by omega, by omega, q4, ho.fits, .inr ⟨hne, by rw [h6, q3]⟩⟩
end Go.Proofs.YtdchffghgajbfaaDoor
