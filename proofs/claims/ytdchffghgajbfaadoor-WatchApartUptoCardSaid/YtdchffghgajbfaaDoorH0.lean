/- The hub in plain words: what New, Push and Since do. No program in sight. -/
import Derived.Test.YtdchffghgajbfaaDoorE
namespace Go.Proofs.YtdchffghgajbfaaDoor
open Go.RowKit

structure HubS where
  low : Int
  high : Int
  vs : List (List Ev)
  count : Int

def hubNew (v : Int) : HubS := ⟨min (max v 0) 1152921504606846976, min (max v 0) 1152921504606846976, [], 0⟩
def rightE (e : Ev) : Bool := decide (0 ≤ e.kind) && decide (e.kind ≤ 4) && isPath e.path && (if e.kind = 0 then decide (e.name.data.toList = []) else nameL e.name.data.toList)
/-- as long as there are too many the first version's go -/
def trimQ : Int → List (List Ev) → Int → Int × List (List Ev) × Int
  | low, [], c => (low, [], c)
  | low, v :: vs, c => if c > 128 then trimQ (low + 1) vs (c - v.length) else (low, v :: vs, c)
def pushOk (high : Int) (l : List Ev) : Bool := !(decide (high = 1152921504606846976)) && !l.isEmpty && l.all (fun e => rightE e && decide (e.ver = high + 1))
def hubPushed (h : HubS) (l : List Ev) : HubS :=
  ⟨(trimQ h.low (h.vs ++ [l]) (h.count + l.length)).1, h.high + 1, (trimQ h.low (h.vs ++ [l]) (h.count + l.length)).2.1, (trimQ h.low (h.vs ++ [l]) (h.count + l.length)).2.2⟩
def hubPush (h : HubS) (l : List Ev) : HubS × Int :=
  if pushOk h.high l = false then (h, 1) else if l.length > 128 then (h, 23) else (hubPushed h l, 0)
def sinceL (high most : Int) (path : ByteArray) : List Ev → List (List Ev) → List Ev × Int × Int
  | told, [] => (told, high, 0)
  | told, l :: ls =>
    if told.length > 0 ∧ (l.filter (fun x => underB x.path path)).length > 0 ∧ ((told.length + (l.filter (fun x => underB x.path path)).length : Nat) : Int) > most then (told, (told.getLast?.map Ev.ver).getD 0, 0)
    else sinceL high most path (told ++ l.filter (fun x => underB x.path path)) ls
def hubSince (h : HubS) (v : Int) (path : ByteArray) (most : Int) : List Ev × Int × Int :=
  if most < 1 ∨ most > 100 then ([], 0, 1)
  else if isPath path = false then ([], 0, 41)
  else if v < h.low then ([], 0, 220)
  else if v > h.high then ([], 0, 221)
  else sinceL h.high most path [] (h.vs.drop (v - h.low).toNat)

/-- what holds of every hub that New made and Push turned -/
structure HubOk (h : HubS) : Prop where
  lo : 0 ≤ h.low
  hi : h.high ≤ 1152921504606846976
  len : h.high - h.low = h.vs.length
  cnt : h.count = ((h.vs.map List.length).sum : Nat)
  le : h.count ≤ 128
  ne : ∀ l ∈ h.vs, l ≠ []
  ver : ∀ i (hi : i < h.vs.length), ∀ e ∈ h.vs[i], e.ver = h.low + 1 + i

theorem hubNew_ok (v : Int) : HubOk (hubNew v) := by
  refine ⟨?_, ?_, ?_, rfl, by simp [hubNew], by simp [hubNew], by simp [hubNew]⟩
  all_goals simp [hubNew] <;> omega
theorem sum_ge {vs : List (List Ev)} (hne : ∀ l ∈ vs, l ≠ []) : vs.length ≤ (vs.map List.length).sum := by
  induction vs with
  | nil => simp
  | cons v vs ih =>
    have h1 := ih fun l hl => hne l (List.mem_cons_of_mem _ hl)
    have h2 : 1 ≤ v.length := List.length_pos_iff.2 (hne v (by simp))
    simp; omega
theorem HubOk.vlen {h : HubS} (k : HubOk h) : h.vs.length ≤ 128 := by
  have := sum_ge k.ne
  have h1 := k.cnt
  have h2 := k.le
  omega
theorem trimQ_ok : ∀ (vs : List (List Ev)) (low c high : Int), high - low = vs.length → c = ((vs.map List.length).sum : Nat) → (∀ l ∈ vs, l ≠ []) → (∀ i (hi : i < vs.length), ∀ e ∈ vs[i], e.ver = low + 1 + i) →
    low ≤ (trimQ low vs c).1 ∧ high - (trimQ low vs c).1 = (trimQ low vs c).2.1.length ∧ (trimQ low vs c).2.2 = (((trimQ low vs c).2.1.map List.length).sum : Nat) ∧ (trimQ low vs c).2.2 ≤ 128 ∧ (∀ l ∈ (trimQ low vs c).2.1, l ≠ []) ∧
      (∀ i (hi : i < (trimQ low vs c).2.1.length), ∀ e ∈ (trimQ low vs c).2.1[i], e.ver = (trimQ low vs c).1 + 1 + i)
  | [], low, c, high, h1, h2, _, _ => by
    simp only [trimQ]
    exact ⟨Int.le_refl _, h1, h2, by rw [h2]; simp, by simp, by simp⟩
  | v :: vs, low, c, high, h1, h2, h3, h4 => by
    unfold trimQ
    by_cases hc : c > 128
    · simp only [if_pos hc]
      have := trimQ_ok vs (low + 1) (c - v.length) high (by simp at h1; omega) (by simp at h2; omega) (fun l hl => h3 l (List.mem_cons_of_mem _ hl)) (fun i hi e he => by
        have := h4 (i + 1) (by simpa using hi) e (by simpa using he)
        omega)
      obtain ⟨a, b, r⟩ := this
      exact ⟨by omega, b, r⟩
    · simp only [if_neg hc]
      exact ⟨Int.le_refl _, h1, h2, by omega, h3, h4⟩
theorem pushOk_of {high : Int} {l : List Ev} (h : pushOk high l = true) : high ≠ 1152921504606846976 ∧ l ≠ [] ∧ ∀ e ∈ l, rightE e = true ∧ e.ver = high + 1 := by
  unfold pushOk at h
  simp only [Bool.and_eq_true, Bool.not_eq_true', decide_eq_false_iff_not, List.isEmpty_eq_false_iff, List.all_eq_true, decide_eq_true_eq] at h
  exact ⟨h.1.1, h.1.2, h.2⟩
theorem hubPush_ok {h : HubS} (k : HubOk h) (l : List Ev) : HubOk (hubPush h l).1 := by
  unfold hubPush
  split
  · exact k
  · rename_i hp
    split
    · exact k
    · have hp' := pushOk_of (by simpa using hp)
      obtain ⟨h1, h2, h3⟩ := hp'
      have := trimQ_ok (h.vs ++ [l]) h.low (h.count + l.length) (h.high + 1) (by have := k.len; simp; omega) (by have := k.cnt; simp; omega)
        (fun x hx => by
          rcases List.mem_append.1 hx with hx | hx
          · exact k.ne x hx
          · rw [List.mem_singleton.1 hx]; exact h2)
        (fun i hi e he => by
          by_cases hlt : i < h.vs.length
          · rw [List.getElem_append_left hlt] at he; exact k.ver i hlt e he
          · have : i = h.vs.length := by simp at hi; omega
            subst this
            simp at he
            have := (h3 e he).2
            have := k.len
            omega)
      obtain ⟨a, b, c, d, e, f⟩ := this
      have := k.lo
      have := k.hi
      exact ⟨by simp only [hubPushed]; omega, by simp only [hubPushed]; omega, b, c, d, e, f⟩
end Go.Proofs.YtdchffghgajbfaaDoor
