/- label.Parent; a sum is the sums right below and its own: plain. -/
import Derived.Test.YtalkdddeiebfmaaGreatDoorJ73
namespace Go.Proofs.YtalkdddeiebfmaaGreatDoor
open Go.RowKit

def rootB : ByteArray := ⟨#[47]⟩
/-- the path above -/
def parentB (p : ByteArray) : ByteArray := mkB (joinP ((nm p).take ((nm p).length - 1)))
/-- the j-th of a line, from the root -/
def linAt (ns : List (List UInt8)) (j : Nat) : ByteArray := mkB (joinP (ns.take j))
theorem linAt_zero (ns : List (List UInt8)) : linAt ns 0 = rootB := rfl
theorem mem_lineB {P q : ByteArray} (hP : isPath P = true) : q ∈ lineB P ↔ ∃ j, j ≤ (nm P).length ∧ q = linAt (nm P) j := by
  unfold lineB
  rw [if_pos hP]
  exact mem_lineTo _ _ _
theorem linAt_len {P : ByteArray} (hP : isPath P = true) : linAt (nm P) (nm P).length = P := by
  unfold linAt
  rw [List.take_length]
  exact ((pathOk hP).text ▸ data_mkB P)
theorem linAt_inj {P : ByteArray} (hP : isPath P = true) {i j : Nat} (hi : i ≤ (nm P).length) (hj : j ≤ (nm P).length) (h : linAt (nm P) i = linAt (nm P) j) : i = j := by
  have hn := (pathOk hP).names
  have e : joinP ((nm P).take i) = joinP ((nm P).take j) := by
    have := congrArg (fun b : ByteArray => b.data.toList) h
    unfold linAt at this
    simpa [mkB_data] using this
  rcases Nat.lt_trichotomy i j with h1 | h1 | h1
  · have := joinL_lt hn h1 hj; rw [e] at this; omega
  · exact h1
  · have := joinL_lt hn h1 hi; rw [e] at this; omega
theorem nm_linAt {P : ByteArray} (hP : isPath P = true) (j : Nat) : nm (linAt (nm P) j) = (nm P).take j := by
  have PO := pathOk hP
  have h64 : (joinP (nm P)).length ≤ 64 := by rw [← PO.text, data_len]; exact PO.short
  have h1 := PO.few
  have h2 := PO.names
  obtain ⟨ns, hns⟩ : ∃ ns, nm P = ns := ⟨_, rfl⟩
  rw [hns] at h64 h1 h2 ⊢
  unfold nm linAt
  rw [mkB_data, pathL_join (by rw [List.length_take]; omega) (joinP_le _ _ h64) (names_take _ h2)]
  rfl
theorem parent_linAt {P : ByteArray} (hP : isPath P = true) {i : Nat} (hi : i + 1 ≤ (nm P).length) : parentB (linAt (nm P) (i + 1)) = linAt (nm P) i := by
  unfold parentB
  rw [nm_linAt hP, List.length_take, Nat.min_eq_left hi, List.take_take, Nat.add_sub_cancel, Nat.min_eq_left (Nat.le_succ i)]
  rfl
theorem linAt_root {P : ByteArray} (hP : isPath P = true) {i : Nat} (hi : i ≤ (nm P).length) : linAt (nm P) i = rootB ↔ i = 0 := by
  refine ⟨fun h => linAt_inj hP hi (Nat.zero_le _) (h.trans (linAt_zero _).symm), fun h => by rw [h]; rfl⟩
theorem self_line {P : ByteArray} (hP : isPath P = true) : P ∈ lineB P := (mem_lineB hP).2 ⟨_, Nat.le_refl _, (linAt_len hP).symm⟩
/-- the one above stands in the line -/
theorem parent_mem {P q : ByteArray} (hP : isPath P = true) (hq : q ∈ lineB P) (hr : q ≠ rootB) : parentB q ∈ lineB P := by
  obtain ⟨j, hj, rfl⟩ := (mem_lineB hP).1 hq
  rcases j with _ | j
  · exact absurd (linAt_zero _) hr
  · rw [parent_linAt hP hj]
    exact (mem_lineB hP).2 ⟨j, by omega, rfl⟩
theorem parent_not_self {P q : ByteArray} (hP : isPath P = true) (hq : q ∈ lineB P) (hr : q ≠ rootB) : parentB q ≠ P := by
  obtain ⟨j, hj, rfl⟩ := (mem_lineB hP).1 hq
  rcases j with _ | j
  · exact absurd (linAt_zero _) hr
  · rw [parent_linAt hP hj]
    intro e
    have := linAt_inj hP (by omega) (Nat.le_refl _) (e.trans (linAt_len hP).symm)
    omega
theorem parent_inj {P q q' : ByteArray} (hP : isPath P = true) (hq : q ∈ lineB P) (hr : q ≠ rootB) (hq' : q' ∈ lineB P) (hr' : q' ≠ rootB) (h : parentB q = parentB q') : q = q' := by
  obtain ⟨i, hi, rfl⟩ := (mem_lineB hP).1 hq
  obtain ⟨j, hj, rfl⟩ := (mem_lineB hP).1 hq'
  rcases i with _ | i
  · exact absurd (linAt_zero _) hr
  rcases j with _ | j
  · exact absurd (linAt_zero _) hr'
  rw [parent_linAt hP hi, parent_linAt hP hj] at h
  rw [linAt_inj hP (by omega) (by omega) h]
theorem child_there {P p : ByteArray} (hP : isPath P = true) (hp : p ∈ lineB P) (hne : p ≠ P) : ∃ c ∈ lineB P, c ≠ rootB ∧ parentB c = p := by
  obtain ⟨j, hj, rfl⟩ := (mem_lineB hP).1 hp
  have hlt : j < (nm P).length := by
    rcases Nat.lt_or_eq_of_le hj with h | h
    · exact h
    · subst h; exact absurd (linAt_len hP) hne
  exact ⟨linAt (nm P) (j + 1), (mem_lineB hP).2 ⟨j + 1, hlt, rfl⟩, fun e => by have := (linAt_root hP hlt).1 e; omega, parent_linAt hP hlt⟩
/-- Parent in plain words -/
def parentV (p : ByteArray) : ByteArray × Int := if p = rootB then (⟨#[]⟩, 143) else (parentB p, 0)
set_option maxRecDepth 100000 in
theorem parent_any (p : ByteArray) (hp : isPath p = true) (w : World) (hm : Ml w) : Calls Tryz.prog 26 #[.string p] w fun e w' => e = .returned (.tuple #[.string (parentV p).1, .int .i64 (parentV p).2]) ∧ Below w.heap.size w w' := by
  have HPA := Lib.hid (path_any p w hm)
  rw [show errPath p = 0 from by unfold errPath; rw [if_pos hp]] at HPA
  by_cases h : p = rootB
  · have HV := Lib.hid (show parentV p = (⟨#[]⟩, 143) from by unfold parentV; rw [if_pos h])
    have e1 : (p.toList == [47]) = true := by rw [show ([47] : List UInt8) = (⟨#[47]⟩ : ByteArray).toList from by rw [toList_eq], bytes_beq]; simpa [rootB] using h
    clear h hp hm
    go_enter Tryz.func26, Tryz.ntmps26
    go_wp2_with (go_at_call 56; refine HPA.out.mono ?_; rintro e w1 ⟨rfl, hb1⟩; have HB1 := Lib.hid hb1; clear hb1)
    go_ret2
    rw [HV.out]
    exact ⟨rfl, HB1.out⟩
  · have HV := Lib.hid (show parentV p = (parentB p, 0) from by unfold parentV; rw [if_neg h])
    have e1 : (p.toList == [47]) = false := by rw [show ([47] : List UInt8) = (⟨#[47]⟩ : ByteArray).toList from by rw [toList_eq], bytes_beq]; simpa [rootB] using h
    have PO := pathOk hp
    have h64 : (joinP (nm p)).length ≤ 64 := by rw [← PO.text, data_len]; exact PO.short
    have hne : (nm p).length ≠ 0 := fun e => h (by have := linAt_len hp; rw [e, linAt_zero] at this; exact this.symm)
    have HAB := Lib.hid (fun W => above_any (ns := nm p) (k := (nm p).length - 1) (by omega) PO.names h64 W)
    rw [show (nm p).length - 1 + 1 = (nm p).length from by omega] at HAB
    rw [show mkB (joinP ((nm p).take (nm p).length)) = p from linAt_len hp] at HAB
    clear h hp hm PO h64 hne
    go_enter Tryz.func26, Tryz.ntmps26
    go_wp2_with (first
      | (go_at_call 56; refine HPA.out.mono ?_; rintro e w1 ⟨rfl, hb1⟩; have HB1 := Lib.hid hb1; clear hb1 HPA)
      | (go_at_call 57; refine (HAB.out _).mono ?_; rintro e w2 ⟨rfl, rfl⟩))
    go_ret2
    rw [HV.out]
    exact ⟨rfl, HB1.out⟩

/-! ### the law -/
theorem sum_swap {α β : Type} (f : α → β → Int) : ∀ (l : List α) (m : List β), (l.map fun a => (m.map fun b => f a b).sum).sum = (m.map fun b => (l.map fun a => f a b).sum).sum
  | [], m => by
    have : (m.map fun b => (([] : List α).map fun a => f a b).sum) = m.map fun _ => (0 : Int) := rfl
    rw [this]
    induction m with
    | nil => rfl
    | cons b m ih => rw [List.map_cons, List.sum_cons, ← ih rfl]; rfl
  | a :: l, m => by
    rw [List.map_cons, List.sum_cons, sum_swap f l m]
    induction m with
    | nil => rfl
    | cons b m ih => simp only [List.map_cons, List.sum_cons] at ih ⊢; omega
theorem sum_zero {α : Type} {f : α → Int} {l : List α} (h : ∀ a ∈ l, f a = 0) : (l.map f).sum = 0 := by
  induction l with
  | nil => rfl
  | cons a l ih => rw [List.map_cons, List.sum_cons, h a (by simp), ih fun b hb => h b (List.mem_cons_of_mem _ hb)]; rfl
theorem sum_one {α : Type} [DecidableEq α] {f : α → Int} {x : α} : ∀ {l : List α}, l.Nodup → x ∈ l → (∀ a ∈ l, a ≠ x → f a = 0) → (l.map f).sum = f x
  | [], _, h, _ => by cases h
  | a :: l, hn, h, hz => by
    rw [List.nodup_cons] at hn
    rw [List.map_cons, List.sum_cons]
    by_cases e : a = x
    · subst e
      rw [sum_zero fun b hb => hz b (List.mem_cons_of_mem _ hb) fun e => hn.1 (e ▸ hb)]; omega
    · rw [hz a (by simp) e, sum_one hn.2 ((List.mem_cons.1 h).resolve_left fun e2 => e e2.symm) fun b hb => hz b (List.mem_cons_of_mem _ hb)]; omega
/-- a row right below -/
def childOf (p : ByteArray) (s : ScV) (r : ByteArray) (z : Sh) : Bool := decide ((parentV z.1.1).2 = 0) && decide ((parentV z.1.1).1 = p) && eqSc ⟨z.1.2.1.1, z.1.2.1.2⟩ s && decide (z.1.2.2 = r)
theorem childOf_iff {p : ByteArray} {s : ScV} {r : ByteArray} {z : Sh} : childOf p s r z = true ↔ z.1.1 ≠ rootB ∧ parentB z.1.1 = p ∧ z.1.2.1 = (s.kind, s.arg) ∧ z.1.2.2 = r := by
  unfold childOf parentV
  rw [Bool.and_eq_true, Bool.and_eq_true, Bool.and_eq_true, decide_eq_true_iff, decide_eq_true_iff, decide_eq_true_iff, eqSc_iff, decide_eq_true_iff]
  have hs : (⟨z.1.2.1.1, z.1.2.1.2⟩ : ScV) = s ↔ z.1.2.1 = (s.kind, s.arg) := by
    obtain ⟨k, a⟩ := s
    obtain ⟨⟨q, ⟨k', a'⟩, r'⟩, v⟩ := z
    simp
  rw [hs]
  by_cases h : z.1.1 = rootB
  · rw [if_pos h]; simp [h]
  · rw [if_neg h]; simp [h, and_assoc]
/-- what an object has of its own at a path -/
def mineW (h : ObjM) (p : ByteArray) (s : ScV) (r : ByteArray) : Int := if h.path = p ∧ inS h.prio h.dl h.parts s = true then valAt (usesU h.v) r else 0
def sumM (held : List ObjM) (p : ByteArray) (s : ScV) (r : ByteArray) : Int := (held.map fun h => mineW h p s r).sum
def sumC (Rs : List Sh) (p : ByteArray) (s : ScV) (r : ByteArray) : Int := ((Rs.filter (childOf p s r)).map fun z => z.2).sum
section
variable {S : Pl → Int} {C : ByteArray → Int} {held : List ObjM} {Rs : List Sh}
theorem child_one (inv : BookInv S C held) (hr : RowsOf S Rs) {h : ObjM} (hh : h ∈ held) (p : ByteArray) (s : ScV) (r : ByteArray) : mineW h p s r + ((Rs.filter (childOf p s r)).map fun z => partW h z.1.1 s r).sum = partW h p s r := by
  have hz := inv.acc h hh
  have hP : isPath h.path = true := (shares_path hz).1
  have hnd : (Rs.filter (childOf p s r)).Nodup := (rowsOf_nodup hr).filter _
  have hmem : ∀ z ∈ Rs.filter (childOf p s r), z ∈ Rs ∧ z.1.1 ≠ rootB ∧ parentB z.1.1 = p ∧ z.1.2.1 = (s.kind, s.arg) ∧ z.1.2.2 = r := fun z hz => ⟨(List.mem_filter.1 hz).1, childOf_iff.1 (List.mem_filter.1 hz).2⟩
  have hout : ∀ q, q ∉ lineB h.path → partW h q s r = 0 := fun q hq => by
    unfold partW
    exact if_neg fun e => hq (under_mem.1 e.1)
  by_cases hp : p ∈ lineB h.path
  · by_cases he : h.path = p
    · subst he
      rw [sum_zero (f := fun z : Sh => partW h z.1.1 s r) (fun z hz => hout _ fun hq => parent_not_self hP hq (hmem z hz).2.1 (hmem z hz).2.2.1)]
      unfold mineW partW
      rw [Int.add_zero]
      by_cases hi : inS h.prio h.dl h.parts s = true
      · rw [if_pos ⟨rfl, hi⟩, if_pos ⟨under_mem.2 hp, hi⟩]
      · rw [if_neg (fun e => hi e.2), if_neg (fun e => hi e.2)]
    · have hm : mineW h p s r = 0 := by unfold mineW; exact if_neg fun e => he e.1
      rw [hm, Int.zero_add]
      obtain ⟨c, hc, hcr, hcp⟩ := child_there hP hp (Ne.symm he)
      have hpc : partW h c s r = partW h p s r := by
        unfold partW
        by_cases hi : inS h.prio h.dl h.parts s = true
        · rw [if_pos ⟨under_mem.2 hc, hi⟩, if_pos ⟨under_mem.2 hp, hi⟩]
        · rw [if_neg (fun e => hi e.2), if_neg (fun e => hi e.2)]
      by_cases h0 : partW h p s r = 0
      · rw [h0]
        refine sum_zero fun z hz => ?_
        by_cases hq : z.1.1 ∈ lineB h.path
        · rw [parent_inj hP hq (hmem z hz).2.1 hc hcr ((hmem z hz).2.2.1.trans hcp.symm), hpc, h0]
        · exact hout _ hq
      · have hpos := partW_nonneg hz p s r
        obtain ⟨i, hi, hhi⟩ := List.mem_iff_getElem.1 hh
        have h1 := (inv.at_ (List.getElem?_eq_getElem hi)).1 (c, (s.kind, s.arg), r)
        have hrest := inv.rest (i := i)
        have h2 := sumAt_nonneg hrest.1 hrest.2 (c, (s.kind, s.arg), r)
        rw [hhi, ← partW_sv hz, hpc] at h1
        have hrow : (((c, (s.kind, s.arg), r), S (c, (s.kind, s.arg), r)) : Sh) ∈ Rs.filter (childOf p s r) := List.mem_filter.2 ⟨(hr.mem _).2 ⟨by simp only; omega, rfl⟩, childOf_iff.2 ⟨hcr, hcp, rfl, rfl⟩⟩
        rw [sum_one (f := fun z : Sh => partW h z.1.1 s r) hnd hrow fun z hz hne => ?_]
        · exact hpc
        · refine hout _ fun hq => hne ?_
          have e1 := parent_inj hP hq (hmem z hz).2.1 hc hcr ((hmem z hz).2.2.1.trans hcp.symm)
          have e2 := ((hr.mem z).1 (hmem z hz).1).2
          have e3 : z.1 = (c, (s.kind, s.arg), r) := Prod.ext e1 (Prod.ext (hmem z hz).2.2.2.1 (hmem z hz).2.2.2.2)
          exact Prod.ext e3 (by rw [e2, e3])
  · have hm : mineW h p s r = 0 := by unfold mineW; exact if_neg fun e => hp (by rw [← e.1]; exact self_line hP)
    rw [hm, hout p hp, sum_zero fun z hz => hout _ fun hq => hp ((hmem z hz).2.2.1 ▸ parent_mem hP hq (hmem z hz).2.1)]
    rfl
/-- a sum is those right below and its own -/
theorem climbs (inv : BookInv S C held) (hr : RowsOf S Rs) (p : ByteArray) (s : ScV) (r : ByteArray) : sumC Rs p s r + sumM held p s r = S (p, (s.kind, s.arg), r) := by
  have h1 : sumC Rs p s r = ((Rs.filter (childOf p s r)).map fun z => (held.map fun h => partW h z.1.1 s r).sum).sum := by
    unfold sumC
    congr 1
    refine List.map_congr_left fun z hz => ?_
    obtain ⟨hz1, hz2⟩ := List.mem_filter.1 hz
    obtain ⟨-, -, h3, h4⟩ := childOf_iff.1 hz2
    have h5 := ((hr.mem z).1 hz1).2
    have h6 := sumW_at inv.acc z.1.1 s r
    unfold sumW at h6
    rw [h6, h5, inv.sum]
    congr 1
    exact Prod.ext rfl (Prod.ext h3 h4)
  rw [h1, sum_swap, inv.sum, ← sumW_at inv.acc]
  unfold sumM sumW
  have h2 : ∀ l : List ObjM, (∀ h ∈ l, h ∈ held) → (l.map fun h => ((Rs.filter (childOf p s r)).map fun z => partW h z.1.1 s r).sum).sum + (l.map fun h => mineW h p s r).sum = (l.map fun h => partW h p s r).sum := by
    intro l
    induction l with
    | nil => intro _; rfl
    | cons h l ih =>
      intro hl
      have i1 := ih fun q hq => hl q (List.mem_cons_of_mem _ hq)
      have i2 := child_one inv hr (hl h (by simp)) p s r
      simp only [List.map_cons, List.sum_cons]
      omega
  exact h2 held fun _ h => h
end
end Go.Proofs.YtalkdddeiebfmaaGreatDoor
