/- LedgerApart: lists of the call's own, of which only the lengths are known, while they are written. -/
import Derived.Test.YtalkdddeiebfmaaGreatDoorJ80
namespace Go.Proofs.YtalkdddeiebfmaaGreatDoor
open Go.RowKit

theorem addr_add (b off k : Nat) : (⟨b, off, none⟩ : Addr).add k = ⟨b, off + k, none⟩ := by unfold Addr.add; split <;> simp_all
theorem cell_some_set {w : World} {p q : Addr} (u : Value) (h : (w.cell? q).isSome = true) : ((w.setCell p u).cell? q).isSome = true := by
  unfold World.cell? at h ⊢
  unfold World.setCell
  simp only [Array.getElem?_modify]
  split at h
  · rename_i c t f hh
    by_cases hpq : p.block = q.block
    · rw [if_pos hpq, hh]
      simp only [Option.map_some]
      by_cases hs : q.spot.isSome
      · rw [if_pos hs] at h; exact absurd h (by simp)
      · rw [if_neg hs] at h ⊢
        split
        · exact h
        · have hlt : q.off < c.size := by
            rw [Option.isSome_iff_exists] at h
            obtain ⟨v, hv⟩ := h
            exact (Array.getElem?_eq_some_iff.1 hv).1
          rw [Array.getElem?_eq_getElem (by simpa using hlt)]
          rfl
    · rw [if_neg hpq, hh]
      exact h
  · exact absurd h (by simp)
/-- n cells that can be written, in a block of [base, top) that is not g -/
def CanW (base top g : Nat) (w : World) (A : Option Addr) (n : Nat) : Prop :=
  n = 0 ∨ ∃ b off, A = some ⟨b, off, none⟩ ∧ (base ≤ b ∧ b < top) ∧ b ≠ g ∧ Unfr w b ∧ ∀ k, k < n → (w.cell? ⟨b, off + k, none⟩).isSome = true
section
variable {base top g n : Nat} {w w' : World} {A : Option Addr}
theorem CanW.setCell (h : CanW base top g w A n) (p : Addr) (u : Value) : CanW base top g (w.setCell p u) A n := by
  rcases h with h | ⟨b, off, e, h1, h2, h3, h4⟩
  · exact .inl h
  · exact .inr ⟨b, off, e, h1, h2, h3.setCell _ _, fun k hk => cell_some_set _ (h4 k hk)⟩
theorem cell_same {w w' : World} {p : Addr} (h : w'.heap[p.block]? = w.heap[p.block]?) : w'.cell? p = w.cell? p := by unfold World.cell?; rw [h]
theorem CanW.move (h : CanW base top g w A n) (hm : ∀ k, base ≤ k → k < top → w'.heap[k]? = w.heap[k]?) : CanW base top g w' A n := by
  rcases h with h | ⟨b, off, e, h1, h2, h3, h4⟩
  · exact .inl h
  · exact .inr ⟨b, off, e, h1, h2, h3.keep (hm b h1.1 h1.2), fun k hk => by rw [cell_same (p := ⟨b, off + k, none⟩) (hm b h1.1 h1.2)]; exact h4 k hk⟩
theorem CanW.at_ (h : CanW base top g w A (n * 2)) {j : Nat} (hj : j < n) : ∃ a v0 v1, A = some a ∧ base ≤ a.block ∧ a.block < top ∧ a.block ≠ g ∧ w.cell? (a.add (j * 2)) = some v0 ∧ w.frozen? (a.add (j * 2)) = false ∧
    w.cell? ⟨(a.add (j * 2)).block, (a.add (j * 2)).off + 1, none⟩ = some v1 ∧ w.frozen? ⟨(a.add (j * 2)).block, (a.add (j * 2)).off + 1, none⟩ = false := by
  rcases h with h | ⟨b, off, e, h1, h2, ⟨cs, t, h3⟩, h4⟩
  · omega
  · have k0 := h4 (j * 2) (by omega)
    have k1 := h4 (j * 2 + 1) (by omega)
    rw [Option.isSome_iff_exists] at k0 k1
    obtain ⟨v0, k0⟩ := k0
    obtain ⟨v1, k1⟩ := k1
    refine ⟨⟨b, off, none⟩, v0, v1, e, h1.1, h1.2, h2, ?_, ?_, ?_, ?_⟩
    · rw [addr_add]; exact k0
    · rw [addr_add]; exact frozen_of_row _ _ _ _ _ h3
    · rw [addr_add]; exact k1
    · rw [addr_add]; exact frozen_of_row _ _ _ _ _ h3
theorem CanW.of_row {P : Nat → Prop} {xs : List Amt} (h : Row kAmt P w A xs) (hP : ∀ k, P k → base ≤ k ∧ k < top ∧ k ≠ g ∧ Unfr w k) : CanW base top g w A (xs.length * 2) := by
  by_cases hx : xs = []
  · subst hx; exact .inl rfl
  · obtain ⟨⟨b, off, sp⟩, rfl, hb, cells, hf, hc⟩ := h hx
    have hl : cells.length = xs.length * 2 := hf.1
    have hpos : 0 < xs.length := List.length_pos_iff.2 hx
    have hsp : sp = none := by
      have h0 := hc 0 cells[0] (List.getElem?_eq_getElem (by omega))
      have e : (⟨b, off, sp⟩ : Addr).add 0 = ⟨b, off, sp⟩ := by unfold Addr.add; simp
      rw [e] at h0
      unfold World.cell? at h0
      split at h0
      · cases sp with
        | none => rfl
        | some s => simp at h0
      · cases h0
    subst hsp
    obtain ⟨h1, h2, h3, h4⟩ := hP b hb
    refine .inr ⟨b, off, rfl, ⟨h1, h2⟩, h3, h4, fun k hk => ?_⟩
    have := hc k cells[k] (List.getElem?_eq_getElem (by omega))
    rw [addr_add] at this
    rw [this]; rfl
end
/-- the parts of a list of the call's own, of which only the lengths of the requests are known -/
structure WParts (base top : Nat) (w : World) (g nn : Nat) : Prop where
  un : Unfr w g
  at_ : base ≤ g ∧ g < top
  req : ∀ i, i < nn → ∃ A n c, w.cell? ⟨g, i * 3 + 1, none⟩ = some (.slice A n c) ∧ n * 24 ≤ 140737488351232 ∧ CanW base top g w A (n * 2)
  lim : ∀ i, i < nn → (w.cell? ⟨g, i * 3 + 2, none⟩).isSome = true
section
variable {base top g nn : Nat} {w w' : World}
theorem WParts.move (h : WParts base top w g nn) (hm : ∀ k, base ≤ k → k < top → w'.heap[k]? = w.heap[k]?) : WParts base top w' g nn :=
  have hg := hm g h.at_.1 h.at_.2
  ⟨h.un.keep hg, h.at_, fun i hi => let ⟨A, n, c, h1, h2, h3⟩ := h.req i hi; ⟨A, n, c, (cell_same (p := ⟨g, i * 3 + 1, none⟩) hg).trans h1, h2, h3.move hm⟩, fun i hi => by rw [cell_same (p := ⟨g, i * 3 + 2, none⟩) hg]; exact h.lim i hi⟩
theorem WParts.turn {T : Nat → Prop} (h : WParts base top w g nn) (ht : Turn T w w') (hs : top ≤ w.heap.size) (hT : ∀ k, base ≤ k → k < top → ¬ T k) : WParts base top w' g nn := h.move fun k h1 h2 => ht.block k (by omega) (hT k h1 h2)
theorem WParts.lim_at (h : WParts base top w g nn) {i : Nat} (hi : i < nn) : ∃ v, w.cell? ⟨g, i * 3 + 2, none⟩ = some v ∧ w.frozen? ⟨g, i * 3 + 2, none⟩ = false := by
  have := h.lim i hi
  rw [Option.isSome_iff_exists] at this
  obtain ⟨v, hv⟩ := this
  obtain ⟨cs, t, hg⟩ := h.un
  exact ⟨v, hv, frozen_of_row _ _ _ _ _ hg⟩
/-- a write into a request -/
theorem WParts.setReq (h : WParts base top w g nn) {p : Addr} (hp : p.block ≠ g) (u : Value) : WParts base top (w.setCell p u) g nn :=
  ⟨h.un.setCell _ _, h.at_, fun i hi => let ⟨A, n, c, h1, h2, h3⟩ := h.req i hi; ⟨A, n, c, by
    unfold World.cell? at h1 ⊢
    rw [show (w.setCell p u).heap[(⟨g, i * 3 + 1, none⟩ : Addr).block]? = w.heap[(⟨g, i * 3 + 1, none⟩ : Addr).block]? from Below.heap_setCell _ _ _ _ (Ne.symm hp)]
    exact h1, h2, h3.setCell _ _⟩, fun i hi => cell_some_set _ (h.lim i hi)⟩
/-- a part's limits are taken away -/
theorem WParts.setLim (h : WParts base top w g nn) (j : Nat) (u : Value) : WParts base top (w.setCell ⟨g, j * 3 + 2, none⟩ u) g nn :=
  ⟨h.un.setCell _ _, h.at_, fun i hi => let ⟨A, n, c, h1, h2, h3⟩ := h.req i hi; ⟨A, n, c, by
    obtain ⟨cs, t, hg⟩ := h.un
    rw [cell_of_row _ _ _ _ _ _ (heap_setCell_same _ _ _ _ _ _ hg), Array.getElem?_setIfInBounds_ne (by omega)]
    rw [cell_of_row _ _ _ _ _ _ hg] at h1
    exact h1, h2, h3.setCell _ _⟩, fun i hi => cell_some_set _ (h.lim i hi)⟩
theorem WParts.of {B : Option Addr} {n c : Nat} {L : List PartV} {R : Nat → Prop} (h : PartsAt base w (.slice B n c) L R) (hu : ∀ k, R k → Unfr w k) (hs : w.heap.size ≤ top) (h24 : ∀ p ∈ L, p.req.length * 24 ≤ 140737488351232) (hne : L ≠ []) :
    ∃ g, B = some ⟨g, 0, none⟩ ∧ WParts base top w g L.length := by
  obtain ⟨g, cur, rfl, hb, hg⟩ := own_blk h.own hne
  have hlt := (h.own.block_lt g (by simp [Value.ownBlock])).2
  obtain ⟨A', c', hv, -, -, hrow⟩ := h.own.row
  cases hv
  refine ⟨g, rfl, ⟨_, _, hg⟩, ⟨hb, by omega⟩, fun i hi => ?_, fun i hi => ?_⟩
  · obtain ⟨cells, ho, hf⟩ := h.own
    obtain ⟨c1, c2, he, h1, c3, c4, rfl, ⟨v, rfl, R1, cr, rfl, l1, l2, hrow1⟩, v', rfl, M, cm, rfl, l3, l4, hrow2⟩ := hf.2 i hi
    obtain rfl : c1 = [.string L[i].name] := h1
    refine ⟨R1, L[i].req.length, cr, ?_, h24 _ (List.getElem_mem hi), CanW.of_row hrow1 fun k hk => ?_⟩
    · have e := congrArg (fun l => l[1]?) he
      have h5 : cells[i * 3 + 1]? = some (.slice R1 L[i].req.length cr) := by
        simp only [List.getElem?_take_of_lt (show 1 < kPart.sz by rw [kPart_sz]; omega), List.getElem?_drop] at e
        exact e
      have h2 := ho.cells rfl (i * 3 + 1) _ h5
      rw [addr_add, Nat.zero_add] at h2
      exact h2
    · have h6 := h.low k hk
      exact ⟨h6.1, by omega, fun e => h6.2.2 (by subst e; simp [Value.ownBlock]), hu k hk⟩
  · obtain ⟨a, R', M', cr', cm', ha, hp⟩ := part_at hrow i hi
    cases ha
    have h1 := hp.c2
    rw [addr_add] at h1
    simp only [Nat.zero_add] at h1
    rw [h1]; rfl
end
/-- an object of the call's own, told more -/
theorem own_objU (o : ObjM) (L0 : Option Addr) (m0 : Nat) (B0 : Option Addr) (c0 : Nat) (w : World) (h : ObjFit w (o.at_ L0 m0) B0 o.ls) :
    Calls Tryz.prog 10 #[.agg #[.string o.path, .string o.name, .slice L0 o.ls.length m0, .int .i64 o.prio, .int .i64 o.dl, .slice B0 o.parts.length c0, .int .i64 o.ver]] w fun e w' =>
      ∃ (L : Option Addr) (m : Nat) (B : Option Addr) (c : Nat) (R : Nat → Prop), e = .returned (.agg #[.string o.path, .string o.name, .slice L o.ls.length m, .int .i64 o.prio, .int .i64 o.dl, .slice B o.parts.length c, .int .i64 o.ver]) ∧
        PartsAt w.heap.size w' (.slice B o.parts.length c) o.parts R ∧ (∀ k, R k → Unfr w' k) ∧ Below w.heap.size w w' := by
  refine (own_anyU (o.at_ L0 m0) B0 c0 o.ls w h).mono fun e w' hp => ?_
  obtain ⟨L, m, B, c, R, rfl, hparts, -, hb, hu⟩ := hp
  exact ⟨L, m, B, c, R, rfl, hparts, hu, hb⟩
theorem rowsOf_le {m : Nat} {S : Pl → Int} {C : ByteArray → Int} {R : List Sh} (ok : LedOk m S C) (h : RowsOf S R) : R.length ≤ m := by
  obtain ⟨L, hl, hs⟩ := ok.sup
  have := nodup_le R (L.map fun p => (p, S p)) (rowsOf_nodup h) (fun x hx => by
    obtain ⟨h1, h2⟩ := (h.mem x).1 hx
    exact List.mem_map.2 ⟨x.1, hs _ h1, by rw [← h2]⟩)
  rw [List.length_map] at this
  omega
end Go.Proofs.YtalkdddeiebfmaaGreatDoor
