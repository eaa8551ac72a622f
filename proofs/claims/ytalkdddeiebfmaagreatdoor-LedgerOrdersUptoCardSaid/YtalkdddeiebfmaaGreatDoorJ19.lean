/- How many entries a ledger's maps have. -/
import Derived.Test.YtalkdddeiebfmaaGreatDoorJ18
namespace Go.Proofs.YtalkdddeiebfmaaGreatDoor
open Go.RowKit Go.Maps Go.WideMaps

theorem nodup_le {α : Type} [DecidableEq α] : ∀ (l L : List α), l.Nodup → (∀ x ∈ l, x ∈ L) → l.length ≤ L.length
  | [], _, _, _ => Nat.zero_le _
  | x :: l, L, hn, h => by
    rw [List.nodup_cons] at hn
    have h1 := nodup_le l (L.filter fun y => decide (y ≠ x)) hn.2 fun y hy => by
      rw [List.mem_filter]
      exact ⟨h y (List.mem_cons_of_mem _ hy), by simp only [decide_eq_true_eq]; rintro rfl; exact hn.1 hy⟩
    have h2 : (L.filter fun y => decide (y ≠ x)).length < L.length := List.length_filter_lt_length_iff_exists.2 ⟨x, h x (by simp), by simp⟩
    simp only [List.length_cons]; omega
theorem ownsMap_tight {k : TypeId} {R : Value → Option (DataW Unit × List MemPlace)} {w : World} {b n : Nat} {D : DataW Unit} (K : Keyed Tryz.prog k) (h : w.ownsMap Tryz.prog k R b n D) {α : Type} [DecidableEq α] [Inhabited α] (f : α → Value) (g : α → Lit) (L : List α)
    (hinv : ∀ v l, keyOf Tryz.prog k v = some l → ∃ x, v = f x ∧ l = g x ∧ (Maps.has D (g x) = true → x ∈ L)) : w.ownsMap Tryz.prog k R b L.length D := by
  obtain ⟨es, clock, hb, F, hs, rfl⟩ := h
  refine ⟨es, clock, hb, F, ?_, rfl⟩
  have hch : ∀ e : MapEntry, ∃ x : α, e ∈ es.toList → e.key = f x ∧ x ∈ L := fun e => by
    by_cases he : e ∈ es.toList
    · obtain ⟨y, hy⟩ := F.reads e he
      obtain ⟨x, hx, hl, hm⟩ := hinv _ _ (Go.WideElems.rd_key hy)
      refine ⟨x, fun _ => ⟨hx, hm ?_⟩⟩
      rw [← hl]
      have hin : (Go.WideElems.rg Tryz.prog k R e) ∈ ((es.toList.map (Go.WideElems.rg Tryz.prog k R)).foldr DataW.insert []) := mem_sorted.2 (List.mem_map_of_mem he)
      rw [Maps.has_eq, List.any_eq_true]
      refine ⟨_, hin, ?_⟩
      rw [Go.WideElems.rg_of hy]
      exact WideAt.sameKey_self (K.key (Go.WideElems.rd_key hy))
    · exact ⟨default, fun h => absurd h he⟩
  have hk := ((Go.MapKept.stamped_iff es clock).1 F.stamped).2.2
  have hlen := nodup_le (es.toList.map fun e => (hch e).choose) L (by
    rw [List.nodup_iff_pairwise_ne, List.pairwise_map]
    refine (List.Pairwise.imp_of_mem ?_ hk : es.toList.Pairwise _)
    intro a b ha hb hab e
    have h1 := ((hch a).choose_spec ha).1
    have h2 := ((hch b).choose_spec hb).1
    exact hab (by rw [h1, h2, e])) fun x hx => by
      obtain ⟨e, he, rfl⟩ := List.mem_map.1 hx
      exact ((hch e).choose_spec he).2
  simpa using hlen
section
variable {w : World} {g b1 b2 n m : Nat} {S : Pl → Int} {C : ByteArray → Int}
theorem st_key_inv {v : Value} {l : Lit} (h : keyOf Tryz.prog 9 v = some l) : ∃ x, StOk x ∧ v = .string x ∧ l = .string x.data.toList := by
  obtain ⟨x, rfl, rfl, hx⟩ := Maps.keyOf_str Tryz.underlying9 h
  exact ⟨⟨x.toArray⟩, by unfold StOk; rw [← data_len]; simpa using hx, rfl, by simp⟩
/-- a ledger has no more entries than sums, or counts, that are not 0 -/
theorem IsLed.tight (k : IsLed w g b1 b2 n S C) (ok : LedOk m S C) : IsLed w g b1 b2 m S C := by
  obtain ⟨D, h1, h2, h3⟩ := k.sums.ex
  obtain ⟨E, e1, e2, e3⟩ := k.cnts.ex
  obtain ⟨L, hL, hL2⟩ := ok.sup
  obtain ⟨M, hM, hM2⟩ := ok.csup
  refine ⟨k.box, ⟨D, (ownsMap_tight placeLaw h1 plV plLit L fun v l hk => ?_).mono hL, h2, h3⟩, ⟨E, (ownsMap_tight strLaw e1 Value.string (fun x => .string x.data.toList) M fun v l hk => ?_).mono hM, e2, e3⟩, k.ne12⟩
  · obtain ⟨x, hx, rfl, rfl⟩ := pl_key_inv hk
    exact ⟨x, rfl, rfl, fun hh => hL2 x (by rw [h3 x hx] at hh; simpa using hh)⟩
  · obtain ⟨x, hx, rfl, rfl⟩ := st_key_inv hk
    exact ⟨x, rfl, rfl, fun hh => hM2 x (by rw [e3 x hx] at hh; simpa using hh)⟩
end
end Go.Proofs.YtalkdddeiebfmaaGreatDoor
