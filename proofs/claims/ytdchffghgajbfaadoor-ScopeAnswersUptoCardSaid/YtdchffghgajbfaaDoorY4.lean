/- The document's rows in memory: add. -/
import Derived.Test.YtdchffghgajbfaaDoorY1
import Derived.StillTailTactics
namespace Go.Proofs.YtdchffghgajbfaaDoor
open Go.RowKit

/-- a row: a name and its sum, in two parts -/
structure RawV where
  name : ByteArray
  hi : Int
  lo : Int
def RawV.cells (r : RawV) : List Value := [.string r.name, .int .i64 r.hi, .int .i64 r.lo]
def kRaw : Kn RawV := Kn.enc RawV.cells 3 (by omega) (fun _ => rfl) (fun x u hu => by simp [RawV.cells] at hu; rcases hu with rfl | rfl | rfl <;> rfl)
theorem kRaw_plain : kRaw.Plain := Kn.plain_enc
theorem rawElem : Elem Tryd.prog 118 117 kRaw 32 :=
  Elem.mk_ (z := .agg #[.string ⟨#[]⟩, .int .i64 0, .int .i64 0]) Tryd.underlying118 (by kernel_rfl) rfl (by omega)
def kvR (r : RawV) : Key × Int := (r.name.data.toList, r.hi * 4294967296 + r.lo)
structure RawAt (w : World) (a : Addr) (x : RawV) : Prop where
  c0 : w.cell? a = some (.string x.name)
  c1 : w.cell? ⟨a.block, a.off + 1, none⟩ = some (.int .i64 x.hi)
  c2 : w.cell? ⟨a.block, a.off + 2, none⟩ = some (.int .i64 x.lo)
theorem raw_at {P : Nat → Prop} {w : World} {A : Option Addr} {xs : List RawV} (h : Row kRaw P w A xs) (i : Nat) (hi : i < xs.length) : ∃ a, A = some a ∧ RawAt w (a.add (i * 3)) xs[i] := by
  obtain ⟨a, cs, hA, hP, hr, hc⟩ := h.at_ i hi
  obtain rfl : cs = xs[i].cells := hr
  exact ⟨a, hA, hc 0 _ rfl, by rw [← add_off _ _ 1 (by omega)]; exact hc 1 _ rfl, by rw [← add_off _ _ 2 (by omega)]; exact hc 2 _ rfl⟩
/-- the parts are such that none overflows -/
structure RawOk (j : Nat) (r : RawV) : Prop where
  h0 : 0 ≤ r.hi
  h1 : r.hi ≤ 2147483648 * j
  l0 : 0 ≤ r.lo
  l1 : r.lo < 4294967296
theorem RawOk.mono {j k : Nat} {r : RawV} (h : RawOk j r) (hjk : j ≤ k) : RawOk k r := ⟨h.h0, by have := h.h1; omega, h.l0, h.l1⟩
/-- an amount added to a row -/
def rawAdd (r : RawV) (v : Int) : RawV := ⟨r.name, r.hi + v / 4294967296 + (r.lo + v % 4294967296) / 4294967296, (r.lo + v % 4294967296) % 4294967296⟩
theorem rawAdd_kv (r : RawV) (v : Int) : kvR (rawAdd r v) = ((kvR r).1, (kvR r).2 + v) := by
  unfold kvR rawAdd
  simp only [Prod.mk.injEq, true_and]
  omega
theorem rawAdd_ok {j : Nat} {r : RawV} {v : Int} (h : RawOk j r) (h0 : 0 ≤ v) (h1 : v ≤ 9223372036854775807) : RawOk (j + 1) (rawAdd r v) := by
  have := h.h0
  have := h.h1
  have := h.l0
  have := h.l1
  unfold rawAdd
  exact ⟨by show 0 ≤ r.hi + v / 4294967296 + (r.lo + v % 4294967296) / 4294967296; omega, by show r.hi + v / 4294967296 + (r.lo + v % 4294967296) / 4294967296 ≤ _; omega, by show 0 ≤ (r.lo + v % 4294967296) % 4294967296; omega, by show (r.lo + v % 4294967296) % 4294967296 < _; omega⟩
theorem addR_set : ∀ (R : List RawV) (i : Nat) (hi : i < R.length) (v : Int), ((R.map kvR).map Prod.fst).Nodup → addR (kvR R[i]).1 v (R.map kvR) = (R.set i (rawAdd R[i] v)).map kvR
  | r :: R, 0, _, v, _ => by
    simp only [List.getElem_cons_zero, List.map_cons, List.set_cons_zero, addR, if_pos, rawAdd_kv]
  | r :: R, i + 1, hi, v, h => by
    rw [List.map_cons, List.map_cons, List.nodup_cons] at h
    have hi' : i < R.length := by simpa using hi
    simp only [List.getElem_cons_succ, List.map_cons, List.set_cons_succ]
    unfold addR
    rw [if_neg, addR_set R i hi' v h.2]
    intro e
    apply h.1
    rw [e]
    exact List.mem_map_of_mem (List.mem_map_of_mem (List.getElem_mem _))
theorem addR_new : ∀ (R : List (Key × Int)) (k : Key) (v : Int), k ∉ R.map Prod.fst → addR k v R = R ++ [(k, v)]
  | [], k, v, _ => rfl
  | p :: R, k, v, h => by
    rw [List.map_cons, List.mem_cons, not_or] at h
    unfold addR
    rw [if_neg (fun e => h.1 e.symm), addR_new R k v h.2]; rfl
/-- the rows while add goes on -/
structure RowsAt (base : Nat) (w0 wr : World) (lv : Value) (j : Nat) (R : List RawV) (T : List (Key × Int)) : Prop where
  own : Own kRaw 117 base (fun _ => False) wr lv R
  below : Below base w0 wr
  eq : R.map kvR = T
  nodup : (T.map Prod.fst).Nodup
  ok : ∀ r ∈ R, RawOk j r
  len : R.length ≤ j + 1
/-- where the row with a name is, of the first j -/
def FoundTo (R : List RawV) (T : ByteArray) (j : Nat) (at_ : Int) : Prop := (at_ = -1 ∧ ∀ i (h : i < R.length), i < j → R[i].name ≠ T) ∨ ∃ (i : Nat) (h : i < R.length), at_ = i ∧ R[i].name = T
theorem foundTo_zero (R : List RawV) (T : ByteArray) : FoundTo R T 0 (-1) := .inl ⟨rfl, fun i h h2 => absurd h2 (by omega)⟩
theorem FoundTo.miss {R : List RawV} {T : ByteArray} {j : Nat} {at_ : Int} (h : FoundTo R T j at_) (hj : j < R.length) (hn : R[j].name ≠ T) : FoundTo R T (j + 1) at_ := by
  rcases h with ⟨h1, h2⟩ | h
  · refine .inl ⟨h1, fun i hi hij => ?_⟩
    by_cases e : i = j
    · subst e; exact hn
    · exact h2 i hi (by omega)
  · exact .inr h
theorem foundTo_hit {R : List RawV} {T : ByteArray} {j : Nat} (hj : j < R.length) (hn : R[j].name = T) (k : Nat) : FoundTo R T k (j : Int) := .inr ⟨j, hj, rfl, hn⟩
/-- ahead of the writes: the name's row is there -/
structure AddMid (base : Nat) (w0 wx : World) (lv : Value) (j i : Nat) (R1 : List RawV) (T : ByteArray) (v : Int) (old : List (Key × Int)) : Prop where
  own : Own kRaw 117 base (fun _ => False) wx lv R1
  below : Below base w0 wx
  lt : i < R1.length
  name : R1[i].name = T
  nodup : ((R1.map kvR).map Prod.fst).Nodup
  ok : ∀ r ∈ R1, RawOk j r
  len : R1.length ≤ j + 2
  new : addR T.data.toList v old = (R1.set i (rawAdd R1[i] v)).map kvR
theorem AddMid.hit {base : Nat} {w0 wr : World} {lv : Value} {j i : Nat} {R : List RawV} {T : ByteArray} {v : Int} {old : List (Key × Int)} (h : RowsAt base w0 wr lv j R old) (hi : i < R.length) (hn : R[i].name = T) : AddMid base w0 wr lv j i R T v old := by
  refine ⟨h.own, h.below, hi, hn, by rw [h.eq]; exact h.nodup, h.ok, by have := h.len; omega, ?_⟩
  have := addR_set R i hi v (by rw [h.eq]; exact h.nodup)
  rw [h.eq] at this
  rw [← this]
  show _ = addR (R[i].name.data.toList) v old
  rw [hn]
theorem AddMid.miss {base : Nat} {w0 wr w' wx : World} {lv lv' : Value} {j : Nat} {R : List RawV} {T : ByteArray} {v : Int} {old : List (Key × Int)} (h : RowsAt base w0 wr lv j R old) (hb : base ≤ w0.heap.size) (hx : Below wr.heap.size wr wx) (hn : ∀ i (h : i < R.length), R[i].name ≠ T)
    (ha : Appended kRaw 117 base (fun _ => False) wx w' lv lv' (R ++ [⟨T, 0, 0⟩])) : AddMid base w0 w' lv' j R.length (R ++ [⟨T, 0, 0⟩]) T v old := by
  have hbr := h.below.size
  have hnk : T.data.toList ∉ old.map Prod.fst := by
    rw [← h.eq]
    intro hm
    obtain ⟨p, hp, he⟩ := List.mem_map.1 hm
    obtain ⟨r, hr, rfl⟩ := List.mem_map.1 hp
    obtain ⟨i, hi, rfl⟩ := List.getElem_of_mem hr
    exact hn i hi (bytes_inj he)
  refine ⟨ha.own, ha.below (h.below.trans (hx.mono (by omega))) (by have := hx.size; omega) (fun q hq => (h.own.block_lt q hq).1), by simp, by simp, ?_, ?_, by rw [List.length_append]; have := h.len; simp; omega, ?_⟩
  · rw [List.map_append, List.map_append, h.eq]
    refine List.nodup_append.2 ⟨h.nodup, by simp, ?_⟩
    intro x hx y hy e
    simp only [List.map_cons, List.map_nil, List.mem_singleton] at hy
    subst hy
    subst e
    exact hnk hx
  · intro r hr
    rcases List.mem_append.1 hr with hr | hr
    · exact h.ok r hr
    · rw [List.mem_singleton.1 hr]
      exact ⟨Int.le_refl _, by show (0 : Int) ≤ _; omega, Int.le_refl _, by show (0 : Int) < _; omega⟩
  · rw [addR_new old _ _ hnk, List.set_append_right _ _ (Nat.le_refl _)]
    simp only [Nat.sub_self, List.set_cons_zero, List.getElem_append_right (Nat.le_refl R.length), List.getElem_cons_zero, List.map_append, List.map_cons, List.map_nil, h.eq, rawAdd_kv]
    simp [kvR]
section
variable {base g n c i : Nat} {w : World} {M : List RawV} {x : RawV}
theorem raw_put1 (h : Own kRaw 117 base (fun _ => False) w (.slice (some ⟨g, 0, none⟩) n c) (M.set i x)) (hi : i < M.length) (v : Int) : Own kRaw 117 base (fun _ => False) (w.setCell ⟨g, i * 3 + 1, none⟩ (.int .i64 v)) (.slice (some ⟨g, 0, none⟩) n c) (M.set i ⟨x.name, v, x.lo⟩) := by
  have := Own.setEnc (f := RawV.cells) (n := 3) h i (by simpa using hi) 1 (by omega) (.int .i64 v) ⟨x.name, v, x.lo⟩ (by rw [List.getElem_set_self]; rfl)
  rwa [List.set_set] at this
theorem raw_put2 (h : Own kRaw 117 base (fun _ => False) w (.slice (some ⟨g, 0, none⟩) n c) (M.set i x)) (hi : i < M.length) (v : Int) : Own kRaw 117 base (fun _ => False) (w.setCell ⟨g, i * 3 + 2, none⟩ (.int .i64 v)) (.slice (some ⟨g, 0, none⟩) n c) (M.set i ⟨x.name, x.hi, v⟩) := by
  have := Own.setEnc (f := RawV.cells) (n := 3) h i (by simpa using hi) 2 (by omega) (.int .i64 v) ⟨x.name, x.hi, v⟩ (by rw [List.getElem_set_self]; rfl)
  rwa [List.set_set] at this
theorem raw_put_at (h : Own kRaw 117 base (fun _ => False) w (.slice (some ⟨g, 0, none⟩) n c) (M.set i x)) (hi : i < M.length) : w.cell? ⟨g, i * 3 + 1, none⟩ = some (.int .i64 x.hi) ∧ w.cell? ⟨g, i * 3 + 2, none⟩ = some (.int .i64 x.lo) ∧ (∀ j, w.frozen? ⟨g, j, none⟩ = false) ∧ base ≤ g := by
  have hl : i < (M.set i x).length := by simpa using hi
  obtain ⟨a1, ha1, hat⟩ := raw_at (own_rows h) i hl
  cases ha1
  rw [add_new, List.getElem_set_self] at hat
  obtain ⟨g', cur, hg', hb, hblk⟩ := own_blk h (fun e => by rw [e] at hl; simp at hl)
  cases hg'
  exact ⟨hat.c1, hat.c2, fun j => frozen_of_row w g j cur 117 hblk, hb⟩
end
theorem wrap_quo {v : Int} (h0 : 0 ≤ v) (h1 : v ≤ 9223372036854775807) : wrap64 (v.tdiv 4294967296) = v / 4294967296 := by
  rw [Int.tdiv_eq_ediv_of_nonneg h0]; unfold wrap64; omega
theorem wrap_rem {v : Int} (h0 : 0 ≤ v) (h1 : v ≤ 9223372036854775807) : wrap64 (v.tmod 4294967296) = v % 4294967296 := by
  rw [Int.tmod_eq_emod_of_nonneg h0]; unfold wrap64; omega
theorem wrap_id {v : Int} (h0 : 0 ≤ v) (h1 : v ≤ 9223372036854775807) : wrap64 v = v := by unfold wrap64; omega
end Go.Proofs.YtdchffghgajbfaaDoor
