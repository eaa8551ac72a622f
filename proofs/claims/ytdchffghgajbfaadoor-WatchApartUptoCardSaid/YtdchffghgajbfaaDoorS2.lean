/- slices.DeleteFunc at events. -/
import Derived.Test.YtdchffghgajbfaaDoorS1
namespace Go.Proofs.YtdchffghgajbfaaDoor
open Go.RowKit

theorem idxFn_lt {α : Type} {p : α → Bool} {xs : List α} {i : Nat} (h : idxFn p xs = i) : i < xs.length := by
  unfold idxFn at h
  split at h
  · rename_i k hk
    have : k = i := by omega
    subst this
    rw [List.findIdx?_eq_some_iff_getElem] at hk
    exact hk.1
  · omega
theorem del_start {p : Ev → Bool} {xs : List Ev} {i : Nat} (h : idxFn p xs = i) : xs.take i = (xs.take (i + 1)).filter (fun x => !p x) := by
  have hi := idxFn_lt h
  unfold idxFn at h
  split at h
  · rename_i k hk
    have : k = i := by omega
    subst this
    rw [List.findIdx?_eq_some_iff_getElem] at hk
    obtain ⟨h1, h2, h3⟩ := hk
    rw [List.take_succ_eq_append_getElem hi, List.filter_append]
    have e1 : (xs.take k).filter (fun x => !p x) = xs.take k := by
      rw [List.filter_eq_self]
      intro x hx
      obtain ⟨j, hj, rfl⟩ := List.mem_take_iff_getElem.1 hx
      have := h3 j (by omega)
      simpa using this
    rw [e1]; simp [h2]
  · omega
theorem del_keep {p : Ev → Bool} {xs ys : List Ev} {i j : Nat} (h : ys.length = xs.length ∧ ys.take i = (xs.take j).filter (fun x => !p x) ∧ ys.drop j = xs.drop j) (hij : i < j) (hj : j < xs.length) (hv : p (ys[j]'(by omega)) = false) :
    (ys.set i (ys[j]'(by omega))).length = xs.length ∧ (ys.set i (ys[j]'(by omega))).take (i + 1) = (xs.take (j + 1)).filter (fun x => !p x) ∧ (ys.set i (ys[j]'(by omega))).drop (j + 1) = xs.drop (j + 1) := by
  have hy : j < ys.length := by omega
  generalize hz : ys[j] = z at *
  obtain ⟨h1, h2, h3⟩ := h
  have e : z = xs[j] := by
    have a := congrArg (fun l => l[0]?) h3
    simpa [List.getElem?_drop, List.getElem?_eq_getElem hy, List.getElem?_eq_getElem hj, hz] using a
  refine ⟨by simp [h1], ?_, ?_⟩
  · rw [List.take_succ_eq_append_getElem (by simp; omega), List.getElem_set_self, List.take_set_of_le (by omega), h2, List.take_succ_eq_append_getElem hj, List.filter_append, e]
    congr 1
    rw [e] at hv
    simp [hv]
  · rw [List.drop_set_of_lt (by omega)]
    have a := congrArg (List.drop 1) h3
    simpa [List.drop_drop] using a
theorem del_drop {p : Ev → Bool} {xs ys : List Ev} {i j : Nat} (h : ys.length = xs.length ∧ ys.take i = (xs.take j).filter (fun x => !p x) ∧ ys.drop j = xs.drop j) (hj : j < xs.length) (hv : p (ys[j]'(by omega)) = true) :
    ys.length = xs.length ∧ ys.take i = (xs.take (j + 1)).filter (fun x => !p x) ∧ ys.drop (j + 1) = xs.drop (j + 1) := by
  obtain ⟨h1, h2, h3⟩ := h
  have hy : j < ys.length := by omega
  have e : ys[j] = xs[j] := by
    have a := congrArg (fun l => l[0]?) h3
    simpa [List.getElem?_drop, List.getElem?_eq_getElem hy, List.getElem?_eq_getElem hj] using a
  refine ⟨h1, ?_, ?_⟩
  · rw [h2, List.take_succ_eq_append_getElem hj, List.filter_append]
    rw [e] at hv
    simp [hv]
  · have a := congrArg (List.drop 1) h3
    simpa [List.drop_drop] using a

theorem zeroEv (w : World) : (zeroValue 41).run Tryd.prog w = .ok (.agg #[.int .i64 0, .int .i64 0, .bool false, .string ⟨#[]⟩, .string ⟨#[]⟩]) w := by kernel_rfl
set_option maxRecDepth 100000 in
theorem evDeleteFunc_some (g c gp : Nat) (xs : List Ev) (path : ByteArray) (w : World) (hm : Ml w) (hp : w.cell? ⟨gp, 0, none⟩ = some (.string path)) (ho : OwnAt kEvent 41 g c w xs) (hgp : gp ≠ g) (hgm : 2 ≠ g)
    (i0 : Nat) (hi : idxFn (evOut path) xs = i0) :
    Calls Tryd.prog 60 #[.slice (some ⟨g, 0, none⟩) xs.length c, .func (.func 62) #[] #[.pointer (some ⟨gp, 0, none⟩)]] w fun e w' =>
      e = .returned (.slice (some ⟨g, 0, none⟩) (xs.filter fun x => !evOut path x).length c) ∧ OwnAt kEvent 41 g c w' (xs.filter fun x => !evOut path x) ∧ Turn (fun k => k = g) w w' := by
  have hle := ho.le
  have hmx := ho.mx
  unfold maxLen at hmx
  have HI := Lib.hid hi
  clear hi
  have hiz : ((i0 : Int) == -1) = false := by simp
  have hi0 : i0 < xs.length := idxFn_lt HI.out
  go_enter Tryd.func60, Tryd.ntmps60
  go_wp2_with (go_at_call 86; refine (evIndexFunc_any _ c gp (fun _ => True) xs path _ hm hp ho.row (by omega)).mono ?_; rintro e w1 ⟨rfl, hb⟩; rw [HI.out])
  go_loopw [5, 6] (fun i j wr => ∃ (i1 j1 : Nat) (ys : List Ev), i = .int .i64 i1 ∧ j = .int .i64 j1 ∧ i1 < j1 ∧ j1 ≤ xs.length ∧ OwnAt kEvent 41 g c wr ys ∧ Hid (ys.length = xs.length ∧ ys.take i1 = (xs.take j1).filter (fun x => !evOut path x) ∧ ys.drop j1 = xs.drop j1) ∧ Turn (fun k => k = g) w wr) (fun _ j _ => xs.length - (intOf j).toNat)
  case atStart => exact ⟨i0, i0 + 1, xs, rfl, by go_num, by omega, by omega, ho.move kEvent_plain (hb.block g ho.lt), ⟨rfl, del_start HI.out, rfl⟩, Turn.of_below hb⟩
  case round =>
    obtain ⟨i, j, ys, rfl, rfl, hij, hj, hoy, HY, ht⟩ := hrel
    by_cases hlt : j < xs.length
    · have hyl : j < ys.length := by have := HY.out.1; omega
      obtain ⟨a, ha, _, e0, e1, e2, e3, e4⟩ := ev_at hoy.row j hyl
      obtain rfl : (⟨g, 0, none⟩ : Addr) = a := by injection ha
      clear ha
      rw [add_new] at e0 e1 e2 e3 e4
      have hp1 : wr.cell? ⟨gp, 0, none⟩ = some (.string path) := ht.cell hp hgp
      have hm1 : Ml wr := let ⟨m, hc⟩ := hm; ⟨m, ht.cell hc hgm⟩
      have hb1 : Below wr.heap.size wr (wr.alloc (.cells #[.int .i64 ys[j].ver, .int .i64 ys[j].kind, .bool ys[j].gone, .string ys[j].path, .string ys[j].name] 41)) := (Below.refl _ _).alloc (Nat.le_refl _) _
      have hm2 := hm1.below hb1
      have hp2 := (hb1.cell (p := ⟨gp, 0, none⟩) (World.block_lt_of_cell? _ _ hp1)).trans hp1
      have HB1 := Lib.hid hb1
      clear hb1
      cases hv : evOut path ys[j]
      · have HV := Lib.hid hv
        clear hv
        have hi : i < ys.length := by omega
        obtain ⟨a, ha, _, f0, f1, f2, f3, f4⟩ := ev_at hoy.row i hi
        obtain rfl : (⟨g, 0, none⟩ : Addr) = a := by injection ha
        clear ha
        rw [add_new] at f0 f1 f2 f3 f4
        have hglt := hoy.lt
        have hfz := hoy.frozen
        go_wp2_with (go_at_call 62; refine (sinceFn_any ys[j] gp path _ hm2 hp2).mono ?_; rintro e w2 ⟨rfl, hb2⟩; rw [show (!underB ys[j].path path) = false from HV.out]; have HB2 := Lib.hid hb2; obtain ⟨bc, bf⟩ := bcell hb2)
        go_roundw
        case rel =>
          have ho2 : OwnAt kEvent 41 g c w2 ys := hoy.move kEvent_plain ((HB2.out.block g (by simp; omega)).trans (HB1.out.block g hglt))
          have ht2 : Turn (fun k => k = g) w w2 := (ht.then_below HB1.out).then_below HB2.out
          exact ⟨i + 1, j + 1, ys.set i ys[j], by go_num, by go_num, by omega, by omega, ho2.setEnc i hi ys[j], del_keep HY.out hij hlt HV.out, setCells_turn (S := fun k => k = g) (.inl rfl) ys[j].cells w2 (i * 5) ht2⟩
        case measure => simp [intOf]; omega
      · have HV := Lib.hid hv
        clear hv
        have hglt := hoy.lt
        go_wp2_with (go_at_call 62; refine (sinceFn_any ys[j] gp path _ hm2 hp2).mono ?_; rintro e w2 ⟨rfl, hb2⟩; rw [show (!underB ys[j].path path) = true from HV.out]; have HB2 := Lib.hid hb2; clear hb2)
        go_roundw
        case rel =>
          have ho2 : OwnAt kEvent 41 g c w2 ys := hoy.move kEvent_plain ((HB2.out.block g (by simp; omega)).trans (HB1.out.block g hglt))
          exact ⟨i, j + 1, ys, rfl, by go_num, by omega, by omega, ho2, del_drop HY.out hlt HV.out, (ht.then_below HB1.out).then_below HB2.out⟩
        case measure => simp [intOf]; omega
    · obtain rfl : j = xs.length := by omega
      have hiy : i < ys.length := by have := HY.out.1; omega
      obtain ⟨w3, hrun, ho3, ht3⟩ := hoy.clear kEvent_plain i hiy (P := Tryd.prog) 29 0 _ Tryd.underlying29 zeroEv rfl (by intro u hu; simp [Value.cells] at hu; rcases hu with rfl | rfl | rfl | rfl | rfl <;> rfl) (c - i)
      rw [HY.out.1, kEvent_sz] at hrun
      have hlen : ys.take i = xs.filter (fun x => !evOut path x) := by have := HY.out.2.1; rwa [List.take_of_length_le (Nat.le_refl _)] at this
      have hli : (xs.filter (fun x => !evOut path x)).length = i := by rw [← hlen, List.length_take, Nat.min_eq_left (by omega)]
      have HF := Lib.hid (show OwnAt kEvent 41 g c w3 (xs.filter (fun x => !evOut path x)) ∧ Turn (fun k => k = g) w w3 from ⟨by rw [← hlen]; exact ho3, ht.trans (ht3.mono fun k _ h => .inl h)⟩)
      have HL := Lib.hid hli
      have hic : ¬ c = i := by omega
      clear hlen hli ho3 ht3
      go_wp2
      go_ret
      exact ⟨by rw [HL.out]; rfl, HF.out⟩

theorem filter_none {p : Ev → Bool} {xs : List Ev} (h : idxFn p xs = -1) : xs.filter (fun x => !p x) = xs := by
  rw [List.filter_eq_self]
  intro x hx
  unfold idxFn at h
  split at h
  · omega
  · rename_i hk
    rw [List.findIdx?_eq_none_iff] at hk
    simpa using hk x hx
theorem idxFn_cases {p : Ev → Bool} (xs : List Ev) : idxFn p xs = -1 ∨ ∃ i : Nat, idxFn p xs = i := by
  unfold idxFn
  split
  · exact .inr ⟨_, rfl⟩
  · exact .inl rfl

/-- the row that DeleteFunc leaves -/
def DelEv (w : World) (v : Value) (ys : List Ev) (e : Ending) (w' : World) : Prop :=
  ∃ A c, e = .returned (.slice A ys.length c) ∧ Own kEvent 41 0 (fun _ => True) w' (.slice A ys.length c) ys ∧ (Value.slice A ys.length c).ownBlock = v.ownBlock ∧ Turn (fun k => v.ownBlock = some k) w w'
theorem DelEv.mk_ {w w' : World} {v v' : Value} {ys : List Ev} (ho : Own kEvent 41 0 (fun _ => True) w' v' ys) (hv : v'.ownBlock = v.ownBlock) (ht : Turn (fun k => v.ownBlock = some k) w w') : DelEv w v ys (.returned v') w' := by
  obtain ⟨A, c, rfl, _⟩ := ho.row
  exact ⟨A, c, rfl, ho, hv, ht⟩
set_option maxRecDepth 100000 in
theorem evDeleteFunc_any (base : Nat) (P : Nat → Prop) (v : Value) (gp : Nat) (xs : List Ev) (path : ByteArray) (w : World) (hm : Ml w) (hp : w.cell? ⟨gp, 0, none⟩ = some (.string path)) (ho : Own kEvent 41 base P w v xs) (hgp : v.ownBlock ≠ some gp) (hgm : v.ownBlock ≠ some 2) :
    Calls Tryd.prog 60 #[v, .func (.func 62) #[] #[.pointer (some ⟨gp, 0, none⟩)]] w (DelEv w v (xs.filter fun x => !evOut path x)) := by
  obtain ⟨A, c, hv, hle, hmx, hrow⟩ := ho.row
  unfold maxLen at hmx
  rcases idxFn_cases (p := evOut path) xs with hi | ⟨i, hi⟩
  · have hfin : ∀ w', Below w.heap.size w w' → DelEv w v (xs.filter fun x => !evOut path x) (.returned v) w' := fun w' hb =>
      DelEv.mk_ (by rw [filter_none hi]; exact ((ho.below hb).plain kEvent_plain).lower (Nat.zero_le _)) rfl (Turn.of_below hb)
    have HF := Lib.hid hfin
    have HI := Lib.hid hi
    have hrow' := hrow
    clear hfin hi hrow
    subst hv
    go_enter Tryd.func60, Tryd.ntmps60
    go_wp2_with (go_at_call 86; refine (evIndexFunc_any A c gp _ xs path _ hm hp hrow' (by omega)).mono ?_; rintro e w1 ⟨rfl, hb⟩; rw [HI.out]; have HB := Lib.hid hb; clear hb)
    go_ret
    exact HF.out _ HB.out
  · have hlt := idxFn_lt hi
    obtain ⟨cells, hown, hf⟩ := ho
    rcases hown.2 with ⟨rfl, h0⟩ | ⟨g, cap, cur, rfl, hb, hg, h1, h2, h3, h4⟩
    · omega
    · obtain rfl : cap = c := by injection hv
      have hat : OwnAt kEvent 41 g cap w xs := OwnAt.of_own ⟨cells, hown, hf⟩
      refine (evDeleteFunc_some g cap gp xs path w hm hp hat (fun e => hgp (by rw [e]; rfl)) (fun e => hgm (by rw [e]; rfl)) i hi).mono ?_
      rintro e w' ⟨rfl, hat', ht⟩
      exact DelEv.mk_ (hat'.own (Nat.zero_le _)) rfl (ht.mono fun k _ hk => by rw [hk]; rfl)
end Go.Proofs.YtdchffghgajbfaaDoor
