/- The ledger's rows, sorted. -/
import Derived.Test.YtalkdddeiebfmaaGreatDoorJ17
import Derived.Test.YtalkdddeiebfmaaGreatDoorSort2
import Derived.Shelf.SlSortCmp.WholeK
namespace Go.Proofs.YtalkdddeiebfmaaGreatDoor
open Go.RowKit Go.Sort Go.Shelf Go.Lib

theorem D.Below.grows {w w' : World} (h : D.Below w.heap.size w w') : ∃ q os', w' = grow (w.drewN q) os' := by
  obtain ⟨⟨h1, h2, h3, h4, h5⟩, h6⟩ := h
  refine ⟨w'.drawn - w.drawn, w'.heap.extract w.heap.size w'.heap.size, ?_⟩
  have hh : w'.heap = w.heap ++ w'.heap.extract w.heap.size w'.heap.size := by
    apply Array.ext_getElem?
    intro i
    rw [Array.getElem?_append]
    by_cases hi : i < w.heap.size
    · rw [if_pos hi]; exact h5 i hi
    · rw [if_neg hi, Array.getElem?_extract]
      by_cases h7 : i < w'.heap.size
      · rw [if_pos (by omega)]; congr 1; omega
      · rw [if_neg (by omega)]; exact Array.getElem?_eq_none (by omega)
  have hd : w.drawn + (w'.drawn - w.drawn) = w'.drawn := by omega
  cases w
  cases w'
  simp only [grow, World.drewN] at *
  subst h1
  subst h2
  subst h3
  rw [hd]
  congr 1
theorem sortWorld_block {α : Type} [Inhabited α] (f : α → List Value) (k : Nat) (w : World) (blk off m : Nat) (dk : Array α) (os : Array Obj) (i : Nat) (hi : i < w.heap.size) (hne : i ≠ blk) : (sortWorldK f k w blk off m dk os).heap[i]? = w.heap[i]? := by
  have hs : (putRowK f k (Sort.ahead w m) blk off dk).heap.size = w.heap.size := by rw [size_putRowK]; rfl
  unfold sortWorldK grow
  simp only
  rw [Array.getElem?_append, if_pos (by rw [hs]; exact hi)]
  unfold putRowK putRow mapBlock
  simp only
  rw [Array.getElem?_modify, if_neg (fun e => hne e.symm)]
  rfl
instance instInhabitedSh : Inhabited Sh := ⟨((⟨#[]⟩, (0, 0), ⟨#[]⟩), 0)⟩
set_option maxRecDepth 100000 in
theorem useSort_any {base n : Nat} {A : Option Addr} {M : List Sh} {nm : Nat} (hnm : M.length = nm) (w : World) (hml : Ml w) (hbase : 1 < base) (hown : Own kSh 49 base (fun _ => False) w (.slice A nm n) M) (hM : M ≠ []) (hlen : M.length < 4611686018427387904) :
    Calls Tryz.prog 31 #[.slice A nm n, .func (.func 32) #[] #[]] w fun e w' => e = .returned (.tuple #[]) ∧ ∃ R : List Sh, Own kSh 49 base (fun _ => False) w' (.slice A nm n) R ∧ R.Perm M ∧ R.Pairwise (fun x y => ¬ cmpU y x < 0) ∧ w.grownBy w' (Value.slice A nm n).ownBlock := by
  subst hnm
  obtain ⟨cells, ho, hf⟩ := hown
  rcases ho.2 with ⟨-, h0⟩ | ⟨g, cap, cur, hv, hg, hb, hnc, hcap, hcs, htk⟩
  · exact absurd (List.length_eq_zero_iff.1 h0) hM
  · cases hv
    have hff : Flat kSh (fun _ => False) w M (flatK Sh.cells 5 M.toArray).toList := by
      have := flat_flatK (f := Sh.cells) (n := 5) (hn := by omega) (hl := fun _ => rfl) (h1 := fun x u hu => by simp [Sh.cells] at hu; rcases hu with rfl | rfl | rfl | rfl | rfl <;> rfl) (fun _ => False) w M.toArray
      exact this
    have hflat : cells = (flatK Sh.cells 5 M.toArray).toList := flat_unique (f := Sh.cells) (n := 5) hf hff
    have hH : HoldsK Sh.cells 5 w g 0 M.toArray := holds_of_blockK hb (by rw [← hflat]; have h := htk; rw [show kSh.sz = 5 from rfl] at h; simpa using h)
    have eg : ∀ args w, (callFunc 32 args).run Tryz.prog w = .ok (.enter 32 args) w := enters_of Tryz.func32 (by kernel_rfl) rfl
    have hblk : g < w.heap.size := (Array.getElem?_eq_some_iff.1 hb).1
    have hcmp : CmpLays Tryz.prog 32 #[] Sh.cells 5 cmpU g 0 M.toArray.size w := fun m os dk _ x y => by
      have hm2 : Ml (sortWorldK Sh.cells 5 w g 0 m dk os) := by
        obtain ⟨z, hz⟩ := hml
        refine ⟨z, ?_⟩
        rw [World.cell?_of_block (w := w) (sortWorld_block _ _ _ _ _ _ _ _ _ (World.block_lt_of_cell? w _ hz) (by show (1 : Nat) ≠ g; omega))]
        exact hz
      exact (rowsFn_any x y _ hm2).mono fun e w' ⟨h1, h2⟩ => ⟨h1, h2.grows⟩
    have hcon := AnyQ.slices_SortFunc Tryz.sortU 5 Tryz.isAgg49 Tryz.sizeOf49 Sh.cells (fun _ => rfl) (fun x v hv => by simp [Sh.cells] at hv; rcases hv with rfl | rfl | rfl | rfl | rfl <;> rfl) cmpU tot_cmpU.swo 32 #[] g 0 n M.toArray w eg hcmp hH hblk (by simpa using hlen)
    change Calls Tryz.prog 31 _ _ _ at hcon
    rw [show M.toArray.size = M.length by simp] at hcon
    refine hcon.mono ?_
    rintro e w' ⟨rfl, d', m, os, h1, h2, rfl⟩
    have hsz : d'.size = M.length := by simpa using h1.1
    refine ⟨rfl, d'.toList, ?_, ?_, ?_, grownBy_sortedK _⟩
    · have := own_sortedK (f := Sh.cells) (k := 5) (hk := by omega) (hl := fun _ => rfl) (h1 := fun x u hu => by simp [Sh.cells] at hu; rcases hu with rfl | rfl | rfl | rfl | rfl <;> rfl) (n := m) (os := os) (d := M.toArray) (d' := d') (fun _ => False) (by simpa using h1.1) hg hb (by simpa using hnc) hcap hcs
      rw [show M.toArray.size = M.length by simp] at this
      exact this
    · have h3 := h1.2.2
      rw [show (d'.extract 0 M.length) = d' by rw [← hsz]; exact Array.extract_size, show (M.toArray.extract 0 M.length) = M.toArray by have : M.toArray.size = M.length := by simp
                                                                                                                                        rw [← this]; exact Array.extract_size] at h3
      simpa using h3
    · rw [List.pairwise_iff_getElem]
      intro i j hi hj hij
      have hi' : i < d'.size := by simpa using hi
      have hj' : j < d'.size := by simpa using hj
      have := h2 i j (Nat.zero_le _) hij (by omega)
      rw [getElem!_pos d' j hj', getElem!_pos d' i hi'] at this
      simpa [ltOf] using this
/-- a list that holds all sums that are not 0, each once, sorted -/
theorem rowsOf_sorted {S : Pl → Int} {M R : List Sh} (hp : R.Perm M) (hs : R.Pairwise (fun x y => ¬ cmpU y x < 0)) (hm : ∀ x : Sh, x ∈ M ↔ S x.1 ≠ 0 ∧ x.2 = S x.1) (hn : M.Nodup) (hpath : ∀ x, S x ≠ 0 → isPath x.1 = true) : RowsOf S R := by
  have hmem : ∀ x : Sh, x ∈ R ↔ S x.1 ≠ 0 ∧ x.2 = S x.1 := fun x => by rw [hp.mem_iff, hm]
  refine ⟨?_, hmem⟩
  have hnR : R.Nodup := hp.nodup_iff.2 hn
  rw [List.nodup_iff_pairwise_ne] at hnR
  refine (List.Pairwise.imp_of_mem ?_ (hs.and hnR) : R.Pairwise _)
  rintro a b ha hb ⟨h1, h2⟩
  have s1 := tot_cmpU.sym a b
  have s2 := tot_cmpU.sym b a
  by_cases h : cmpU a b < 0
  · exact h
  · exfalso
    have h0 : cmpU a b = 0 := by omega
    have ha' := (hmem a).1 ha
    have hb' := (hmem b).1 hb
    have e := cmpU_zero (hpath _ ha'.1) (hpath _ hb'.1) h0
    apply h2
    obtain ⟨x, v⟩ := a
    obtain ⟨y, u⟩ := b
    simp only at e ha' hb'
    subst e
    rw [ha'.2, hb'.2]
end Go.Proofs.YtalkdddeiebfmaaGreatDoor
