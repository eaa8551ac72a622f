/- The first object. -/
import Derived.Test.YtalkdddeiebfmaaGreatDoorJ23
namespace Go.Proofs.YtalkdddeiebfmaaGreatDoor
open Go.RowKit Go.Maps Go.WideMaps

def bs (l : List UInt8) : ByteArray := ⟨l.toArray⟩
def oLive : ObjM := ⟨⟨#[47, 97, 47, 98]⟩, ⟨#[]⟩, [], 0, 0, [⟨⟨#[112]⟩, [⟨⟨#[99, 112, 117]⟩, 500⟩], []⟩], 0⟩
theorem live_z : (sharesV oLive.v).2.2 = 0 := by kernel_rfl
theorem live_len : (sharesV oLive.v).2.1.length = 24 := by kernel_rfl
theorem live_line : (sharesV oLive.v).1 = [⟨#[47, 97, 47, 98]⟩, ⟨#[47, 97]⟩, ⟨#[47]⟩] := by kernel_rfl
theorem live_val : ((sharesV oLive.v).2.1.all fun s => decide (s.2 ≠ 0)) = true := by kernel_rfl
def rcpuB : ByteArray := ⟨#[114, 101, 113, 117, 101, 115, 116, 115, 46, 99, 112, 117]⟩
theorem live_at : svL (sharesV oLive.v).2.1 (⟨#[47, 97]⟩, (0, 0), rcpuB) = 500 := by kernel_rfl
theorem live_cnt : cvL (sharesV oLive.v).1 ⟨#[47]⟩ = 1 := by kernel_rfl
abbrev Z0 : Pl → Int := fun _ => 0
abbrev C0 : ByteArray → Int := fun _ => 0
theorem live_charge : (chargeV Z0 C0 oLive.v).1 = 0 := by kernel_rfl
theorem live_gone : (goneV (addS 1 Z0 (sharesV oLive.v).2.1) (addC 1 C0 (sharesV oLive.v).1) oLive.v).2.2 = 0 := by kernel_rfl
theorem live_parts : oLive.parts = [⟨⟨#[112]⟩, [⟨⟨#[99, 112, 117]⟩, 500⟩], []⟩] := rfl
theorem live_ok : ObjMOk oLive := by
  refine ⟨⟨?_, ?_⟩, by decide, ?_⟩
  · intro p hp
    obtain rfl : p = _ := List.mem_singleton.1 hp
    refine ⟨fun a ha => ?_, fun a ha => by cases ha⟩
    obtain rfl : a = _ := List.mem_singleton.1 ha
    exact ⟨by decide, by decide, by decide⟩
  · show 1 ≤ 1073741824
    omega
  · intro p hp
    obtain rfl : p = _ := List.mem_singleton.1 hp
    exact ⟨by decide, by decide⟩
theorem live_charge_eq : chargeV Z0 C0 oLive.v = (0, addS 1 Z0 (sharesV oLive.v).2.1, addC 1 C0 (sharesV oLive.v).1) := by
  have h1 : (sharesV oLive.v).2.2 = 0 := live_z
  have h2 : judgeA Z0 (sharesV oLive.v).2.1 = 0 := by kernel_rfl
  unfold chargeV
  rw [if_neg (by rw [h1]; simp), if_neg (by rw [h2]; simp)]
theorem release_undoes {S : Pl → Int} {C : ByteArray → Int} {o : ObjV} (hg : (goneV (addS 1 S (sharesV o).2.1) (addC 1 C (sharesV o).1) o).2.2 = 0) : releaseV (addS 1 S (sharesV o).2.1) (addC 1 C (sharesV o).1) o = (0, S, C) := by
  have h1 : (goneV (addS 1 S (sharesV o).2.1) (addC 1 C (sharesV o).1) o).2.1 = (sharesV o).2.1 ∧ (goneV (addS 1 S (sharesV o).2.1) (addC 1 C (sharesV o).1) o).1 = (sharesV o).1 := by
    unfold goneV at hg ⊢
    split at hg
    · rename_i h; exact absurd hg h
    · rename_i h; rw [if_neg h]
      split at hg
      · rename_i h2; exact absurd hg h2
      · rename_i h2; rw [if_neg h2]
        split at hg
        · exact absurd hg (by decide)
        · rename_i h3; rw [if_neg h3]; exact ⟨rfl, rfl⟩
  unfold releaseV
  rw [if_pos hg, h1.1, h1.2]
  refine Prod.ext rfl (Prod.ext (funext fun x => ?_) (funext fun x => ?_))
  · simp only [addS_svL]; omega
  · simp only [addC_cvL]; omega
theorem live_release : releaseV (addS 1 Z0 (sharesV oLive.v).2.1) (addC 1 C0 (sharesV oLive.v).1) oLive.v = (0, Z0, C0) := release_undoes live_gone
theorem rowsOf_nodup {S : Pl → Int} {R : List Sh} (h : RowsOf S R) : R.Nodup := by
  rw [List.nodup_iff_pairwise_ne]
  refine h.1.imp ?_
  rintro a b hab rfl
  have := tot_cmpU.sym a a
  omega
theorem svL_mem {T : List Sh} (hn : (T.map Prod.fst).Nodup) {s : Sh} (hs : s ∈ T) : svL T s.1 = s.2 := by
  induction T with
  | nil => cases hs
  | cons t T ih =>
    rw [List.map_cons, List.nodup_cons] at hn
    show (if t.1 = s.1 then t.2 else 0) + svL T s.1 = s.2
    rcases List.mem_cons.1 hs with rfl | hs
    · rw [if_pos rfl, svL_out hn.1]; omega
    · rw [if_neg (fun e => hn.1 (by rw [e]; exact List.mem_map_of_mem hs)), ih hn.2 hs]; omega
theorem svL_in' {T : List Sh} {x : Pl} (h : svL T x ≠ 0) : x ∈ T.map Prod.fst := Classical.byContradiction fun hn => h (svL_out hn)
/-- the rows of one object's sums: as many as its shares -/
theorem rowsOf_len {T R : List Sh} {S : Pl → Int} (hS : ∀ x, S x = svL T x) (hn : (T.map Prod.fst).Nodup) (h0 : ∀ s ∈ T, s.2 ≠ 0) (h : RowsOf S R) : R.length = T.length := by
  have hT : T.Nodup := by
    have h1 := hn
    rw [List.nodup_iff_pairwise_ne, List.pairwise_map] at h1
    rw [List.nodup_iff_pairwise_ne]
    exact h1.imp fun hab e => hab (by rw [e])
  refine Nat.le_antisymm (nodup_le R T (rowsOf_nodup h) fun x hx => ?_) (nodup_le T R hT fun x hx => ?_)
  · have h1 := (h.2 x).1 hx
    rw [hS] at h1
    obtain ⟨y, hy, e⟩ := List.mem_map.1 (svL_in' h1.1)
    have h2 := svL_mem hn hy
    rw [e, ← h1.2] at h2
    have : y = x := Prod.ext e h2.symm
    rw [← this]; exact hy
  · have h2 := svL_mem hn hx
    refine (h.2 x).2 ⟨?_, ?_⟩
    · rw [hS, h2]; exact h0 x hx
    · rw [hS, h2]
theorem live_so : SharesOk oLive.v (sharesV oLive.v).1 (sharesV oLive.v).2.1 := sharesV_ok live_ok.use (by rw [← live_z])
theorem live_rows {R : List Sh} (h : RowsOf (addS 1 Z0 (sharesV oLive.v).2.1) R) : R.length = 24 := by
  rw [← live_len]
  refine rowsOf_len (fun x => ?_) live_so.nod (fun s hs => ?_) h
  · rw [addS_svL, show Z0 x = 0 from rfl]; omega
  · have := List.all_eq_true.1 live_val s hs
    simpa using this
theorem rowsOf_zero_len {R : List Sh} (h : RowsOf Z0 R) : R.length = 0 := by rw [rowsOf_unique h rowsOf_zero]; rfl
end Go.Proofs.YtalkdddeiebfmaaGreatDoor
