/- How many objects stand under the root; how many shares an object has. -/
import Derived.Test.YtalkdddeiebfmaaGreatDoorJ27
namespace Go.Proofs.YtalkdddeiebfmaaGreatDoor

theorem cvL_one {l : List ByteArray} {p : ByteArray} (hn : l.Nodup) (h : p ∈ l) : cvL l p = 1 := by
  induction l with
  | nil => cases h
  | cons q l ih =>
    rw [List.nodup_cons] at hn
    show (if q = p then 1 else 0) + cvL l p = 1
    rcases List.mem_cons.1 h with rfl | h
    · rw [if_pos rfl, cvL_out hn.1]; rfl
    · rw [if_neg (fun e : q = p => hn.1 (by rw [e]; exact h)), ih hn.2 h]; rfl
theorem lineB_root {p : ByteArray} (hp : isPath p = true) : (⟨#[47]⟩ : ByteArray) ∈ lineB p := by
  unfold lineB
  rw [if_pos hp, mem_lineTo]
  exact ⟨0, Nat.zero_le _, rfl⟩
theorem shares_path {o : ObjV} (h : (sharesV o).2.2 = 0) : isPath o.path = true ∧ (usesV o.parts).2 = 0 ∧ sharesV o = (lineB o.path, sharesU (lineB o.path) (ofS o 6) (usesU o), 0) := by
  unfold sharesV at h ⊢
  split at h
  · rename_i hp
    rw [if_pos hp]
    split at h
    · rename_i he
      rw [if_pos he]
      exact ⟨hp, he, rfl⟩
    · rename_i he; exact absurd h he
  · exact absurd h (by decide)
theorem root_one {o : ObjV} (h : (sharesV o).2.2 = 0) : cvL (sharesV o).1 ⟨#[47]⟩ = 1 := by
  obtain ⟨h1, -, h2⟩ := shares_path h
  rw [h2]
  exact cvL_one (lineB_nodup _) (lineB_root h1)
/-- objects that are charged stand under the root, each once -/
theorem root_count : ∀ {os : List ObjM} {S S' : Pl → Int} {C C' : ByteArray → Int}, ofV S C os = (0, S', C') → C' ⟨#[47]⟩ = C ⟨#[47]⟩ + os.length
  | [], S, S', C, C', h => by
    have e2 : C = C' := congrArg (fun r => r.2.2) h
    subst e2
    simp
  | o :: os, S, S', C, C', h => by
    unfold ofV at h
    split at h
    · rename_i h1; exact absurd (congrArg Prod.fst h) h1
    · rename_i h1
      obtain ⟨⟨z, S1, C1⟩, hc⟩ : ∃ r, chargeV S C o.v = r := ⟨_, rfl⟩
      rw [hc] at h h1
      obtain rfl : z = 0 := Decidable.of_not_not h1
      obtain ⟨hz, -, rfl, rfl⟩ := chargeV_acc hc
      have ih := root_count h
      simp only [addC_cvL, root_one hz] at ih
      rw [ih, List.length_cons]; omega
/-- an object's weight by its amounts -/
theorem objWt_amts (o : ObjM) : objWt o ≤ 10 + 54 * ((allB o.parts).length + 1) := by
  unfold objWt sharesV
  split
  · split
    · have h1 := sharesU_len (lineB o.v.path) (ofS o.v 6) (usesU o.v)
      have h2 := lineB_len o.v.path
      have h3 := ofS_len6 o.v
      have h4 : (usesU o.v).length ≤ (allB o.parts).length + 1 := by
        unfold usesU
        rw [List.length_map]
        exact usesV_len o.parts
      have h5 : (ofS o.v 6).length * (usesU o.v).length ≤ 6 * ((allB o.parts).length + 1) := Nat.mul_le_mul h3 h4
      have h6 : (lineB o.v.path).length * ((ofS o.v 6).length * (usesU o.v).length) ≤ 9 * (6 * ((allB o.parts).length + 1)) := Nat.mul_le_mul h2 h5
      simp only
      omega
    · simp
      omega
  · simp
    omega
end Go.Proofs.YtalkdddeiebfmaaGreatDoor
