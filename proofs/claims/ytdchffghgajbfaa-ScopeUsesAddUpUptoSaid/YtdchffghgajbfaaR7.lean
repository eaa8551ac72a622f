/- The second form's bound on what the scope laws read. -/
import Derived.Test.YtdchffghgajbfaaR6
import Derived.Test.YtdchffghgajbfaaV3
namespace Go.Proofs.Ytdchffghgajbfaa
open Go.ChangeShapes Go.WideShapes Go.ChangeAt Go.RowKit Go.Deep

theorem bulk_mem {H : Type} : ∀ {ds : List (DataW H)} {d : DataW H}, d ∈ ds → Rows.uptoBulk d ≤ Rows.uptoBulkAll ds
  | x :: ds, d, h => by
    rcases List.mem_cons.1 h with rfl | h
    · simp only [Rows.uptoBulkAll]; omega
    · have := bulk_mem h
      simp only [Rows.uptoBulkAll]; omega
theorem sum_le_all {α H : Type} {wt : α → Nat} : ∀ (ys : List α) (es : List (DataW H)), es.length = ys.length → (∀ i (h : i < ys.length) (h' : i < es.length), wt ys[i] ≤ Rows.uptoBulk es[i]) → (ys.map wt).sum ≤ Rows.uptoBulkAll es
  | [], _, _, _ => by simp
  | y :: ys, e :: es, hl, hr => by
    have h1 := hr 0 (by simp) (by simp)
    have h2 := sum_le_all ys es (by simpa using hl) (fun i h h' => hr (i + 1) (by simpa using h) (by simpa using h'))
    simp only [List.map_cons, List.sum_cons, Rows.uptoBulkAll]
    simp only [List.getElem_cons_zero] at h1
    omega
section
variable {α H : Type} {r : ∀ H : Type, α → DataW H → Prop} {ys : List α} {D : DataW H}
theorem RL.bulk (h : RL r H ys D) (wt : α → Nat) (hr : ∀ y d, r H y d → wt y ≤ Rows.uptoBulk d) : (ys.map wt).sum ≤ Rows.uptoBulk D := by
  rcases h with ⟨rfl, rfl⟩ | ⟨es, rest, rfl, hl, hi⟩
  · simp
  · have := sum_le_all (wt := wt) ys es hl (fun i h h' => hr _ _ (hi i h h'))
    simp only [Rows.uptoBulk]; omega
theorem RL.mem (h : RL r H ys D) : ∀ y ∈ ys, ∃ d, r H y d ∧ Rows.uptoBulk d ≤ Rows.uptoBulk D := by
  rcases h with ⟨rfl, rfl⟩ | ⟨es, rest, rfl, hl, hi⟩
  · simp
  · intro y hy
    obtain ⟨i, hi', rfl⟩ := List.getElem_of_mem hy
    refine ⟨_, hi i hi' (by omega), ?_⟩
    have := bulk_mem (List.getElem_mem (l := es) (n := i) (by omega))
    simp only [Rows.uptoBulk]; omega
end
def wtA (a : Amt) : Nat := a.name.size + 3
def wtP (p : PartV) : Nat := (p.req.map wtA).sum + (p.lim.map wtA).sum + 1
theorem rAmt_bulk {H : Type} (y : Amt) (d : DataW H) (h : rAmt H y d) : wtA y ≤ Rows.uptoBulk d := by
  obtain ⟨rfl, _⟩ := h
  simp only [Rows.uptoBulk, Rows.uptoBulkAll, wtA, data_len]; omega
theorem rPart_bulk {H : Type} (y : PartV) (d : DataW H) (h : rPart H y d) : wtP y ≤ Rows.uptoBulk d := by
  obtain ⟨D1, D2, rfl, h1, h2⟩ := h
  have := h1.bulk wtA rAmt_bulk
  have := h2.bulk wtA rAmt_bulk
  simp only [Rows.uptoBulk, Rows.uptoBulkAll, wtP]; omega
theorem len_le_sum {α : Type} {wt : α → Nat} (hw : ∀ a, 1 ≤ wt a) : ∀ l : List α, l.length ≤ (l.map wt).sum
  | [] => by simp
  | a :: l => by
    have := len_le_sum hw l
    have := hw a
    simp only [List.length_cons, List.map_cons, List.sum_cons]; omega
theorem allB_len_le : ∀ ps : List PartV, (allB ps).length ≤ (ps.map wtP).sum
  | [] => by simp [allB]
  | p :: ps => by
    have h1 := allB_len_le ps
    have h2 := len_le_sum (wt := wtA) (fun a => by unfold wtA; omega) p.req
    have h3 := len_le_sum (wt := wtA) (fun a => by unfold wtA; omega) p.lim
    have he : allB (p :: ps) = (p.req.map (preB reqB) ++ p.lim.map (preB limB)) ++ allB ps := by simp [allB]
    rw [he]
    simp only [List.length_append, List.length_map, List.map_cons, List.sum_cons, wtP]
    omega
/-- what is read is small: all amounts can be laid, no name is too long -/
theorem ObjRead.few {H : Type} {w : World} {v : Value} {x : DataW H} {o : ObjV} {A : Option Addr} {c : Nat} {ls : List LabV} {B : Option Addr} {m : Nat} {D2 D5 : DataW H} (h : ObjRead w v x o A c ls B m D2 D5) (hk : Rows.uptoBulk x ≤ 1048576) :
    NamesOk o.parts ∧ (allB o.parts).length ≤ 1048576 := by
  have h5 : Rows.uptoBulk D5 ≤ 1048576 := by
    rw [h.dat] at hk
    simp only [Rows.uptoBulk, Rows.uptoBulkAll] at hk
    omega
  refine ⟨fun p hp => ?_, ?_⟩
  · obtain ⟨d, ⟨D1, D3, rfl, h1, h3⟩, hd⟩ := h.rp.mem p hp
    simp only [Rows.uptoBulk, Rows.uptoBulkAll] at hd
    refine ⟨fun a ha => ?_, fun a ha => ?_⟩
    · obtain ⟨e, he, hb⟩ := h1.mem a ha
      have := rAmt_bulk a e he
      unfold wtA at this
      exact ⟨by omega, he.2.1, he.2.2⟩
    · obtain ⟨e, he, hb⟩ := h3.mem a ha
      have := rAmt_bulk a e he
      unfold wtA at this
      exact ⟨by omega, he.2.1, he.2.2⟩
  · exact Nat.le_trans (allB_len_le _) (Nat.le_trans (h.rp.bulk wtP rPart_bulk) h5)
theorem bulk_bound {H : Type} {l : List (DataW H)} (hk : Rows.uptoSmall H l = true) : Rows.uptoBulkAll l ≤ 1048576 := of_decide_eq_true hk
end Go.Proofs.Ytdchffghgajbfaa
