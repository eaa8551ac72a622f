/- WatchApart at arguments of small bulk. -/
import Derived.Test.YtdchffghgajbfaaDoorR3
import Derived.Test.YtdchffghgajbfaaDoorW13
namespace Go.Proofs.YtdchffghgajbfaaDoor
open Go.ChangeShapes Go.WideShapes Go.ChangeAt Go.RowKit Go.Deep


def wtS (s : ByteArray) : Nat := s.size + 1
theorem dec_strW : TDecW Tryd.prog 9 Kn.str wtS := by
  refine ⟨by kernel_rfl, ?_⟩
  intro H enc w base sp held fuel cs x h hl
  have hl : cs.length = 1 := hl
  match cs, hl with
  | [v], _ =>
    obtain ⟨s, e, z, _⟩ := DataW.trod_string Tryd.underlying9 h
    cases e
    exact ⟨s, rfl, by rw [z]; simp only [Rows.uptoBulk, wtS, data_len]; omega⟩
theorem dec_strsW : TDecW Tryd.prog 84 (Kn.slice Kn.str) (wtL wtS) := dec_strW.slice Tryd.underlying84 (by kernel_rfl)
theorem wtS_len (l : List ByteArray) : l.length ≤ (l.map wtS).sum := by
  induction l with
  | nil => simp
  | cons e l ih => rw [List.map_cons, List.sum_cons, List.length_cons]; unfold wtS at *; omega
theorem names_of (xs : List ByteArray) : (xs.map fun s => s.data.toList).map mkB = xs := by
  rw [List.map_map]
  conv => rhs; rw [← List.map_id xs]
  exact List.map_congr_left fun s _ => data_mkB s
theorem watchApart_arg (A B : Option Addr) (c c2 : Nat) (P1 P2 : Nat → Prop) (l : List (List Ev)) (xs : List ByteArray) (w : World) (he : Env w) (hr1 : Row (Kn.slice kEvent) P1 w A l) (hr2 : Row Kn.str P2 w B xs) (hl : l.length ≤ 9223372036854775807) (h1 : wtL wtS xs ≤ 1048576) :
    Calls Tryd.prog 13 #[.slice A l.length c, .slice B xs.length c2] w fun e w' => e = .returned (.bool true) ∧ Below w.heap.size w w' := by
  have hl1 := wtS_len xs
  unfold wtL at h1
  have hlen : (xs.map fun s => s.data.toList).length = xs.length := List.length_map _
  have := watchApart_walk A c P1 l B c2 P2 (xs.map fun s => s.data.toList) w he hr1 hl (by rw [names_of]; exact hr2) (by omega) (fun t ht => ?_)
  · rwa [hlen] at this
  · obtain ⟨s, hs, rfl⟩ := List.mem_map.1 ht
    have := sum_mem wtS hs
    rw [data_len]
    unfold wtS at this h1
    omega
end Go.Proofs.YtdchffghgajbfaaDoor
