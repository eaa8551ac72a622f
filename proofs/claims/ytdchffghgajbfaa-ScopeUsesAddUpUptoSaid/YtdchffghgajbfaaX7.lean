/- Parts that are alike; an append that leaves the old row. -/
import Derived.Test.YtdchffghgajbfaaX6
import Derived.Deep.RegionWith
namespace Go.Proofs.Ytdchffghgajbfaa
open Go.RowKit

section
variable {P : Program} {w : World} {α : Type} {d : Kn α} {t e : TypeId} {bytes : Nat}
theorem run_app_keep (I : Elem P t e d bytes) (hd : d.Plain) (base : Nat) (ty : TypeId) {R S : Nat → Prop} {v : Value} {xs ys : List α} (hown : Own d e base R w v xs)
    {A : Option Addr} {c : Nat} (hr : Row d S w A ys) (hne : ys ≠ []) (hb : (xs.length + ys.length) * bytes ≤ 140737488355328) (hbase : base ≤ w.heap.size) :
    ∃ v' w', (Builtin.append_ #[t, t] ty #[v, .slice A ys.length c]).run P w = .ok v' w' ∧ Appended d e base R w w' v v' (xs ++ ys) ∧ Own d e base R w' v xs := by
  obtain ⟨v', w', hrun, ha⟩ := run_app_plain I hd base ty hown hr hb hbase
  obtain ⟨i, z, h1, h2, h3, h4, h5⟩ := I.info
  obtain ⟨cells, ho, hf⟩ := hown
  obtain ⟨ad, rfl, _, news, hf2, hc2⟩ := hr hne
  have ho' : w.ownsRow base e i.size v xs.length cells := by rw [h3]; exact ho
  have := run_append_keep (P := P) w base t ty e i z I.und h1 h2 (by rw [h3]; exact d.pos) v xs.length cells ho' ad ys.length c news (by rw [h3]; exact hf2.1) hc2 hf2.one (len_ok I.pos hb) (by rw [h4]; exact hb) hrun
  rw [h3] at this
  exact ⟨v', w', hrun, ha, cells, this, hf.plain hd⟩
variable {ops : Array Oper} {rest : List Oper} {o : Oper} {a : Act} {Q : Exit → Act → World → Prop}
theorem wpList_app_keep (I : Elem P t e d bytes) (hd : d.Plain) (base : Nat) (hgd : o.guard = none) (s x : Operand) (ho : o.op = .call { callee := .builtin .append, args := #[s, x], argTypes := #[t, t] })
    {R S : Nat → Prop} {v : Value} {xs ys : List α} (hs : a.eval s = v) (hown : Own d e base R w v xs) {A : Option Addr} {m c : Nat} (hx : a.eval x = .slice A m c) (hm : m = ys.length) (hr : Row d S w A ys) (hne : ys ≠ [])
    (hb : (xs.length + ys.length) * bytes ≤ 140737488355328) (hbase : base ≤ w.heap.size)
    (h : ∀ A' c' w', Appended d e base R w w' v (.slice A' (xs.length + ys.length) c') (xs ++ ys) → Own d e base R w' v xs → wpList P ops Q rest (a.put o.dst (.slice A' (xs.length + ys.length) c')) w') : wpList P ops Q (o :: rest) a w := by
  subst hm
  obtain ⟨v', w', hrun, ha, hk⟩ := run_app_keep I hd base o.type hown hr hne hb hbase
  obtain ⟨A', c', hv', _⟩ := ha.own.row
  rw [List.length_append] at hv'
  subst hv'
  exact wpList_plain hgd fun _ hK => wp_of_run s x ho hs hx hrun (hK _ _ (h A' c' w' ha hk))
end

end Go.Proofs.Ytdchffghgajbfaa
