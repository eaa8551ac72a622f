/- scope.Uses in plain words: the sums while they grow; what a walk over the map has met. -/
import Derived.Test.YtdchffghgajbfaaV1
import Derived.Test.YtdchffghgajbfaaG0
namespace Go.Proofs.Ytdchffghgajbfaa
open Go.RowKit Go.Maps Go.WideMaps

theorem sumsA_append (S : List (Key × Int)) (l r : List (Key × Int)) : sumsA S (l ++ r) = (sumsA S l).bind fun T => sumsA T r := by
  induction l generalizing S with
  | nil => rfl
  | cons a l ih =>
    simp only [List.cons_append, sumsA]
    split
    · rfl
    · exact ih _
def sums0 : List (Key × Int) := [(countK, 1000)]
/-- the sums behind j amounts; the map holds just these -/
structure SumAt {H : Type} (L : List (Key × Int)) (j : Nat) (D : DataW H) (S : List (Key × Int)) : Prop where
  rel : ValRel D S
  asc : AscK S
  sum : sumsA sums0 (L.take j) = some S
  pos : ∀ x, 0 ≤ getK x S ∧ getK x S ≤ 9223372036854775807
  cnt : countK ∈ S.map Prod.fst
section
variable {H : Type} {D : DataW H} {L S : List (Key × Int)} {j : Nat}
theorem SumAt.start (L : List (Key × Int)) : SumAt (H := H) L 0 (DataW.put (.map []) (.string countK) (.lit (.int .i64 1000))) sums0 := by
  refine ⟨ValRel.empty.put countK 1000, List.pairwise_singleton _ _, by simp [sumsA], fun x => ?_, by simp [sums0]⟩
  have := getK_addK countK 1000 [] x
  show 0 ≤ getK x (addK countK 1000 []) ∧ getK x (addK countK 1000 []) ≤ _
  rw [this]
  split
  · omega
  · simp [getK]
theorem SumAt.look (h : SumAt L j D S) (x : Key) {c : Int} (hc : D.atKey (.string x) (.lit (.int .i64 0)) = .lit (.int .i64 c)) : c = getK x S := by
  have := h.rel.look (fun x z hz => atKey_of_not_has hz z) x
  rw [hc] at this
  cases this
  rfl
theorem SumAt.over (h : SumAt L j D S) (hj : j < L.length) (ho : getK L[j].1 S > 9223372036854775807 - L[j].2) : sumsA sums0 L = none := by
  have h1 : L = L.take j ++ L[j] :: L.drop (j + 1) := by rw [← List.drop_eq_getElem_cons hj, List.take_append_drop]
  rw [h1, sumsA_append, h.sum]
  show sumsA S (L[j] :: L.drop (j + 1)) = none
  simp only [sumsA]
  rw [if_pos ho]
theorem SumAt.step (h : SumAt L j D S) (hj : j < L.length) {k : Key} {v : Int} (hk : L[j] = (k, v)) (hv : 0 ≤ v) (ho : ¬ getK k S > 9223372036854775807 - v) :
    SumAt L (j + 1) (D.put (.string k) (.lit (.int .i64 (getK k S + v)))) (addK k (getK k S + v) S) := by
  refine ⟨h.rel.put _ _, addK_asc _ _ _ h.asc, ?_, fun x => ?_, (addK_keys _ _ _ _).2 (.inr h.cnt)⟩
  · rw [List.take_succ_eq_append_getElem hj, sumsA_append, h.sum, hk]
    show sumsA S [(k, v)] = _
    simp only [sumsA]
    rw [if_neg ho]
  · rw [getK_addK]
    have := h.pos k
    split
    · omega
    · exact h.pos x
end
theorem ascK_nodup {S : List (Key × Int)} (h : AscK S) : (S.map Prod.fst).Nodup := by
  refine List.pairwise_map.2 (h.imp ?_)
  intro p q hpq e
  rw [e] at hpq
  exact absurd hpq (List.lt_irrefl _)
theorem getK_mem : ∀ {S : List (Key × Int)}, AscK S → ∀ p ∈ S, getK p.1 S = p.2
  | [], _, p, hp => by simp at hp
  | q :: S, h, p, hp => by
    unfold getK
    rcases List.mem_cons.1 hp with rfl | hp'
    · rw [List.find?_cons_of_pos (by simp)]; rfl
    · have hlt := (List.pairwise_cons.1 h).1 p hp'
      have hne : q.1 ≠ p.1 := fun e => by rw [e] at hlt; exact absurd hlt (List.lt_irrefl _)
      rw [List.find?_cons_of_neg (by simpa using hne)]
      exact getK_mem (List.pairwise_cons.1 h).2 p hp'
/-- what the walk over the map has met -/
structure KvC {H : Type} (D : DataW H) (S : List (Key × Int)) (left : Lit → Bool) (M : List Amt) : Prop where
  col : Collected D left ((M.map kvOf).map Prod.fst)
  val : ∀ p ∈ M.map kvOf, p.2 = getK p.1 S
section
variable {H : Type} {D : DataW H} {S : List (Key × Int)} {left : Lit → Bool} {M : List Amt}
theorem KvC.start (D : DataW H) (S : List (Key × Int)) : KvC D S (has D) [] := ⟨Collected.start D, fun p hp => by simp at hp⟩
theorem KvC.step (h : KvC D S left M) (hr : ValRel D S) {x : Key} {c : Int} (hlk : left (.string x) = true) (hat : ∀ zd, D.atKey (.string x) zd = .lit (.int .i64 c)) : KvC D S (fun z => left z && !z.sameKey (.string x)) (M ++ [amtOf (x, c)]) := by
  have hc : c = getK x S := by
    have h1 : has D (.string x) = true := has_true_of_atKey hat
    rw [hr.2.1 x] at h1
    have h2 := hr.2.2 x (of_decide_eq_true h1) (.lit (.int .i64 0))
    rw [hat] at h2
    cases h2; rfl
  refine ⟨?_, fun p hp => ?_⟩
  · have := h.col.step hlk hat
    rw [List.map_append, List.map_append]
    simpa [kvOf, amtOf] using this
  · rw [List.map_append] at hp
    rcases List.mem_append.1 hp with hp | hp
    · exact h.val p hp
    · simp only [List.map_cons, List.map_nil, List.mem_singleton, kv_amt] at hp
      subst hp
      exact hc
theorem KvC.perm (h : KvC D S left M) (hr : ValRel D S) (hS : AscK S) (hl : ∀ kl, left kl = false) : (M.map kvOf).Perm S := by
  have hk : ((M.map kvOf).map Prod.fst).Perm (S.map Prod.fst) := by
    refine (List.perm_ext_iff_of_nodup h.col.1 (ascK_nodup hS)).2 fun x => ?_
    rw [h.col.2 x, hr.2.1 x]
    simp [hl]
  have e1 : ∀ T : List (Key × Int), (∀ p ∈ T, p.2 = getK p.1 S) → T = (T.map Prod.fst).map fun k => (k, getK k S) := by
    intro T hT
    rw [List.map_map]
    conv => lhs; rw [← List.map_id T]
    exact List.map_congr_left fun p hp => by simp [← hT p hp]
  rw [e1 _ h.val]
  conv => rhs; rw [e1 S (fun p hp => (getK_mem hS p hp).symm)]
  exact hk.map _
end

/-- an entry of a map literal -/
theorem wpList_insert_own {H : Type} {P : Program} (w : World) {ops : Array Oper} {rest : List Oper} {o : Oper} {a : Act} {Q : Exit → Act → World → Prop}
    (hg : o.guard = none) (m x v : Operand) (t : TypeId) (hop : o.op = Op.insert t m x v)
    (k e : TypeId) (K : Keyed P k) (ht : P.underlying t = some (.map k e)) (R : Value → Option (DataW H × List MemPlace)) (b n : Nat) (D : DataW H)
    (hm : a.eval m = .map (some b)) (hown : w.ownsMap P k R b n D) (hn : n < maxLen) (key val : Value) (kl : Lit) (hx : a.eval x = key) (hv : a.eval v = val) (hkey : keyOf P k key = some kl)
    (d : DataW H) (ps : List MemPlace) (hval : R val = some (d, ps))
    (hK : ∀ w', w'.ownsMap P k R b (n + 1) (D.put kl d) → w.grownBy w' (some b) → wpList P ops Q rest (a.put o.dst undef) w') :
    wpList P ops Q (o :: rest) a w := by
  refine wpList_plain hg fun K' hK' => ?_
  obtain ⟨w', hrun, r1, r2⟩ := hown.update K ht hn hkey hval
  unfold Oper.wp
  simp [execOp, hop, hm, hx, hv, hrun, Result.andThen]
  exact hK' _ _ (hK w' r1 r2)
end Go.Proofs.Ytdchffghgajbfaa
