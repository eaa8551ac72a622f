/- Laid together: R0 R5 R6 R7. -/
import Derived.Test.YtalkdddeiebfmaaGreatDoorBA
import Derived.Test.YtalkdddeiebfmaaGreatDoorCards
import Derived.Test.YtalkdddeiebfmaaGreatDoorTie
import Derived.WalkKit
import Derived.ProofKit
import Derived.OpenShut
import Derived.Carry
import Derived.Deep.Slices
import Derived.Deep.Fields
import Derived.Deep.DeepHandedRow
import Derived.Test.YtalkdddeiebfmaaGreatDoorBD
import Derived.Lib.SmallJoins
/- What every row of this seat wants behind its walk: the arguments read again. -/
namespace Go.Proofs.YtalkdddeiebfmaaGreatDoor
open Go.ChangeShapes Go.WideShapes Go.ChangeAt Go.RowKit Go.Deep

/-- the arguments, read again -/
theorem Below.trodAll {H : Type} {enc : TypeId × Value → H} {P : Program} (hl : laidOutB P = true) {W W' : World} (hb : Below W.heap.size W W') :
    ∀ {ts : List TypeId} {vs : List Value} {ds : List (DataW H)} {ps : List MemPlace}, (ts.all fun t => P.readableRec t && decide (t < P.types.size)) = true → (∀ x ∈ ps, x.block < W.heap.size) →
      DataW.TrodAll enc P W 0 (fun _ => true) true ts vs ds ps → DataW.TrodAll enc P W' 0 (fun b => decide (b < W.heap.size)) true ts vs ds ps
  | [], _, _, _, _, _, h => by obtain ⟨rfl, rfl, rfl⟩ := trodAll_nil h; exact trodAll_mk0
  | t :: ts, _, _, _, ht, hlt, h => by
    obtain ⟨v, vs', d, ds', p, q, rfl, rfl, rfl, h1, h2⟩ := trodAll_cons h
    simp only [List.all_cons, Bool.and_eq_true, decide_eq_true_eq] at ht
    exact trodAll_cons_mk (Below.trod hl ht.1.1 ht.1.2 h1 hb fun x hx => hlt x (List.mem_append_left _ hx)) (Below.trodAll hl hb ht.2 (fun x hx => hlt x (List.mem_append_right _ hx)) h2)
theorem own_knob : ownKnob Tryz.prog.godebug = none := by kernel_rfl
theorem laid_out : laidOutB Tryz.prog = true := by kernel_rfl

theorem stands_all {l : List TypeId} (h : (l.all fun t => !(Tryz.prog.wantsStandIn t)) = true) (t : TypeId) (ht : t ∈ l.toArray) : Tryz.prog.wantsStandIn t = false := by
  have := List.all_eq_true.1 h t (by simpa using ht)
  simpa using this
theorem i64_of_wf {n : Int} (h : (Lit.int .i64 n).wf = true) : -9223372036854775808 ≤ n ∧ n ≤ 9223372036854775807 := by
  simp [Lit.wf, IntKind.has, IntKind.min, IntKind.max, IntKind.bits, IntKind.signed] at h
  omega

/-- the law returned true, and all reads as it did -/
theorem post_law {H : Type} {enc : TypeId × Value → H} {W W' : World} {f : Func} {s : ChangeSpec} {args : Array Value} {ds gs : List (DataW H)} {before : List MemPlace}
    (hW : DataW.Whole enc Tryz.prog f.params.toList s.vars false W args.toList ds gs before) (hv : s.vars = []) (hfn : s.fn H ds = { results := [.lit (.bool true)], args := ds }) (hres : f.resultTypes = #[4])
    (hp : (f.params.toList.all fun t => Tryz.prog.readableRec t && decide (t < Tryz.prog.types.size)) = true) (hb : Below W.heap.size W W') : s.post enc Tryz.prog f false true false false W args (.bool true) W' := by
  have hW' := hW
  obtain ⟨p, q, hA, hV, rfl, _, _⟩ := hW
  rw [hv] at hV
  obtain ⟨rfl, rfl⟩ := trodVars_none hV
  have hlt : ∀ x ∈ p, x.block < W.heap.size := fun x hx => hW'.lt x (List.mem_append_left _ hx)
  refine ⟨ds, [], _, [], p, [], hW', ?_, ?_, ?_, hb.frame _, fun h => by cases h⟩
  · rw [List.append_nil, hfn, hres]
    exact trodAll_cons_mk (shut_bool Tryz.underlying4 _) trodAll_mk0
  · rw [List.append_nil, hfn]
    exact Below.trodAll laid_out hb hp hlt hA
  · rw [List.append_nil, hfn, hv]
    exact rfl

end Go.Proofs.YtalkdddeiebfmaaGreatDoor
/- What the rows of the scope laws want: objects and scopes read as Lean values in step with what is read; the weights of lists; the texts. -/
namespace Go.Proofs.YtalkdddeiebfmaaGreatDoor
open Go.ChangeShapes Go.WideShapes Go.ChangeAt Go.RowKit Go.Deep

/-- what a type's reading gives: a Lean value of the kind, in step with what is read -/
structure TRel {α : Type} (P : Program) (e : TypeId) (d : Kn α) (r : ∀ H : Type, α → DataW H → Prop) : Prop where
  cells : P.cellsOf e = d.sz
  dec : ∀ {H : Type} {enc : TypeId × Value → H} {w : World} {base : Nat} {sp : Nat → Bool} {held : Bool} {fuel : Nat} {cs : List Value} {x : DataW H × List MemPlace}, DataW.trod enc P w base sp held fuel e cs = some x → cs.length = d.sz → ∃ y, d.R (fun _ => True) w y cs ∧ r H y x.1
def RL {α : Type} (r : ∀ H : Type, α → DataW H → Prop) (H : Type) (ys : List α) (D : DataW H) : Prop :=
  (D = .nil ∧ ys = []) ∨ ∃ es rest, D = .slice es rest ∧ es.length = ys.length ∧ ∀ i (h : i < ys.length) (h' : i < es.length), r H ys[i] es[i]

theorem row_of_cellsR {α H : Type} {d : Kn α} {r : α → DataW H → Prop} {w : World} {base : Nat} {D : Nat → DataW H} (a : Addr) (len : Nat) (hi : ∀ i, i < len → ∃ cs' y, w.cells? base (a.add (i * d.sz)) d.sz = some cs' ∧ d.R (fun _ => True) w y cs' ∧ r y (D i)) :
    ∀ n, n ≤ len → ∃ (ys : List α) (cs : List Value), ys.length = n ∧ Flat d (fun _ => True) w ys cs ∧ (∀ j u, cs[j]? = some u → w.cell? (a.add j) = some u) ∧ ∀ i (h : i < ys.length), r ys[i] (D i) := by
  intro n
  induction n with
  | zero => exact fun _ => ⟨[], [], rfl, Flat.nil _ _ _, fun j u h => by simp at h, fun i h => by simp at h⟩
  | succ n ih =>
    intro hn
    obtain ⟨ys, cs, h1, h2, h3, h8⟩ := ih (by omega)
    obtain ⟨cs', y, h4, h5, h9⟩ := hi n (by omega)
    obtain ⟨_, h6, h7⟩ := World.cells?_some h4
    refine ⟨ys ++ [y], cs ++ cs', by simp [h1], h2.append (Flat.single h5), fun j u hj => ?_, fun i hi => ?_⟩
    · have hl : cs.length = n * d.sz := by rw [h2.1, h1]
      by_cases hlt : j < cs.length
      · rw [List.getElem?_append_left hlt] at hj; exact h3 j u hj
      · rw [List.getElem?_append_right (by omega)] at hj
        have hj' : j - cs.length < d.sz := by have := (List.getElem?_eq_some_iff.1 hj).1; omega
        have := h7 (j - cs.length) hj'
        rw [Go.Deep.add_add, hl, show n * d.sz + (j - n * d.sz) = j by omega, ← hl, hj] at this
        exact this
    · by_cases hlt : i < ys.length
      · rw [List.getElem_append_left hlt]; exact h8 i hlt
      · have : i = n := by rw [List.length_append] at hi; simp at hi; omega
        subst this
        rw [List.getElem_append_right (by omega)]
        simpa using h9
theorem TRel.slice {α : Type} {P : Program} {t e : TypeId} {d : Kn α} {r : ∀ H : Type, α → DataW H → Prop} (ht : P.underlying t = some (.slice e)) (hd : TRel P e d r) (hc : P.cellsOf t = (Kn.slice d).sz) : TRel P t (Kn.slice d) (RL r) := by
    refine ⟨hc, ?_⟩
    intro H enc w base sp held fuel cs x h hl
    rcases open_slice ht h with ⟨rfl, rfl⟩ | ⟨a, len, cap, m, n, D, Pl, rfl, _, h1, h2, h3, rfl, h4⟩
    · exact ⟨[], ⟨.slice none 0 0, rfl, none, 0, rfl, Nat.le_refl _, Nat.zero_le _, Row.nil _ _ _ _⟩, .inl ⟨rfl, rfl⟩⟩
    · have hm : len ≤ m := by rw [h3]; split <;> omega
      obtain ⟨ys, cs, g1, g2, g3, g4⟩ := row_of_cellsR (d := d) (r := r H) (D := D) a len (fun i hi => by
        obtain ⟨cs', k1, k2⟩ := h4 i (by omega)
        rw [hd.cells] at k1
        obtain ⟨y, hy, hw⟩ := hd.dec k2 (World.cells?_some k1).2.1
        exact ⟨cs', y, k1, hy, hw⟩) len (Nat.le_refl _)
      subst g1
      exact ⟨ys, ⟨.slice (some a) ys.length cap, rfl, some a, cap, rfl, h1, h2, fun _ => ⟨a, rfl, trivial, cs, g2, g3⟩⟩, .inr ⟨_, _, rfl, by simp, fun i hi hi' => by simpa using g4 i hi⟩⟩

/-- no part of what is read weighs more than a machine's reach -/
def Small {H : Type} (P : Program) (t : TypeId) (D : DataW H) : Prop := ∀ n ∈ DataW.weights P t D, n ≤ reachBytes
theorem small_all {H : Type} {P : Program} {e : TypeId} : ∀ {ds : List (DataW H)}, (∀ n ∈ DataW.weightsAll P e ds, n ≤ reachBytes) → ∀ d ∈ ds, Small P e d
  | x :: ds, h, d, hd => by
    unfold DataW.weightsAll at h
    rcases List.mem_cons.1 hd with rfl | hd
    · exact fun n hn => h n (List.mem_append_left _ hn)
    · exact small_all (fun n hn => h n (List.mem_append_right _ hn)) d hd
theorem RL.small {α H : Type} {r : ∀ H : Type, α → DataW H → Prop} {ys : List α} {D : DataW H} {P : Program} {t e : TypeId} (h : RL r H ys D) (ht : P.underlying t = some (.slice e)) (hs : Small P t D) :
    ys.length * P.bytesOf e ≤ reachBytes ∧ ∀ y ∈ ys, ∃ d, r H y d ∧ Small P e d := by
  rcases h with ⟨_, rfl⟩ | ⟨es, rest, rfl, hl, hr⟩
  · simp
  · unfold Small DataW.weights at hs
    rw [ht] at hs
    simp only [List.mem_cons, List.mem_append] at hs
    refine ⟨?_, fun y hy => ?_⟩
    · have h1 := hs _ (.inl rfl)
      have h2 : ys.length * P.bytesOf e ≤ (es.length + rest.length) * P.bytesOf e := Nat.mul_le_mul_right _ (by omega)
      exact Nat.le_trans h2 h1
    · obtain ⟨i, hi, rfl⟩ := List.getElem_of_mem hy
      exact ⟨_, hr i hi (by omega), small_all (fun n hn => hs n (.inr (.inl hn))) _ (List.getElem_mem _)⟩
theorem small_each {H : Type} {P : Program} : ∀ {ts : List TypeId} {ds : List (DataW H)}, (∀ n ∈ DataW.weightsEach P ts ds, n ≤ reachBytes) → ∀ i (h : i < ts.length) (h' : i < ds.length), Small P ts[i] ds[i]
  | t :: ts, d :: ds, hs, 0, _, _ => by unfold DataW.weightsEach at hs; exact fun n hn => hs n (List.mem_append_left _ hn)
  | t :: ts, d :: ds, hs, i + 1, h, h' => by
    unfold DataW.weightsEach at hs
    exact small_each (fun n hn => hs n (List.mem_append_right _ hn)) i (by simpa using h) (by simpa using h')

/-- a struct of fields of one cell each -/
theorem trod_ones {H : Type} {enc : TypeId × Value → H} {P : Program} {w : World} {base : Nat} {sp : Nat → Bool} {held : Bool} {fuel : Nat} {t : TypeId} {fs : Array Field} {cs : List Value} {x : DataW H × List MemPlace}
    (ht : P.underlying t = some (.struct fs)) (hone : oneCellFields P fs = true) (h : DataW.trod enc P w base sp held fuel t cs = some x) :
    ∃ (xs : List (DataW H × List MemPlace)) (n : Nat), x = (.agg (xs.map (·.1)), xs.flatMap (·.2)) ∧ xs.length = fs.size ∧ ∀ (i : Nat) (f : Field), fs[i]? = some f → ∀ (v : Value) (y : DataW H × List MemPlace), cs[i]? = some v → xs[i]? = some y → DataW.trod enc P w base sp held n f.type [v] = some y := by
  obtain ⟨xs, n, _, hx, _, hxl, hf⟩ := DataW.trod_struct ht h
  refine ⟨xs, n, hx, hxl, fun i f hi v y hv hy => ?_⟩
  obtain ⟨o, k⟩ := hone_of hone i f hi
  have := hf i f hi
  rw [o, k, hy] at this
  have hd : (cs.drop i).take 1 = [v] := by
    have hlt := (List.getElem?_eq_some_iff.1 hv).1
    rw [List.drop_eq_getElem_cons hlt, List.take_succ_cons, List.take_zero]
    rw [List.getElem?_eq_getElem hlt] at hv
    rw [Option.some.inj hv]
  rwa [hd] at this

def rAmt (H : Type) (y : Amt) (D : DataW H) : Prop := D = .agg [.lit (.string y.name.data.toList), .lit (.int .i64 y.val)] ∧ -9223372036854775808 ≤ y.val ∧ y.val ≤ 9223372036854775807
theorem dec_amt : TRel Tryz.prog 45 kAmt rAmt := by
  refine ⟨by kernel_rfl, ?_⟩
  intro H enc w base sp held fuel cs x h hl
  obtain ⟨xs, n, rfl, hxl, hf⟩ := trod_ones Tryz.underlying45 (by kernel_rfl) h
  have hl : cs.length = 2 := hl
  have hxl : xs.length = 2 := hxl
  match cs, xs, hl, hxl with
  | [v0, v1], [a0, a1], _, _ =>
    have g0 : DataW.trod enc Tryz.prog w base sp held n 9 [v0] = some a0 := hf 0 _ rfl v0 a0 rfl rfl
    have g1 : DataW.trod enc Tryz.prog w base sp held n 2 [v1] = some a1 := hf 1 _ rfl v1 a1 rfl rfl
    obtain ⟨s0, e0, z0, _⟩ := DataW.trod_string Tryz.underlying9 g0
    obtain ⟨n1, e1, z1, w1⟩ := DataW.trod_int Tryz.underlying2 g1
    cases e0; cases e1; subst z0; subst z1
    exact ⟨⟨s0, n1⟩, rfl, rfl, i64_of_wf w1⟩
theorem dec_amts : TRel Tryz.prog 41 (Kn.slice kAmt) (RL rAmt) := dec_amt.slice Tryz.underlying41 (by kernel_rfl)
def rPart (H : Type) (y : PartV) (D : DataW H) : Prop := ∃ D1 D2, D = .agg [.lit (.string y.name.data.toList), D1, D2] ∧ RL rAmt H y.req D1 ∧ RL rAmt H y.lim D2
theorem dec_part : TRel Tryz.prog 43 kPart rPart := by
  refine ⟨by kernel_rfl, ?_⟩
  intro H enc w base sp held fuel cs x h hl
  obtain ⟨xs, n, rfl, hxl, hf⟩ := trod_ones Tryz.underlying43 (by kernel_rfl) h
  have hl : cs.length = 3 := hl
  have hxl : xs.length = 3 := hxl
  match cs, xs, hl, hxl with
  | [v0, v1, v2], [a0, a1, a2], _, _ =>
    have g0 : DataW.trod enc Tryz.prog w base sp held n 9 [v0] = some a0 := hf 0 _ rfl v0 a0 rfl rfl
    have g1 : DataW.trod enc Tryz.prog w base sp held n 41 [v1] = some a1 := hf 1 _ rfl v1 a1 rfl rfl
    have g2 : DataW.trod enc Tryz.prog w base sp held n 41 [v2] = some a2 := hf 2 _ rfl v2 a2 rfl rfl
    obtain ⟨s0, e0, z0, _⟩ := DataW.trod_string Tryz.underlying9 g0
    obtain ⟨l1, hl1, r1⟩ := dec_amts.dec g1 rfl
    obtain ⟨l2, hl2, r2⟩ := dec_amts.dec g2 rfl
    cases e0; subst z0
    exact ⟨⟨s0, l1, l2⟩, ⟨[.string s0], [v1, v2], rfl, rfl, [v1], [v2], rfl, hl1, hl2⟩, _, _, rfl, r1, r2⟩
theorem dec_parts : TRel Tryz.prog 24 (Kn.slice kPart) (RL rPart) := dec_part.slice Tryz.underlying24 (by kernel_rfl)
def rLab (H : Type) (y : LabV) (D : DataW H) : Prop := D = .agg [.lit (.string y.key.data.toList), .lit (.string y.val.data.toList)]
theorem dec_lab : TRel Tryz.prog 217 kLab rLab := by
  refine ⟨by kernel_rfl, ?_⟩
  intro H enc w base sp held fuel cs x h hl
  obtain ⟨xs, n, rfl, hxl, hf⟩ := trod_ones Tryz.underlying217 (by kernel_rfl) h
  have hl : cs.length = 2 := hl
  have hxl : xs.length = 2 := hxl
  match cs, xs, hl, hxl with
  | [v0, v1], [a0, a1], _, _ =>
    have g0 : DataW.trod enc Tryz.prog w base sp held n 9 [v0] = some a0 := hf 0 _ rfl v0 a0 rfl rfl
    have g1 : DataW.trod enc Tryz.prog w base sp held n 9 [v1] = some a1 := hf 1 _ rfl v1 a1 rfl rfl
    obtain ⟨s0, e0, z0, _⟩ := DataW.trod_string Tryz.underlying9 g0
    obtain ⟨s1, e1, z1, _⟩ := DataW.trod_string Tryz.underlying9 g1
    cases e0; cases e1; subst z0; subst z1
    exact ⟨⟨s0, s1⟩, rfl, rfl⟩
theorem dec_labs : TRel Tryz.prog 23 (Kn.slice kLab) (RL rLab) := dec_lab.slice Tryz.underlying23 (by kernel_rfl)

set_option maxRecDepth 100000 in
/-- a scope that is handed in -/
theorem open_scope {H : Type} {enc : TypeId × Value → H} {w : World} {base b0 : Nat} {r : Reach} {sp : Nat → Bool} {held : Bool} {v : Value} {x : DataW H} {p : List MemPlace}
    (hv : Value.okWide Tryz.prog w r b0 47 v) (h : DataW.Trod enc Tryz.prog w base sp held 47 v x p) : ∃ s : ScV, v = s.val := by
  obtain ⟨v0, v1, y0, y1, n, rfl, rfl, rfl, h0, h1⟩ := Go.Joins.open_agg2 Tryz.underlying47 (by kernel_rfl) (by kernel_rfl) hv h
  have h0' : DataW.trod enc Tryz.prog w base sp held n 3 [v0] = some y0 := h0
  have h1' : DataW.trod enc Tryz.prog w base sp held n 3 [v1] = some y1 := h1
  obtain ⟨n0, e0, z0, _⟩ := DataW.trod_int Tryz.underlying3 h0'
  obtain ⟨n1, e1, z1, _⟩ := DataW.trod_int Tryz.underlying3 h1'
  cases e0; cases e1
  exact ⟨⟨n0, n1⟩, rfl⟩

theorem array7 {α : Type} {cs : Array α} (h : cs.size = 7) : ∃ c0 c1 c2 c3 c4 c5 c6, cs = #[c0, c1, c2, c3, c4, c5, c6] := by
  obtain ⟨l⟩ := cs
  match l, h with
  | [c0, c1, c2, c3, c4, c5, c6], _ => exact ⟨c0, c1, c2, c3, c4, c5, c6, rfl⟩
theorem list7 {α : Type} {l : List α} (h : l.length = 7) : ∃ c0 c1 c2 c3 c4 c5 c6, l = [c0, c1, c2, c3, c4, c5, c6] := by
  match l, h with
  | [c0, c1, c2, c3, c4, c5, c6], _ => exact ⟨c0, c1, c2, c3, c4, c5, c6, rfl⟩
/-- an object that is handed in -/
structure ObjRead {H : Type} (w : World) (v : Value) (x : DataW H) (o : ObjV) (A : Option Addr) (c : Nat) (ls : List LabV) (B : Option Addr) (m : Nat) (D2 D5 : DataW H) : Prop where
  val : v = o.val A c
  lab : o.labels = .slice B ls.length m
  lrow : Row kLab (fun _ => True) w B ls
  prow : Row kPart (fun _ => True) w A o.parts
  dat : x = .agg [.lit (.string o.path.data.toList), .lit (.string o.name.data.toList), D2, .lit (.int .i64 o.prio), .lit (.int .i64 o.dl), D5, .lit (.int .i64 o.ver)]
  rl : RL rLab H ls D2
  rp : RL rPart H o.parts D5
  wp : -9223372036854775808 ≤ o.prio ∧ o.prio ≤ 9223372036854775807
  wd : -9223372036854775808 ≤ o.dl ∧ o.dl ≤ 9223372036854775807
set_option maxRecDepth 100000 in
theorem open_object {H : Type} {enc : TypeId × Value → H} {w : World} {base b0 : Nat} {r : Reach} {sp : Nat → Bool} {held : Bool} {v : Value} {x : DataW H} {p : List MemPlace}
    (hv : Value.okWide Tryz.prog w r b0 26 v) (h : DataW.Trod enc Tryz.prog w base sp held 26 v x p) : ∃ o A c ls B m D2 D5, ObjRead w v x o A c ls B m D2 D5 := by
  obtain ⟨cs, rfl, hsz⟩ := okWide_struct Tryz.underlying26 hv
  obtain ⟨v0, v1, v2, v3, v4, v5, v6, rfl⟩ := array7 (hsz.trans (by kernel_rfl))
  obtain ⟨fuel, hf0⟩ := h
  obtain ⟨xs, n, hx, hxl, hf⟩ := trod_ones Tryz.underlying26 (by kernel_rfl) hf0
  obtain ⟨a0, a1, a2, a3, a4, a5, a6, rfl⟩ := list7 (show xs.length = 7 from hxl)
  have g0 : DataW.trod enc Tryz.prog w base sp held n 9 [v0] = some a0 := hf 0 _ rfl v0 a0 rfl rfl
  have g1 : DataW.trod enc Tryz.prog w base sp held n 9 [v1] = some a1 := hf 1 _ rfl v1 a1 rfl rfl
  have g2 : DataW.trod enc Tryz.prog w base sp held n 23 [v2] = some a2 := hf 2 _ rfl v2 a2 rfl rfl
  have g3 : DataW.trod enc Tryz.prog w base sp held n 3 [v3] = some a3 := hf 3 _ rfl v3 a3 rfl rfl
  have g4 : DataW.trod enc Tryz.prog w base sp held n 2 [v4] = some a4 := hf 4 _ rfl v4 a4 rfl rfl
  have g5 : DataW.trod enc Tryz.prog w base sp held n 24 [v5] = some a5 := hf 5 _ rfl v5 a5 rfl rfl
  have g6 : DataW.trod enc Tryz.prog w base sp held n 2 [v6] = some a6 := hf 6 _ rfl v6 a6 rfl rfl
  obtain ⟨s0, e0, z0, _⟩ := DataW.trod_string Tryz.underlying9 g0
  obtain ⟨s1, e1, z1, _⟩ := DataW.trod_string Tryz.underlying9 g1
  obtain ⟨ls, ⟨v2', e2, B, m, rfl, _, _, hr2⟩, r2⟩ := dec_labs.dec g2 rfl
  obtain ⟨n3, e3, z3, w3⟩ := DataW.trod_int Tryz.underlying3 g3
  obtain ⟨n4, e4, z4, w4⟩ := DataW.trod_int Tryz.underlying2 g4
  obtain ⟨ps, ⟨v5', e5, A, c, rfl, _, _, hr5⟩, r5⟩ := dec_parts.dec g5 rfl
  obtain ⟨n6, e6, z6, w6⟩ := DataW.trod_int Tryz.underlying2 g6
  cases e0; cases e1; cases e2; cases e3; cases e4; cases e5; cases e6
  subst z0; subst z1; subst z3; subst z4; subst z6
  refine ⟨⟨s0, s1, .slice B ls.length m, n3, n4, ps, n6⟩, A, c, ls, B, m, a2.1, a5.1, rfl, rfl, hr2, hr5, ?_, r2, r5, i64_of_wf w3, i64_of_wf w4⟩
  exact congrArg Prod.fst hx
set_option maxRecDepth 100000 in
/-- it can be laid anew -/
theorem ObjRead.fit {H : Type} {w : World} {v : Value} {x : DataW H} {o : ObjV} {A : Option Addr} {c : Nat} {ls : List LabV} {B : Option Addr} {m : Nat} {D2 D5 : DataW H} (h : ObjRead w v x o A c ls B m D2 D5) (hs : Small Tryz.prog 26 x) : ObjFit w o A ls := by
  have b24 : Tryz.prog.bytesOf 45 = 24 := by kernel_rfl
  have b64 : Tryz.prog.bytesOf 43 = 64 := by kernel_rfl
  have b32 : Tryz.prog.bytesOf 217 = 32 := by kernel_rfl
  have hr : reachBytes = 140737488351232 := by decide
  rw [h.dat] at hs
  unfold Small DataW.weights at hs
  rw [Tryz.underlying26] at hs
  have hE := small_each hs
  have s2 : Small Tryz.prog 23 D2 := hE 2 (by simp) (by simp)
  have s5 : Small Tryz.prog 24 D5 := hE 5 (by simp) (by simp)
  obtain ⟨k2, _⟩ := h.rl.small Tryz.underlying23 s2
  obtain ⟨k5, p5⟩ := h.rp.small Tryz.underlying24 s5
  rw [b32, hr] at k2
  rw [b64, hr] at k5
  refine ⟨h.prow, ⟨B, m, h.lab, h.lrow⟩, k5, fun p hp => ?_, k2⟩
  obtain ⟨d, ⟨D1, D3, rfl, r1, r3⟩, hd⟩ := p5 p hp
  unfold Small DataW.weights at hd
  rw [Tryz.underlying43] at hd
  have hF := small_each hd
  have t1 : Small Tryz.prog 41 D1 := hF 1 (by simp) (by simp)
  have t2 : Small Tryz.prog 41 D3 := hF 2 (by simp) (by simp)
  obtain ⟨l1, _⟩ := r1.small Tryz.underlying41 t1
  obtain ⟨l2, _⟩ := r3.small Tryz.underlying41 t2
  rw [b24, hr] at l1 l2
  exact ⟨l1, l2⟩
end Go.Proofs.YtalkdddeiebfmaaGreatDoor
/- The texts out of the row's list; the witness's world of the scope laws. -/
namespace Go.Proofs.YtalkdddeiebfmaaGreatDoor
open Go.ChangeShapes Go.WideShapes Go.ChangeAt Go.RowKit Go.Deep

theorem array6 {α : Type} {cs : Array α} (h : cs.toList.length = 6) : ∃ c0 c1 c2 c3 c4 c5, cs = #[c0, c1, c2, c3, c4, c5] := by
  obtain ⟨l⟩ := cs
  match l, h with
  | [c0, c1, c2, c3, c4, c5], _ => exact ⟨c0, c1, c2, c3, c4, c5, rfl⟩
theorem list6 {α : Type} {l : List α} (h : l.length = 6) : ∃ c0 c1 c2 c3 c4 c5, l = [c0, c1, c2, c3, c4, c5] := by
  match l, h with
  | [c0, c1, c2, c3, c4, c5], _ => exact ⟨c0, c1, c2, c3, c4, c5, rfl⟩
set_option maxRecDepth 100000 in
theorem texts_of_laid {W : World} (h : laidMet Tryz.prog [("bursar/scope.texts", Rows.laid_bursar_scope_texts)] W) : TextsAt W := by
  obtain ⟨ps, ⟨g, t, cs, fuel, p, q, hg, ht, hvar, hd, _, _⟩, _⟩ := h
  have hg0 : Tryz.prog.globalNamed "bursar/scope.texts" = some 0 := by kernel_rfl
  have ht0 : (Tryz.prog.globals[0]?).map (·.type) = some 141 := by kernel_rfl
  obtain rfl := Option.some.inj (hg0.symm.trans hg)
  obtain rfl := Option.some.inj (ht0.symm.trans ht)
  obtain ⟨xs, n, _, hx, hl, hxl, hf⟩ := DataW.trod_array Tryz.underlying141 hd
  have c1 : Tryz.prog.cellsOf 9 = 1 := by kernel_rfl
  have c6 : Tryz.prog.cellsOf 141 = 6 := by kernel_rfl
  rw [c6] at hl
  obtain ⟨v0, v1, v2, v3, v4, v5, rfl⟩ := array6 hl
  obtain ⟨a0, a1, a2, a3, a4, a5, rfl⟩ := list6 hxl
  rw [c1] at hf
  have g0 : DataW.trod _ Tryz.prog W _ _ _ n 9 [v0] = some a0 := hf 0 (by omega)
  have g1 : DataW.trod _ Tryz.prog W _ _ _ n 9 [v1] = some a1 := hf 1 (by omega)
  have g2 : DataW.trod _ Tryz.prog W _ _ _ n 9 [v2] = some a2 := hf 2 (by omega)
  have g3 : DataW.trod _ Tryz.prog W _ _ _ n 9 [v3] = some a3 := hf 3 (by omega)
  have g4 : DataW.trod _ Tryz.prog W _ _ _ n 9 [v4] = some a4 := hf 4 (by omega)
  have g5 : DataW.trod _ Tryz.prog W _ _ _ n 9 [v5] = some a5 := hf 5 (by omega)
  obtain ⟨s0, e0, z0, _⟩ := DataW.trod_string Tryz.underlying9 g0
  obtain ⟨s1, e1, z1, _⟩ := DataW.trod_string Tryz.underlying9 g1
  obtain ⟨s2, e2, z2, _⟩ := DataW.trod_string Tryz.underlying9 g2
  obtain ⟨s3, e3, z3, _⟩ := DataW.trod_string Tryz.underlying9 g3
  obtain ⟨s4, e4, z4, _⟩ := DataW.trod_string Tryz.underlying9 g4
  obtain ⟨s5, e5, z5, _⟩ := DataW.trod_string Tryz.underlying9 g5
  cases e0; cases e1; cases e2; cases e3; cases e4; cases e5
  subst z0; subst z1; subst z2; subst z3; subst z4; subst z5
  have hx' : (Rows.laid_bursar_scope_texts : DataW Unit) = _ := congrArg Prod.fst hx
  unfold Rows.laid_bursar_scope_texts at hx'
  simp only [List.map_cons, List.map_nil, DataW.agg.injEq, List.cons.injEq, DataW.lit.injEq, Lit.string.injEq, and_true] at hx'
  obtain ⟨h0, h1, h2, h3, h4, h5⟩ := hx'
  have q0 : s0 = ⟨#[97, 108, 108]⟩ := bytes_inj h0.symm
  have q1 : s1 = ⟨#[98, 101, 115, 116]⟩ := bytes_inj h1.symm
  have q2 : s2 = ⟨#[110, 111, 116, 98, 101, 115, 116]⟩ := bytes_inj h2.symm
  have q3 : s3 = ⟨#[101, 110, 100, 115]⟩ := bytes_inj h3.symm
  have q4 : s4 = ⟨#[110, 111, 116, 101, 110, 100, 115]⟩ := bytes_inj h4.symm
  have q5 : s5 = ⟨#[112, 114, 105, 111, 114, 105, 116, 121, 61]⟩ := bytes_inj h5.symm
  subst q0; subst q1; subst q2; subst q3; subst q4; subst q5
  have hcell := fun i => World.var?_cell hg0 hvar i
  exact ⟨hcell 0, hcell 1, hcell 2, hcell 3, hcell 4, hcell 5⟩

/-- the settled world, the texts holding what their initialiser lays -/
noncomputable def textsWorld (os : Os) : World :=
  let w0 := World.holding Tryz.prog os ⟨#[], #[], []⟩
  { w0 with heap := w0.heap.modify 0 fun
    | .cells _ t frozen => .cells #[.string ⟨#[97, 108, 108]⟩, .string ⟨#[98, 101, 115, 116]⟩, .string ⟨#[110, 111, 116, 98, 101, 115, 116]⟩, .string ⟨#[101, 110, 100, 115]⟩, .string ⟨#[110, 111, 116, 101, 110, 100, 115]⟩, .string ⟨#[112, 114, 105, 111, 114, 105, 116, 121, 61]⟩] t frozen
    | o => o }
theorem texts_met (os : Os) (args : Array Value) : laidMet Tryz.prog [("bursar/scope.texts", Rows.laid_bursar_scope_texts)] ((textsWorld os).forCall (fun _ _ => 0) ⟨#[], args, []⟩).memory :=
  laidMet_of_run' 8 (by kernel_rfl) (by kernel_rfl)
/-- of what is read no part is too heavy -/
theorem small_arg {H : Type} {ts : List TypeId} {ds : List (DataW H)} (h : (DataW.weightsEach Tryz.prog ts ds).all (· ≤ reachBytes) = true) (i : Nat) (hi : i < ts.length) (hi' : i < ds.length) : Small Tryz.prog ts[i] ds[i] :=
  small_each (fun n hn => by have := List.all_eq_true.1 h n hn; simpa using this) i hi hi'
end Go.Proofs.YtalkdddeiebfmaaGreatDoor
/- The second form's bound on what the scope laws read. -/
namespace Go.Proofs.YtalkdddeiebfmaaGreatDoor
open Go.ChangeShapes Go.WideShapes Go.ChangeAt Go.RowKit Go.Deep

theorem bulk_mem {H : Type} : ∀ {ds : List (DataW H)} {d : DataW H}, d ∈ ds → Rows.uptoBulk d ≤ Rows.uptoBulkAll ds
  | x :: ds, d, h => by
    rcases List.mem_cons.1 h with rfl | h
    · simp only [Rows.uptoBulkAll]; omega
    · have := bulk_mem h
      simp only [Rows.uptoBulkAll]; omega
theorem sum_le_all {α H : Type} {wt : α → Nat} : ∀ (ys : List α) (es : List (DataW H)), es.length = ys.length → (∀ i (h : i < ys.length) (h' : i < es.length), wt ys[i] ≤ Rows.uptoBulk es[i]) → (ys.map wt).sum ≤ Rows.uptoBulkAll es
  | [], _, _, _ => by simp
  | y :: ys, e :: es, hl, hr => by
    have h1 := hr 0 (by simp) (by simp)
    have h2 := sum_le_all ys es (by simpa using hl) (fun i h h' => hr (i + 1) (by simpa using h) (by simpa using h'))
    simp only [List.map_cons, List.sum_cons, Rows.uptoBulkAll]
    simp only [List.getElem_cons_zero] at h1
    omega
section
variable {α H : Type} {r : ∀ H : Type, α → DataW H → Prop} {ys : List α} {D : DataW H}
theorem RL.bulk (h : RL r H ys D) (wt : α → Nat) (hr : ∀ y d, r H y d → wt y ≤ Rows.uptoBulk d) : (ys.map wt).sum ≤ Rows.uptoBulk D := by
  rcases h with ⟨rfl, rfl⟩ | ⟨es, rest, rfl, hl, hi⟩
  · simp
  · have := sum_le_all (wt := wt) ys es hl (fun i h h' => hr _ _ (hi i h h'))
    simp only [Rows.uptoBulk]; omega
theorem RL.mem (h : RL r H ys D) : ∀ y ∈ ys, ∃ d, r H y d ∧ Rows.uptoBulk d ≤ Rows.uptoBulk D := by
  rcases h with ⟨rfl, rfl⟩ | ⟨es, rest, rfl, hl, hi⟩
  · simp
  · intro y hy
    obtain ⟨i, hi', rfl⟩ := List.getElem_of_mem hy
    refine ⟨_, hi i hi' (by omega), ?_⟩
    have := bulk_mem (List.getElem_mem (l := es) (n := i) (by omega))
    simp only [Rows.uptoBulk]; omega
end
def wtA (a : Amt) : Nat := a.name.size + 3
def wtP (p : PartV) : Nat := (p.req.map wtA).sum + (p.lim.map wtA).sum + 1
theorem rAmt_bulk {H : Type} (y : Amt) (d : DataW H) (h : rAmt H y d) : wtA y ≤ Rows.uptoBulk d := by
  obtain ⟨rfl, _⟩ := h
  simp only [Rows.uptoBulk, Rows.uptoBulkAll, wtA, data_len]; omega
theorem rPart_bulk {H : Type} (y : PartV) (d : DataW H) (h : rPart H y d) : wtP y ≤ Rows.uptoBulk d := by
  obtain ⟨D1, D2, rfl, h1, h2⟩ := h
  have := h1.bulk wtA rAmt_bulk
  have := h2.bulk wtA rAmt_bulk
  simp only [Rows.uptoBulk, Rows.uptoBulkAll, wtP]; omega
theorem len_le_sum {α : Type} {wt : α → Nat} (hw : ∀ a, 1 ≤ wt a) : ∀ l : List α, l.length ≤ (l.map wt).sum
  | [] => by simp
  | a :: l => by
    have := len_le_sum hw l
    have := hw a
    simp only [List.length_cons, List.map_cons, List.sum_cons]; omega
theorem allB_len_le : ∀ ps : List PartV, (allB ps).length ≤ (ps.map wtP).sum
  | [] => by simp [allB]
  | p :: ps => by
    have h1 := allB_len_le ps
    have h2 := len_le_sum (wt := wtA) (fun a => by unfold wtA; omega) p.req
    have h3 := len_le_sum (wt := wtA) (fun a => by unfold wtA; omega) p.lim
    have he : allB (p :: ps) = (p.req.map (preB reqB) ++ p.lim.map (preB limB)) ++ allB ps := by simp [allB]
    rw [he]
    simp only [List.length_append, List.length_map, List.map_cons, List.sum_cons, wtP]
    omega
/-- what is read is small: all amounts can be laid, no name is too long -/
theorem ObjRead.few {H : Type} {w : World} {v : Value} {x : DataW H} {o : ObjV} {A : Option Addr} {c : Nat} {ls : List LabV} {B : Option Addr} {m : Nat} {D2 D5 : DataW H} (h : ObjRead w v x o A c ls B m D2 D5) (hk : Rows.uptoBulk x ≤ 1048576) :
    NamesOk o.parts ∧ (allB o.parts).length ≤ 1048576 := by
  have h5 : Rows.uptoBulk D5 ≤ 1048576 := by
    rw [h.dat] at hk
    simp only [Rows.uptoBulk, Rows.uptoBulkAll] at hk
    omega
  refine ⟨fun p hp => ?_, ?_⟩
  · obtain ⟨d, ⟨D1, D3, rfl, h1, h3⟩, hd⟩ := h.rp.mem p hp
    simp only [Rows.uptoBulk, Rows.uptoBulkAll] at hd
    refine ⟨fun a ha => ?_, fun a ha => ?_⟩
    · obtain ⟨e, he, hb⟩ := h1.mem a ha
      have := rAmt_bulk a e he
      unfold wtA at this
      exact ⟨by omega, he.2.1, he.2.2⟩
    · obtain ⟨e, he, hb⟩ := h3.mem a ha
      have := rAmt_bulk a e he
      unfold wtA at this
      exact ⟨by omega, he.2.1, he.2.2⟩
  · exact Nat.le_trans (allB_len_le _) (Nat.le_trans (h.rp.bulk wtP rPart_bulk) h5)
theorem bulk_bound {H : Type} {l : List (DataW H)} (hk : Rows.uptoSmall H l = true) : Rows.uptoBulkAll l ≤ 1048576 := of_decide_eq_true hk
end Go.Proofs.YtalkdddeiebfmaaGreatDoor
