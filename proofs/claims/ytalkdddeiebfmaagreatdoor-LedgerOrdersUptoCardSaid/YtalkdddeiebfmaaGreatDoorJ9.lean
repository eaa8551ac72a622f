/- What an object has of sums, in plain words. No program in sight. -/
import Derived.Test.YtalkdddeiebfmaaGreatDoorJ8
import Derived.Test.YtalkdddeiebfmaaGreatDoorBH
namespace Go.Proofs.YtalkdddeiebfmaaGreatDoor

theorem joinL_lt {ns : List (List UInt8)} (hn : ns.all nameL = true) {i j : Nat} (hij : i < j) (hj : j ≤ ns.length) : (joinP (ns.take i)).length < (joinP (ns.take j)).length := by
  have h1 : ∀ x ∈ ns, 1 ≤ x.length := fun x hx => by
    have h2 := List.all_eq_true.1 hn x hx
    unfold nameL at h2
    simp only [Bool.and_eq_true, decide_eq_true_eq] at h2
    exact h2.1.1.1.1
  have hstep : ∀ k, k < ns.length → (joinP (ns.take k)).length < (joinP (ns.take (k + 1))).length := fun k hk => by
    rw [joinP_step hk, List.length_append, List.length_cons]
    have := h1 _ (List.getElem_mem hk)
    by_cases h0 : ns.take k = []
    · rw [h0]; simp [joinP, joinL]; omega
    · rw [joinP_ne h0]; omega
  induction j with
  | zero => omega
  | succ j ih =>
    rcases Nat.lt_or_ge i j with h | h
    · exact Nat.lt_trans (ih h (by omega)) (hstep j (by omega))
    · have : i = j := by omega
      subst this; exact hstep i (by omega)
theorem lineTo_lt {ns : List (List UInt8)} (hn : ns.all nameL = true) : ∀ k, k ≤ ns.length → (lineTo ns k).Pairwise (fun a b => b.size < a.size)
  | 0, _ => by simp [lineTo]
  | k + 1, hk => by
    unfold lineTo
    refine List.pairwise_cons.2 ⟨fun b hb => ?_, lineTo_lt hn k (by omega)⟩
    obtain ⟨j, hj, rfl⟩ := (mem_lineTo ns b k).1 hb
    rw [← data_len, ← data_len, mkB_data, mkB_data]
    exact joinL_lt hn (by omega) hk
theorem lineB_nodup (p : ByteArray) : (lineB p).Nodup := by
  unfold lineB
  split
  · rename_i h
    exact (lineTo_lt (pathOk h).names _ (Nat.le_refl _)).imp fun h e => by rw [e] at h; omega
  · exact List.nodup_nil
theorem lineB_path {p q : ByteArray} (h : q ∈ lineB p) : isPath q = true ∧ q.size ≤ 64 := by
  unfold lineB at h
  split at h
  · rename_i hp
    have PO := pathOk hp
    have h64 : (joinP (nm p)).length ≤ 64 := by rw [← PO.text, data_len]; exact PO.short
    obtain ⟨j, hj, rfl⟩ := (mem_lineTo _ q _).1 h
    have hp : isPath (mkB (joinP ((nm p).take j))) = true := by
      unfold isPath
      rw [mkB_data, pathL_join (by rw [List.length_take]; have := PO.few; omega) (joinP_le _ _ h64) (names_take _ PO.names)]
      rfl
    exact ⟨hp, (pathOk hp).short⟩
  · cases h
theorem ofS_nodup (o : ObjV) : (ofS o 6).Nodup := by
  unfold ofS
  rw [List.nodup_iff_pairwise_ne]
  refine List.Pairwise.filter _ ?_
  rw [List.pairwise_map]
  refine (List.nodup_iff_pairwise_ne.1 (List.nodup_range (n := 6))).imp ?_
  intro a b h e
  apply h
  have : (a : Int) = b := congrArg ScV.kind e
  omega
theorem ofS_in {o : ObjV} {s : ScV} (h : s ∈ ofS o 6) : in64 s.kind ∧ in64 s.arg ∧ validS s = true := by
  unfold ofS at h
  obtain ⟨h1, h2⟩ := List.mem_filter.1 h
  obtain ⟨k, hk, rfl⟩ := List.mem_map.1 h1
  have hk6 : k < 6 := by simpa using hk
  have hv : validS (scopeK o.prio k) = true := by
    unfold inS at h2
    rw [Bool.and_eq_true] at h2
    exact h2.1
  refine ⟨by unfold scopeK in64; simp only; omega, ?_, hv⟩
  unfold scopeK at hv ⊢
  unfold validS at hv
  unfold in64
  simp only at hv ⊢
  by_cases h5 : k = 5
  · subst h5
    simp at hv
    rw [if_pos rfl]; omega
  · rw [if_neg h5]; omega
theorem uses_key {ps : List PartV} (hn : NamesOk ps) : ∀ p ∈ (usesV ps).1, p.1.length ≤ maxLen := by
  intro p hp
  have hall : ∀ a ∈ allA ps, a.1.length ≤ maxLen := fun a ha => by
    rw [← allB_kv] at ha
    obtain ⟨b, hb, rfl⟩ := List.mem_map.1 ha
    have := (allB_ok hn b hb).name
    simp only [kvOf]
    rw [data_len]; exact this
  have key : ∀ S, S = sumsU sums0 (allA ps) → p ∈ S → p.1.length ≤ maxLen := fun S hS hpS => by
    have : p.1 ∈ S.map Prod.fst := List.mem_map.2 ⟨p, hpS, rfl⟩
    rw [hS] at this
    rcases (keys_sumsU _ _ _).1 this with h | h
    · have : p.1 = countK := by simpa [sums0] using h
      rw [this]; decide
    · obtain ⟨a, ha, e⟩ := List.mem_map.1 h
      rw [← e]; exact hall a ha
  rcases usesIs ps with ⟨h', e⟩ | ⟨h', x, hx, e⟩ | ⟨h', hx, e⟩
  · rw [e] at hp; cases hp
  · rw [e] at hp; cases hp
  · rw [e] at hp; exact key _ rfl hp
theorem uses_val {ps : List PartV} (h : (usesV ps).2 = 0) : ∀ p ∈ (usesV ps).1, 0 ≤ p.2 ∧ p.2 ≤ 9223372036854775807 := by
  intro p hp
  have hs := sumOf h
  have hg := getK_mem hs.asc p hp
  have h1 := hs.val p.1
  have h2 := hs.le p.1
  have h3 := totK_pos (x := p.1) hs.pos
  rw [hg] at h1 h2
  refine ⟨?_, h2⟩
  rw [h1]
  split <;> omega
theorem usesU_names {o : ObjV} (h : (usesV o.parts).2 = 0) : ((usesU o).map Amt.name).Nodup := by
  unfold usesU
  rw [List.map_map, List.nodup_iff_pairwise_ne, List.pairwise_map]
  refine (sumOf h).asc.imp ?_
  intro a b hab e
  have : a.1 = b.1 := by simpa [amtOf] using e
  rw [this] at hab
  exact List.lt_irrefl _ hab
theorem sharesU_mem {line : List ByteArray} {M : List ScV} {U : List Amt} {s : Sh} : s ∈ sharesU line M U ↔ ∃ p ∈ line, ∃ c ∈ M, ∃ a ∈ U, s = shOf p c a := by
  unfold sharesU
  simp only [List.mem_flatMap, List.mem_map]
  constructor
  · rintro ⟨p, hp, c, hc, a, ha, rfl⟩; exact ⟨p, hp, c, hc, a, ha, rfl⟩
  · rintro ⟨p, hp, c, hc, a, ha, rfl⟩; exact ⟨p, hp, c, hc, a, ha, rfl⟩
theorem nodup_flatMap {α β : Type} {f : α → List β} : ∀ {l : List α}, l.Nodup → (∀ a ∈ l, (f a).Nodup) → (∀ a ∈ l, ∀ b ∈ l, a ≠ b → ∀ x ∈ f a, x ∉ f b) → (l.flatMap f).Nodup
  | [], _, _, _ => by simp
  | a :: l, h1, h2, h3 => by
    rw [List.nodup_cons] at h1
    rw [List.flatMap_cons, List.nodup_append]
    refine ⟨h2 a (by simp), nodup_flatMap h1.2 (fun b hb => h2 b (by simp [hb])) (fun b hb c hc => h3 b (by simp [hb]) c (by simp [hc])), fun x hx y hy e => ?_⟩
    subst e
    obtain ⟨b, hb, hxb⟩ := List.mem_flatMap.1 hy
    exact h3 a (by simp) b (by simp [hb]) (fun e => h1.1 (by rw [e]; exact hb)) x hx hxb
theorem sharesU_nodup {line : List ByteArray} {M : List ScV} {U : List Amt} (h1 : line.Nodup) (h2 : M.Nodup) (h3 : (U.map Amt.name).Nodup) : ((sharesU line M U).map Prod.fst).Nodup := by
  unfold sharesU
  rw [List.map_flatMap]
  refine nodup_flatMap h1 (fun p _ => ?_) (fun p _ p' _ hne x hx hx' => ?_)
  · rw [List.map_flatMap]
    refine nodup_flatMap h2 (fun c _ => ?_) (fun c _ c' _ hne x hx hx' => ?_)
    · rw [List.map_map, List.nodup_iff_pairwise_ne, List.pairwise_map]
      rw [List.nodup_iff_pairwise_ne, List.pairwise_map] at h3
      refine h3.imp ?_
      intro a b hab e
      exact hab (congrArg (fun z : Pl => z.2.2) e)
    · obtain ⟨y, hy, rfl⟩ := List.mem_map.1 hx
      obtain ⟨a, ha, rfl⟩ := List.mem_map.1 hy
      obtain ⟨y', hy', e⟩ := List.mem_map.1 hx'
      obtain ⟨a', ha', rfl⟩ := List.mem_map.1 hy'
      apply hne
      have e1 := congrArg (fun z : Pl => z.2.1) e
      simp only [shOf, Prod.mk.injEq] at e1
      obtain ⟨k, g⟩ := c
      obtain ⟨k', g'⟩ := c'
      simp only at e1
      rw [e1.1, e1.2]
  · obtain ⟨y, hy, rfl⟩ := List.mem_map.1 hx
    obtain ⟨c, hc, hy⟩ := List.mem_flatMap.1 hy
    obtain ⟨a, ha, rfl⟩ := List.mem_map.1 hy
    obtain ⟨y', hy', e⟩ := List.mem_map.1 hx'
    obtain ⟨c', hc', hy'⟩ := List.mem_flatMap.1 hy'
    obtain ⟨a', ha', rfl⟩ := List.mem_map.1 hy'
    exact hne (congrArg (fun z : Pl => z.1) e).symm
/-- what a right object has of sums -/
structure SharesOk (o : ObjV) (l : List ByteArray) (T : List Sh) : Prop where
  path : ∀ p ∈ l, isPath p = true ∧ StOk p
  few : l.length ≤ 9
  lnod : l.Nodup
  sh : ∀ s ∈ T, ShOk s ∧ isPath s.1.1 = true ∧ validS ⟨s.1.2.1.1, s.1.2.1.2⟩ = true
  nod : (T.map Prod.fst).Nodup
  len : T.length ≤ 57982058550
theorem sharesV_ok {o : ObjV} (hu : UseOk o) {l : List ByteArray} {T : List Sh} (h : sharesV o = (l, T, 0)) : SharesOk o l T := by
  unfold sharesV at h
  split at h
  · rename_i hp
    split at h
    · rename_i he
      cases h
      have hul : (usesU o).length ≤ 1073741825 := by
        have h1 := usesV_len o.parts
        have h2 := hu.few
        unfold usesU
        rw [List.length_map]
        omega
      refine ⟨fun p hp => ⟨(lineB_path hp).1, by have := (lineB_path hp).2; unfold StOk maxLen; omega⟩, lineB_len _, lineB_nodup _, fun s hs => ?_, sharesU_nodup (lineB_nodup _) (ofS_nodup o) (usesU_names he), ?_⟩
      · obtain ⟨p, hp, c, hc, a, ha, rfl⟩ := sharesU_mem.1 hs
        obtain ⟨h1, h2, h3⟩ := ofS_in hc
        obtain ⟨y, hy, rfl⟩ := List.mem_map.1 ha
        have hk := uses_key hu.names y hy
        have hv := uses_val he y hy
        refine ⟨⟨⟨by have := (lineB_path hp).2; simp only [shOf]; unfold maxLen; omega, h1, h2, ?_⟩, hv.1, hv.2⟩, (lineB_path hp).1, h3⟩
        simp only [shOf, amtOf]
        rw [← data_len]
        simpa using hk
      · rw [sharesU_len]
        have h1 : (ofS o 6).length * (usesU o).length ≤ 6 * 1073741825 := Nat.mul_le_mul (ofS_len6 o) hul
        have h2 : (lineB o.path).length * ((ofS o 6).length * (usesU o).length) ≤ 9 * (6 * 1073741825) := Nat.mul_le_mul (lineB_len _) h1
        omega
    · rename_i he
      have : (usesV o.parts).2 = 0 := congrArg (fun z => z.2.2) h
      exact absurd this he
  · have : (41 : Int) = 0 := congrArg (fun z => z.2.2) h
    omega
/-- how much of a sum an object has -/
def svL (T : List Sh) (x : Pl) : Int := (T.map fun s => if s.1 = x then s.2 else 0).sum
theorem addS_svL (b : Int) : ∀ (T : List Sh) (S : Pl → Int) (x : Pl), addS b S T x = S x + b * svL T x
  | [], S, x => by simp [addS, svL]
  | s :: T, S, x => by
    have e : addS b S (s :: T) = addS b (upd S s.1 (S s.1 + b * s.2)) T := rfl
    rw [e, addS_svL b T]
    unfold svL upd
    rw [List.map_cons, List.sum_cons, Int.mul_add]
    by_cases h : x = s.1
    · subst h; rw [if_pos rfl, if_pos rfl]; omega
    · rw [if_neg h, if_neg (fun e => h e.symm)]; omega
def cvL (l : List ByteArray) (p : ByteArray) : Int := (l.map fun q => if q = p then 1 else 0).sum
theorem addC_cvL (b : Int) : ∀ (l : List ByteArray) (C : ByteArray → Int) (x : ByteArray), addC b C l x = C x + b * cvL l x
  | [], C, x => by simp [addC, cvL]
  | p :: l, C, x => by
    have e : addC b C (p :: l) = addC b (upd C p (C p + b)) l := rfl
    rw [e, addC_cvL b l]
    unfold cvL upd
    rw [List.map_cons, List.sum_cons, Int.mul_add]
    by_cases h : x = p
    · subst h; rw [if_pos rfl, if_pos rfl]; omega
    · rw [if_neg h, if_neg (fun e => h e.symm)]; omega
end Go.Proofs.YtalkdddeiebfmaaGreatDoor
