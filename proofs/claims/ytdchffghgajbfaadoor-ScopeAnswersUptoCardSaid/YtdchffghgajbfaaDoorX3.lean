/- The scope's functions by their answers, their arguments written out. -/
import Derived.Test.YtdchffghgajbfaaDoorX1
import Derived.Test.YtdchffghgajbfaaDoorX2
import Derived.Test.YtdchffghgajbfaaDoorV9
namespace Go.Proofs.YtdchffghgajbfaaDoor
open Go.RowKit

/-- the object with other lists -/
def ObjV.re (o : ObjV) (L : Option Addr) (n m : Nat) : ObjV := { o with labels := .slice L n m }
theorem own_val (o : ObjV) (A : Option Addr) (c : Nat) (ls : List LabV) (B0 : Option Addr) (m0 : Nat) (hl : o.labels = .slice B0 ls.length m0) (w : World) (h : ObjFit w o A ls) :
    Calls Tryd.prog 30 #[.agg #[.string o.path, .string o.name, .slice B0 ls.length m0, .int .i64 o.prio, .int .i64 o.dl, .slice A o.parts.length c, .int .i64 o.ver]] w fun e w' =>
      ∃ (L : Option Addr) (m : Nat) (B : Option Addr) (c : Nat), e = .returned (.agg #[.string o.path, .string o.name, .slice L ls.length m, .int .i64 o.prio, .int .i64 o.dl, .slice B o.parts.length c, .int .i64 o.ver]) ∧ ObjFit w' (o.re L ls.length m) B ls ∧ Below w.heap.size w w' := by
  have := own_any o A c ls w h
  unfold ObjV.val at this
  rw [hl] at this
  refine this.mono fun e w' hp => ?_
  obtain ⟨L, m, B, c, R, rfl, hparts, hlr, hb⟩ := hp
  exact ⟨L, m, B, c, rfl, ⟨hparts.row.2.1.mono fun _ _ => trivial, ⟨L, m, rfl, hlr.mono fun _ _ => trivial⟩, h.n64, h.n24, h.n32⟩, hb⟩
theorem in_val (s : ScV) (b : Bool) (o : ObjV) (hb : Hid (inS o.prio o.dl o.parts s = b)) (L : Option Addr) (n m : Nat) (B : Option Addr) (c : Nat) (P : Nat → Prop) (w : World) (ho : ObjOk w (o.re L n m) B P) (ht : TextsAt w) :
    Calls Tryd.prog 29 #[.agg #[.string o.path, .string o.name, .slice L n m, .int .i64 o.prio, .int .i64 o.dl, .slice B o.parts.length c, .int .i64 o.ver], .agg #[.int .i64 s.kind, .int .i64 s.arg]] w fun e w' => e = .returned (.bool b) ∧ Below w.heap.size w w' := by
  have := in_any s (o.re L n m) B c P w ho ht
  rw [show inS (o.re L n m).prio (o.re L n m).dl (o.re L n m).parts s = b from hb.out] at this
  exact this
theorem print_val (s : ScV) (t : ByteArray) (n : Int) (hp : Hid (printS s = (t, n))) (w : World) (ht : TextsAt w) : Calls Tryd.prog 43 #[.agg #[.int .i64 s.kind, .int .i64 s.arg]] w fun e w' => e = .returned (.tuple #[.string t, .int .i64 n]) ∧ Below w.heap.size w w' := by
  have := print_any s w ht
  rw [hp.out] at this
  exact this
theorem parse_val (t : ByteArray) (s : ScV) (n : Int) (hp : Hid (parseS t = (s, n))) (w : World) (ht : TextsAt w) : Calls Tryd.prog 41 #[.string t] w fun e w' => e = .returned (.tuple #[.agg #[.int .i64 s.kind, .int .i64 s.arg], .int .i64 n]) ∧ Below w.heap.size w w' := by
  have := parse_any t w ht
  rw [hp.out] at this
  exact this
theorem of_val (o : ObjV) (M : List ScV) (q : Nat) (hM : Hid (ofS o 6 = M)) (hq : M.length = q) (L : Option Addr) (n m : Nat) (B : Option Addr) (c : Nat) (P : Nat → Prop) (w : World) (ho : ObjOk w (o.re L n m) B P) (ht : TextsAt w) :
    Calls Tryd.prog 31 #[.agg #[.string o.path, .string o.name, .slice L n m, .int .i64 o.prio, .int .i64 o.dl, .slice B o.parts.length c, .int .i64 o.ver]] w fun e w' => ∃ A c, e = .returned (.slice A q c) ∧ Row kSc (fun _ => True) w' A M ∧ Below w.heap.size w w' := by
  subst hq
  refine (of_any (o.re L n m) B c P w ho ht).mono fun e w' hp => ?_
  obtain ⟨A, c, he, hown, hb⟩ := hp
  rw [show ofS (o.re L n m) 6 = M from hM.out] at he hown
  exact ⟨A, c, he, hown.row'.2.1, hb⟩
theorem same_val (A B : Option Addr) (n c d : Nat) (M : List ScV) (hn : M.length = n) (hle : n ≤ 15) (w : World) (hx : Row kSc (fun _ => True) w A M) (hy : Row kSc (fun _ => True) w B M) :
    Calls Tryd.prog 34 #[.slice A n c, .slice B n d] w fun e w' => e = .returned (.bool true) ∧ Below w.heap.size w w' := by
  have := sameScopes_any A B n n c d _ _ M M w hx hy hn hn (by omega)
  rwa [show decide (M = M) = true from decide_eq_true rfl] at this
end Go.Proofs.YtdchffghgajbfaaDoor
