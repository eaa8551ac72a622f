/- The ledger's maps in memory: what a place reads as, two maps behind a pointer. -/
import Derived.Test.YtalkdddeiebfmaaGreatDoorBF
import Derived.DeepKeys4
import Derived.WideKeyEntry
import Derived.Maps.RangeWalk
namespace Go.Proofs.YtalkdddeiebfmaaGreatDoor
open Go.RowKit Go.Maps Go.WideMaps

/-- where a sum stands: path, scope (kind, argument), resource -/
abbrev Pl := ByteArray × (Int × Int) × ByteArray
def plCells (x : Pl) : List Value := [.string x.1, .int .i64 x.2.1.1, .int .i64 x.2.1.2, .string x.2.2]
def plV (x : Pl) : Value := .agg (plCells x).toArray
def in64 (n : Int) : Prop := -9223372036854775808 ≤ n ∧ n ≤ 9223372036854775807
structure PlOk (x : Pl) : Prop where
  path : x.1.size ≤ maxLen
  kind : in64 x.2.1.1
  arg : in64 x.2.1.2
  res : x.2.2.size ≤ maxLen
theorem laidOut : laidOutB Tryz.prog = true := by kernel_rfl
theorem placeRow : (79 : TypeId) < Tryz.prog.types.size := of_decide_eq_true (by kernel_rfl)
theorem placeDeep : Tryz.prog.keyTypeAt 3 79 = true := by kernel_rfl
set_option maxRecDepth 100000 in
theorem placeKL : KeyLaw Tryz.prog 79 := deep_law_laid laidOut (m := 3) (Nat.le_of_ble_eq_true rfl) placeRow placeDeep (by kernel_rfl)
theorem placeLaw : Keyed Tryz.prog 79 := Keyed.of_law placeKL
theorem placeKeyType : Tryz.prog.keyType 79 = true := by kernel_rfl
theorem placeCells : Tryz.prog.cellsOf 79 = 4 := by kernel_rfl
theorem scopeCells : Tryz.prog.cellsOf 47 = 2 := by kernel_rfl
theorem strCells : Tryz.prog.cellsOf 9 = 1 := by kernel_rfl
theorem intCells : Tryz.prog.cellsOf 3 = 1 := by kernel_rfl
def plLits (x : Pl) : List Lit := [.string x.1.data.toList, .int .i64 x.2.1.1, .int .i64 x.2.1.2, .string x.2.2.data.toList]
def plLit (x : Pl) : Lit := .string (keyBytes (plLits x))
theorem in64_wf {n : Int} (h : in64 n) : (Lit.int .i64 n).wf = true := wf64 h.1 h.2
theorem lits_str (d : Nat) (s : ByteArray) (h : s.size ≤ maxLen) : Tryz.prog.keyLits (d + 1) 9 [.string s] = some [.string s.data.toList] := by
  unfold Program.keyLits; simp only [Tryz.underlying9]; rw [if_pos h]
theorem lits_int (d : Nat) (n : Int) (h : in64 n) : Tryz.prog.keyLits (d + 1) 3 [.int .i64 n] = some [.int .i64 n] := by
  unfold Program.keyLits; simp only [Tryz.underlying3]; rw [if_pos ⟨trivial, in64_wf h⟩]
theorem lits_scope (d : Nat) (k a : Int) (hk : in64 k) (ha : in64 a) : Tryz.prog.keyLits (d + 2) 47 [.int .i64 k, .int .i64 a] = some [.int .i64 k, .int .i64 a] := by
  unfold Program.keyLits; simp only [Tryz.underlying47, scopeCells]
  rw [if_pos ⟨rfl, by kernel_rfl⟩]
  simp [intCells, lits_int d _ hk, lits_int d _ ha]
theorem lits_place (d : Nat) (x : Pl) (h : PlOk x) : Tryz.prog.keyLits (d + 3) 79 (plCells x) = some (plLits x) := by
  unfold Program.keyLits; simp only [Tryz.underlying79, placeCells]
  rw [if_pos ⟨rfl, by kernel_rfl⟩]
  simp [plCells, plLits, strCells, scopeCells, lits_str (d + 1) _ h.path, lits_scope d _ _ h.kind h.arg, lits_str (d + 1) _ h.res]
theorem pl_key (x : Pl) (h : PlOk x) : keyOf Tryz.prog 79 (plV x) = some (plLit x) := by
  have hs : Tryz.prog.types.size + 1 = (Tryz.prog.types.size - 2) + 3 := by
    have : 2 < Tryz.prog.types.size := of_decide_eq_true (by kernel_rfl)
    omega
  have hf : (plV x).formed Tryz.prog 79 = true := by
    simp [plV, Value.formed, Tryz.underlying79, placeCells, plCells]
  have hl := lits_place (Tryz.prog.types.size - 2) x h
  rw [← hs] at hl
  have hc : (plV x).cells.toList = plCells x := rfl
  unfold keyOf
  simp only [Tryz.underlying79]
  rw [if_pos (by rw [placeKeyType, hf]; rfl), hc, hl]
  rfl
end Go.Proofs.YtalkdddeiebfmaaGreatDoor
