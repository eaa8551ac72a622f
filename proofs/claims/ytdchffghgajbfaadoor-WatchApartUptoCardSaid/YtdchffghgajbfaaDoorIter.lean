/-
  DERIVED: THE SHELF's CONTRACTS AT THIS DUMP, IN PLAIN WORDS (tools/lay-plain.mjs out of 'TrydIterS.lean', which tools/lay-shelf.mjs wrote): THE SAME DECLARATIONS UNDER THE SAME NAMES: 'import', 'namespace', 'open', 'def', 'theorem' AND NOTHING ELSE: no command of the shelf's: FOR A HAND-IN. Each laying: the table of numbers ('.._ren') and one theorem, a field a fact of the dump's own or the kernel's comparison; each contract: ONE APPLICATION.
-/
import Derived.Shelf.SlIter.Nil
import Derived.Shelf.SortM.Plain
import Derived.Shelf.SortM.SortNone
import Derived.Ground.GgzProg
import Derived.Ground.SlgmProg
import Derived.Test.YtdchffghgajbfaaDoorProg
namespace Go.Proofs
open Go.Shelf
def Tryd.keys77_ren : Go.Shelf.Ren := ⟨fun | 7 => 77 | 10 => 103 | n => n, fun | 23 => 124 | 26 => 9 | 3 => 3 | 28 => 127 | 0 => 0 | 27 => 126 | 33 => 132 | 4 => 4 | n => n, fun | n => n⟩
theorem Tryd.keys77 : Go.Proofs.SlLaysZ.n7 Tryd.prog Tryd.keys77_ren := {
  mixed := by kernel_rfl
  f7 := ⟨Tryd.f77.name, by decide, Tryd.func77.trans (congrArg some (by kernel_rfl))⟩
  f10 := ⟨Tryd.f103.name, by decide, Tryd.func103.trans (congrArg some (by kernel_rfl))⟩
  t0 := Tryd.underlying0
  a0 := Tryd.isAgg0
  z0 := Tryd.sizeOf0
  v0 := Tryd.zeroValue0
  t4 := Tryd.underlying4
  a4 := Tryd.isAgg4
  z4 := Tryd.sizeOf4
  v4 := Tryd.zeroValue4
  t23 := Tryd.underlying124
  a23 := Tryd.isAgg124
  z23 := Tryd.sizeOf124
  v23 := Tryd.zeroValue124
  t26 := Tryd.underlying9
  a26 := Tryd.isAgg9
  z26 := Tryd.sizeOf9
  v26 := Tryd.zeroValue9
  t27 := Tryd.underlying126
  a27 := Tryd.isAgg126
  z27 := Tryd.sizeOf126
  v27 := Tryd.zeroValue126
  t28 := Tryd.underlying127
  a28 := Tryd.isAgg127
  z28 := Tryd.sizeOf127
  v28 := Tryd.zeroValue127
  t33 := Tryd.underlying132
  a33 := Tryd.isAgg132
  z33 := Tryd.sizeOf132
  v33 := Tryd.zeroValue132 }
def Tryd.sorted76_ren : Go.Shelf.Ren := ⟨fun | 6 => 76 | 8 => 101 | 9 => 102 | 11 => 122 | 13 => 98 | 12 => 123 | 23 => 119 | 24 => 120 | 14 => 135 | 15 => 136 | 16 => 137 | 17 => 138 | 18 => 139 | 19 => 140 | 20 => 141 | 21 => 142 | 22 => 143 | 25 => 149 | 26 => 131 | 27 => 132 | 28 => 150 | 29 => 151 | 30 => 152 | 31 => 158 | n => n, fun | 26 => 9 | 28 => 127 | 24 => 84 | 0 => 0 | 3 => 3 | 37 => 49 | 48 => 152 | 50 => 154 | 4 => 4 | 40 => 145 | 39 => 144 | 45 => 149 | 5 => 5 | 9 => 9 | 51 => 161 | 55 => 165 | 57 => 176 | 58 => 177 | 33 => 132 | n => n, fun | n => n⟩
theorem Tryd.sorted76 : Go.Proofs.SlLaysZ.n6 Tryd.prog Tryd.sorted76_ren := {
  mixed := by kernel_rfl
  f6 := ⟨Tryd.f76.name, by decide, Tryd.func76.trans (congrArg some (by kernel_rfl))⟩
  f8 := ⟨Tryd.f101.name, by decide, Tryd.func101.trans (congrArg some (by kernel_rfl))⟩
  f11 := ⟨Tryd.f122.name, by decide, Tryd.func122.trans (congrArg some (by kernel_rfl))⟩
  t0 := Tryd.underlying0
  a0 := Tryd.isAgg0
  z0 := Tryd.sizeOf0
  v0 := Tryd.zeroValue0
  t24 := Tryd.underlying84
  a24 := Tryd.isAgg84
  z24 := Tryd.sizeOf84
  v24 := Tryd.zeroValue84
  t26 := Tryd.underlying9
  a26 := Tryd.isAgg9
  z26 := Tryd.sizeOf9
  v26 := Tryd.zeroValue9
  t28 := Tryd.underlying127
  a28 := Tryd.isAgg127
  z28 := Tryd.sizeOf127
  v28 := Tryd.zeroValue127
  i26 := by kernel_rfl }
def Tryd.sort102_ren : Go.Shelf.Ren := ⟨fun | 6 => 102 | 8 => 98 | 9 => 123 | 19 => 119 | 20 => 120 | 21 => 135 | 22 => 136 | 23 => 137 | 24 => 138 | 25 => 139 | 26 => 140 | 27 => 141 | 28 => 142 | 29 => 143 | 36 => 149 | 31 => 131 | 32 => 132 | 37 => 150 | 38 => 151 | 39 => 152 | 41 => 158 | n => n, fun | 27 => 84 | 29 => 9 | 3 => 3 | 32 => 49 | 26 => 84 | 0 => 0 | 44 => 152 | 46 => 154 | 4 => 4 | 36 => 145 | 35 => 144 | 41 => 149 | 5 => 5 | 9 => 9 | 53 => 161 | 57 => 165 | 63 => 176 | 64 => 177 | n => n, fun | n => n⟩
theorem Tryd.sort102 : Go.Proofs.SlLaysM.n6 Tryd.prog Tryd.sort102_ren := {
  mixed := by kernel_rfl
  f6 := ⟨Tryd.f102.name, by decide, Tryd.func102.trans (congrArg some (by kernel_rfl))⟩
  f8 := Tryd.func98.trans (congrArg some (by kernel_rfl))
  f9 := ⟨Tryd.f123.name, by decide, Tryd.func123.trans (congrArg some (by kernel_rfl))⟩
  f19 := Tryd.func119.trans (congrArg some (by kernel_rfl))
  f20 := Tryd.func120.trans (congrArg some (by kernel_rfl))
  f21 := ⟨Tryd.f135.name, by decide, Tryd.func135.trans (congrArg some (by kernel_rfl))⟩
  f22 := ⟨Tryd.f136.name, by decide, Tryd.func136.trans (congrArg some (by kernel_rfl))⟩
  f23 := ⟨Tryd.f137.name, by decide, Tryd.func137.trans (congrArg some (by kernel_rfl))⟩
  f24 := ⟨Tryd.f138.name, by decide, Tryd.func138.trans (congrArg some (by kernel_rfl))⟩
  f25 := ⟨Tryd.f139.name, by decide, Tryd.func139.trans (congrArg some (by kernel_rfl))⟩
  f26 := ⟨Tryd.f140.name, by decide, Tryd.func140.trans (congrArg some (by kernel_rfl))⟩
  f27 := ⟨Tryd.f141.name, by decide, Tryd.func141.trans (congrArg some (by kernel_rfl))⟩
  f28 := ⟨Tryd.f142.name, by decide, Tryd.func142.trans (congrArg some (by kernel_rfl))⟩
  f29 := ⟨Tryd.f143.name, by decide, Tryd.func143.trans (congrArg some (by kernel_rfl))⟩
  f31 := Tryd.func131.trans (congrArg some (by kernel_rfl))
  f32 := Tryd.func132.trans (congrArg some (by kernel_rfl))
  f36 := ⟨Tryd.f149.name, by decide, Tryd.func149.trans (congrArg some (by kernel_rfl))⟩
  f37 := ⟨Tryd.f150.name, by decide, Tryd.func150.trans (congrArg some (by kernel_rfl))⟩
  f38 := ⟨Tryd.f151.name, by decide, Tryd.func151.trans (congrArg some (by kernel_rfl))⟩
  f39 := ⟨Tryd.f152.name, by decide, Tryd.func152.trans (congrArg some (by kernel_rfl))⟩
  f41 := ⟨Tryd.f158.name, by decide, Tryd.func158.trans (congrArg some (by kernel_rfl))⟩
  t0 := Tryd.underlying0
  a0 := Tryd.isAgg0
  z0 := Tryd.sizeOf0
  v0 := Tryd.zeroValue0
  t3 := Tryd.underlying3
  a3 := Tryd.isAgg3
  z3 := Tryd.sizeOf3
  v3 := Tryd.zeroValue3
  t4 := Tryd.underlying4
  a4 := Tryd.isAgg4
  z4 := Tryd.sizeOf4
  v4 := Tryd.zeroValue4
  t5 := Tryd.underlying5
  a5 := Tryd.isAgg5
  z5 := Tryd.sizeOf5
  v5 := Tryd.zeroValue5
  t9 := Tryd.underlying9
  a9 := Tryd.isAgg9
  z9 := Tryd.sizeOf9
  v9 := Tryd.zeroValue9
  t26 := Tryd.underlying84
  a26 := Tryd.isAgg84
  z26 := Tryd.sizeOf84
  v26 := Tryd.zeroValue84
  t27 := Tryd.underlying84
  a27 := Tryd.isAgg84
  z27 := Tryd.sizeOf84
  v27 := Tryd.zeroValue84
  t29 := Tryd.underlying9
  a29 := Tryd.isAgg9
  z29 := Tryd.sizeOf9
  v29 := Tryd.zeroValue9
  t32 := Tryd.underlying49
  a32 := Tryd.isAgg49
  z32 := Tryd.sizeOf49
  v32 := Tryd.zeroValue49
  t35 := Tryd.underlying144
  a35 := Tryd.isAgg144
  z35 := Tryd.sizeOf144
  v35 := Tryd.zeroValue144
  t36 := Tryd.underlying145
  a36 := Tryd.isAgg145
  z36 := Tryd.sizeOf145
  v36 := Tryd.zeroValue145
  t41 := Tryd.underlying149
  a41 := Tryd.isAgg149
  z41 := Tryd.sizeOf149
  v41 := Tryd.zeroValue149
  t44 := Tryd.underlying152
  a44 := Tryd.isAgg152
  z44 := Tryd.sizeOf152
  v44 := Tryd.zeroValue152
  t46 := Tryd.underlying154
  a46 := Tryd.isAgg154
  z46 := Tryd.sizeOf154
  v46 := Tryd.zeroValue154
  t53 := Tryd.underlying161
  a53 := Tryd.isAgg161
  z53 := Tryd.sizeOf161
  v53 := Tryd.zeroValue161
  t57 := Tryd.underlying165
  a57 := Tryd.isAgg165
  z57 := Tryd.sizeOf165
  v57 := Tryd.zeroValue165
  t63 := Tryd.underlying176
  a63 := Tryd.isAgg176
  z63 := Tryd.sizeOf176
  v63 := Tryd.zeroValue176
  t64 := Tryd.underlying177
  a64 := Tryd.isAgg177
  z64 := Tryd.sizeOf177
  v64 := Tryd.zeroValue177 }
open Go.RowKit Go.Maps Go.Sort
/-- slices.Sort's two contracts at this dump, at the fence that asks nothing. -/
theorem Tryd.sorts76 (m : Nat) : AnyZ.SortsIn Tryd.prog Tryd.sorted76_ren Fence.wide m :=
  ⟨fun blk off cap ss W hH hblk hsz => callsIn_wide.2 (AnyM.slices_Sort_string Tryd.sort102 blk off cap ss W hH hblk hsz),
   fun p cap W => callsIn_wide.2 (AnyM.slices_Sort_string_none Tryd.sort102 p cap W)⟩

/-- **maps.Keys[map[string]int,string,int], at whatever map, the nil one too:** a function value over ONE NEW BLOCK, which holds the map. -/
theorem Tryd.maps_Keys_77 (mb : Option Nat) (W : World) : CallsIn Fence.wide 5 Tryd.prog 77 #[.map mb] W fun e w' => e = .returned (.func (.func 103) #[] #[.pointer (some ⟨W.heap.size, 0, none⟩)]) ∧ w' = W.alloc (.cells #[.map mb] 124) :=
  AnyZ.keys_in Tryd.keys77 Fence.wide 5 trivial rfl mb W

set_option maxHeartbeats 1000000 in
/-- **slices.Sorted[string] AT WHAT maps.Keys[map[string]int,string,int] HANDED BACK FOR A MAP THAT IS NOT nil** ('w': the world AHEAD of maps.Keys' call): A NEW SLICE THAT HOLDS THE MAP's KEYS, SORTED; nil just where it has none; nothing that lay before has turned. -/
theorem Tryd.slices_Sorted_keys_76_77 {H : Type} (b nn : Nat) (D0 : DataW H) (R : Value → Option (DataW H × List MemPlace)) (w : World) (hown : w.ownsMap Tryd.prog 9 R b nn D0) (hmax : Maps.size D0 ≤ maxLen) (hbytes : Maps.size D0 * 16 ≤ 140737488355328) :
    CallsIn Fence.wide 5 Tryd.prog 76 #[.func (.func 103) #[] #[.pointer (some ⟨w.heap.size, 0, none⟩)]] (w.alloc (.cells #[.map (some b)] 124)) fun e w' => ∃ (v : Value) (ss : List (List UInt8)), e = .returned v ∧ ss.Perm (strKeys D0) ∧
      w'.ownsRow (w.alloc (.cells #[.map (some b)] 124)).heap.size 9 1 v ss.length ((ss.mergeSort (fun x y => decide (x ≤ y))).map encStr) ∧ (v = .slice none 0 0 ↔ ss = []) ∧ Below (w.alloc (.cells #[.map (some b)] 124)).heap.size (w.alloc (.cells #[.map (some b)] 124)) w' := by
  have hbl := hown.lt
  have hseq : SeqGives Fence.wide 2 Tryd.prog 103 #[.pointer (some ⟨w.heap.size, 0, none⟩)] encStr (fun ss => ss.Perm (strKeys D0)) (Maps.size D0) (w.alloc (.cells #[.map (some b)] 124)) :=
    AnyZ.keys_gives (ρ := Tryd.keys77_ren) { Tryd.keys77 with } Fence.wide _ trivial rfl (by omega) w.heap.size b nn D0 _ (by simp) (by simp) (by
      obtain ⟨es, clock, hb, Ft, hs, hD⟩ := hown
      exact ⟨es, clock, (Below.heap_alloc _ _ b hbl).trans hb, Ft, hs, hD⟩)
  exact AnyZ.sorted_in Tryd.sorted76 Fence.wide 5 trivial trivial trivial trivial rfl (by omega) (Tryd.sorts76 _) (enters_of Tryd.func102 (by kernel_rfl) rfl) 103 #[.pointer (some ⟨w.heap.size, 0, none⟩)] trivial (enters_of Tryd.func103 (by kernel_rfl) rfl) _ _ hmax hbytes _ hseq

set_option maxHeartbeats 1000000 in
/-- **.. AND FOR THE nil MAP: nil.** -/
theorem Tryd.slices_Sorted_keys_nil_76_77 (w : World) :
    CallsIn Fence.wide 5 Tryd.prog 76 #[.func (.func 103) #[] #[.pointer (some ⟨w.heap.size, 0, none⟩)]] (w.alloc (.cells #[.map none] 124)) fun e w' => ∃ (v : Value) (ss : List (List UInt8)), e = .returned v ∧ ss = [] ∧
      w'.ownsRow (w.alloc (.cells #[.map none] 124)).heap.size 9 1 v ss.length ((ss.mergeSort (fun x y => decide (x ≤ y))).map encStr) ∧ (v = .slice none 0 0 ↔ ss = []) ∧ Below (w.alloc (.cells #[.map none] 124)).heap.size (w.alloc (.cells #[.map none] 124)) w' := by
  have hseq : SeqGives Fence.wide 2 Tryd.prog 103 #[.pointer (some ⟨w.heap.size, 0, none⟩)] encStr (fun ss : List (List UInt8) => ss = []) 0 (w.alloc (.cells #[.map none] 124)) :=
    AnyZ.keys_gives_nil (ρ := Tryd.keys77_ren) { Tryd.keys77 with } Fence.wide _ trivial rfl w.heap.size _ (by simp) (by simp)
  exact AnyZ.sorted_in Tryd.sorted76 Fence.wide 5 trivial trivial trivial trivial rfl (by omega) (Tryd.sorts76 _) (enters_of Tryd.func102 (by kernel_rfl) rfl) 103 #[.pointer (some ⟨w.heap.size, 0, none⟩)] trivial (enters_of Tryd.func103 (by kernel_rfl) rfl) _ 0 (Nat.zero_le _) (by omega) _ hseq
end Go.Proofs
