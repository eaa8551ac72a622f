/-
  NARROWER THAN 'FOR EVERY INPUT', by the rows' own cells (each row's printed sentence says how): WatchPlays: laid · WatchKeeps: laid · WatchPieces: laid · ScopeWithin: laid · ScopeKeepsApart: laid · ScopeAnswers: laid · ScopeTexts: laid · ScopeParts: laid · WatchReplays: laid · WatchEnough: laid · WatchApart: laid.
  DERIVED. THE GIVEN ROWS OF THIS SEAT. 11 by the template 'for every input the law returns true; each argument reads behind the call as it read before'; 0 by the template 'total and deterministic' (their statements: YtdchffghgajbfaaDoorTotals.lean).
  GIVEN WITH THE SEED: the statements are not yours to turn. If you find one false, say at which input.
  Laid BY PROGRAM, IN A SANDBOX (cutbox-rows.mjs): the forced cells as the released guide's own fill.sh prints them over the translation b6aef56f6ba798df… (all of the seat's roots in one cut). By AI agents, Wed Nov 11 2026. No macro, syntax, notation, axiom, sorry.
-/
import Derived.Test.YtdchffghgajbfaaDoorChecked
import GoSem.PinnedTables
import GoSem.Claim
import GoSem.ClaimJoined
import GoSem.ClaimMapViews
import Derived.JoinedTies
import Derived.KernelRfl
namespace Go.Proofs.YtdchffghgajbfaaDoor
/- THE CELL 'sum', in the pinned program and in every row, IS THE sha256 OF THE DUMP (.gsa) THAT YtdchffghgajbfaaDoorProg.lean LOADS. Nothing in Lean hashes anything: it is a label: what it is worth is what the hold of that sum in a sandbox is worth. -/
noncomputable def Tryd.pinned : Pinned := { name := "ytdchffghgajbfaadoor", sum := "b6aef56f6ba798df36efeb0e15dbf3cf159708958682ebc6e779f9946c4c2d6d", checked := Tryd.checked }
namespace Rows
def none {H : Type} : Left H := { results := [], args := [] }

/- WHAT THE LISTED PACKAGE-LEVEL VARIABLES READ AS WHEN THE CALL BEGINS. Each datum BY PROGRAM (the guide's laid-datum.mjs) off the statement by which the dump's own 'gosem.cut.vars' lays the variable. In a bare row this is a premise. The card (YtdchffghgajbfaaDoorCards.lean) ties it to the program's text. -/
def laid_unicode_utf8_acceptRanges {H : Type} : DataW H := .agg [.agg [.lit (.int .u8 128), .lit (.int .u8 191)], .agg [.lit (.int .u8 160), .lit (.int .u8 191)], .agg [.lit (.int .u8 128), .lit (.int .u8 159)], .agg [.lit (.int .u8 144), .lit (.int .u8 191)], .agg [.lit (.int .u8 128), .lit (.int .u8 143)], .agg [.lit (.int .u8 0), .lit (.int .u8 0)], .agg [.lit (.int .u8 0), .lit (.int .u8 0)], .agg [.lit (.int .u8 0), .lit (.int .u8 0)], .agg [.lit (.int .u8 0), .lit (.int .u8 0)], .agg [.lit (.int .u8 0), .lit (.int .u8 0)], .agg [.lit (.int .u8 0), .lit (.int .u8 0)], .agg [.lit (.int .u8 0), .lit (.int .u8 0)], .agg [.lit (.int .u8 0), .lit (.int .u8 0)], .agg [.lit (.int .u8 0), .lit (.int .u8 0)], .agg [.lit (.int .u8 0), .lit (.int .u8 0)], .agg [.lit (.int .u8 0), .lit (.int .u8 0)]]
def laid_bursar_bursarlaw22_mark {H : Type} : DataW H := .agg [.lit (.int .i64 77), .lit (.int .i64 0), .lit (.bool false), .lit (.string []), .lit (.string [109, 97, 114, 107])]
/-- One of Go's own tables, pinned by name: the form's constant. -/
def laid_unicode_utf8_first : DataW Unit := Go.Pinned.utf8First
def laid_bursar_scope_texts {H : Type} : DataW H := .agg [.lit (.string [97, 108, 108]), .lit (.string [98, 101, 115, 116]), .lit (.string [110, 111, 116, 98, 101, 115, 116]), .lit (.string [101, 110, 100, 115]), .lit (.string [110, 111, 116, 101, 110, 100, 115]), .lit (.string [112, 114, 105, 111, 114, 105, 116, 121, 61])]

/-- 'bursarlaw22.WatchPlays': WHATEVER THE INPUT: true; the input reads as it did. -/
def watchPlaysSpec : ChangeSpec := { name := "watchPlays", fn := fun _ => fun
  | [d1, d2, d3] => { results := [.lit (.bool true)], args := [d1, d2, d3] }
  | _ => none }
def watchPlaysRow : OpenClaim := { program := "ytdchffghgajbfaadoor", sum := "b6aef56f6ba798df36efeb0e15dbf3cf159708958682ebc6e779f9946c4c2d6d", func := "bursar/bursarlaw22.WatchPlays", spec := "watchPlays", inPlace := ["internal/bytealg.CountString", "internal/bytealg.IndexByteString", "internal/bytealg.IndexString"], unfollowed := true, recurses := true, named := ["unicode/utf8.first", "unicode/utf8.acceptRanges", "internal/bytealg.MaxLen", "bursar/bursarlaw22.mark"], apart := false, laid := [("unicode/utf8.acceptRanges", laid_unicode_utf8_acceptRanges), ("bursar/bursarlaw22.mark", laid_bursar_bursarlaw22_mark), ("unicode/utf8.first", laid_unicode_utf8_first)] }
def WatchPlaysSaid : Prop := watchPlaysRow.holds Tryd.pinned (OpenSpec.ofChange watchPlaysSpec)

/-- ITS FALSE NEIGHBOUR: 'it returns false'. Refute it at one input. -/
def watchPlaysWrong : ChangeSpec := { name := "watchPlays", fn := fun _ => fun
  | [d1, d2, d3] => { results := [.lit (.bool false)], args := [d1, d2, d3] }
  | _ => none }
def WatchPlaysWrongFalsely : Prop := watchPlaysRow.holds Tryd.pinned (OpenSpec.ofChange watchPlaysWrong)

/-- 'bursarlaw22.WatchKeeps': WHATEVER THE INPUT: true; the input reads as it did. -/
def watchKeepsSpec : ChangeSpec := { name := "watchKeeps", fn := fun _ => fun
  | [d1, d2] => { results := [.lit (.bool true)], args := [d1, d2] }
  | _ => none }
def watchKeepsRow : OpenClaim := { program := "ytdchffghgajbfaadoor", sum := "b6aef56f6ba798df36efeb0e15dbf3cf159708958682ebc6e779f9946c4c2d6d", func := "bursar/bursarlaw22.WatchKeeps", spec := "watchKeeps", inPlace := ["internal/bytealg.CountString", "internal/bytealg.IndexByteString", "internal/bytealg.IndexString"], unfollowed := true, recurses := true, named := ["unicode/utf8.first", "unicode/utf8.acceptRanges", "internal/bytealg.MaxLen", "bursar/bursarlaw22.mark"], apart := false, laid := [("unicode/utf8.acceptRanges", laid_unicode_utf8_acceptRanges), ("bursar/bursarlaw22.mark", laid_bursar_bursarlaw22_mark), ("unicode/utf8.first", laid_unicode_utf8_first)] }
def WatchKeepsSaid : Prop := watchKeepsRow.holds Tryd.pinned (OpenSpec.ofChange watchKeepsSpec)

/-- ITS FALSE NEIGHBOUR: 'it returns false'. Refute it at one input. -/
def watchKeepsWrong : ChangeSpec := { name := "watchKeeps", fn := fun _ => fun
  | [d1, d2] => { results := [.lit (.bool false)], args := [d1, d2] }
  | _ => none }
def WatchKeepsWrongFalsely : Prop := watchKeepsRow.holds Tryd.pinned (OpenSpec.ofChange watchKeepsWrong)

/-- 'bursarlaw22.WatchPieces': WHATEVER THE INPUT: true; the input reads as it did. -/
def watchPiecesSpec : ChangeSpec := { name := "watchPieces", fn := fun _ => fun
  | [d1, d2, d3, d4, d5] => { results := [.lit (.bool true)], args := [d1, d2, d3, d4, d5] }
  | _ => none }
def watchPiecesRow : OpenClaim := { program := "ytdchffghgajbfaadoor", sum := "b6aef56f6ba798df36efeb0e15dbf3cf159708958682ebc6e779f9946c4c2d6d", func := "bursar/bursarlaw22.WatchPieces", spec := "watchPieces", inPlace := ["internal/bytealg.CountString", "internal/bytealg.IndexByteString", "internal/bytealg.IndexString"], unfollowed := true, recurses := true, named := ["unicode/utf8.first", "unicode/utf8.acceptRanges", "internal/bytealg.MaxLen", "bursar/bursarlaw22.mark"], apart := false, laid := [("unicode/utf8.acceptRanges", laid_unicode_utf8_acceptRanges), ("bursar/bursarlaw22.mark", laid_bursar_bursarlaw22_mark), ("unicode/utf8.first", laid_unicode_utf8_first)] }
def WatchPiecesSaid : Prop := watchPiecesRow.holds Tryd.pinned (OpenSpec.ofChange watchPiecesSpec)

/-- ITS FALSE NEIGHBOUR: 'it returns false'. Refute it at one input. -/
def watchPiecesWrong : ChangeSpec := { name := "watchPieces", fn := fun _ => fun
  | [d1, d2, d3, d4, d5] => { results := [.lit (.bool false)], args := [d1, d2, d3, d4, d5] }
  | _ => none }
def WatchPiecesWrongFalsely : Prop := watchPiecesRow.holds Tryd.pinned (OpenSpec.ofChange watchPiecesWrong)

/-- 'bursarlaw15.ScopeWithin': WHATEVER THE INPUT: true; the input reads as it did. -/
def scopeWithinSpec : ChangeSpec := { name := "scopeWithin", fn := fun _ => fun
  | [d1, d2, d3] => { results := [.lit (.bool true)], args := [d1, d2, d3] }
  | _ => none }
def scopeWithinRow : OpenClaim := { program := "ytdchffghgajbfaadoor", sum := "b6aef56f6ba798df36efeb0e15dbf3cf159708958682ebc6e779f9946c4c2d6d", func := "bursar/bursarlaw15.ScopeWithin", spec := "scopeWithin", inPlace := ["internal/bytealg.abigen_runtime_cmpstring"], unfollowed := true, recurses := true, named := ["bursar/scope.texts"], apart := false, laid := [("bursar/scope.texts", laid_bursar_scope_texts)] }
def ScopeWithinSaid : Prop := scopeWithinRow.holds Tryd.pinned (OpenSpec.ofChange scopeWithinSpec)

/-- ITS FALSE NEIGHBOUR: 'it returns false'. Refute it at one input. -/
def scopeWithinWrong : ChangeSpec := { name := "scopeWithin", fn := fun _ => fun
  | [d1, d2, d3] => { results := [.lit (.bool false)], args := [d1, d2, d3] }
  | _ => none }
def ScopeWithinWrongFalsely : Prop := scopeWithinRow.holds Tryd.pinned (OpenSpec.ofChange scopeWithinWrong)

/-- 'bursarlaw15.ScopeKeepsApart': WHATEVER THE INPUT: true; the input reads as it did. -/
def scopeKeepsApartSpec : ChangeSpec := { name := "scopeKeepsApart", fn := fun _ => fun
  | [d] => { results := [.lit (.bool true)], args := [d] }
  | _ => none }
def scopeKeepsApartRow : OpenClaim := { program := "ytdchffghgajbfaadoor", sum := "b6aef56f6ba798df36efeb0e15dbf3cf159708958682ebc6e779f9946c4c2d6d", func := "bursar/bursarlaw15.ScopeKeepsApart", spec := "scopeKeepsApart", inPlace := ["internal/bytealg.abigen_runtime_cmpstring"], unfollowed := true, recurses := true, named := ["bursar/scope.texts"], apart := false, laid := [("bursar/scope.texts", laid_bursar_scope_texts)] }
def ScopeKeepsApartSaid : Prop := scopeKeepsApartRow.holds Tryd.pinned (OpenSpec.ofChange scopeKeepsApartSpec)

/-- ITS FALSE NEIGHBOUR: 'it returns false'. Refute it at one input. -/
def scopeKeepsApartWrong : ChangeSpec := { name := "scopeKeepsApart", fn := fun _ => fun
  | [d] => { results := [.lit (.bool false)], args := [d] }
  | _ => none }
def ScopeKeepsApartWrongFalsely : Prop := scopeKeepsApartRow.holds Tryd.pinned (OpenSpec.ofChange scopeKeepsApartWrong)

/-- 'bursarlaw15.ScopeAnswers': WHATEVER THE INPUT: true; the input reads as it did. -/
def scopeAnswersSpec : ChangeSpec := { name := "scopeAnswers", fn := fun _ => fun
  | [d1, d2, d3] => { results := [.lit (.bool true)], args := [d1, d2, d3] }
  | _ => none }
def scopeAnswersRow : OpenClaim := { program := "ytdchffghgajbfaadoor", sum := "b6aef56f6ba798df36efeb0e15dbf3cf159708958682ebc6e779f9946c4c2d6d", func := "bursar/bursarlaw15.ScopeAnswers", spec := "scopeAnswers", inPlace := ["internal/bytealg.abigen_runtime_cmpstring"], unfollowed := true, recurses := true, named := ["bursar/scope.texts"], apart := false, laid := [("bursar/scope.texts", laid_bursar_scope_texts)] }
def ScopeAnswersSaid : Prop := scopeAnswersRow.holds Tryd.pinned (OpenSpec.ofChange scopeAnswersSpec)

/-- ITS FALSE NEIGHBOUR: 'it returns false'. Refute it at one input. -/
def scopeAnswersWrong : ChangeSpec := { name := "scopeAnswers", fn := fun _ => fun
  | [d1, d2, d3] => { results := [.lit (.bool false)], args := [d1, d2, d3] }
  | _ => none }
def ScopeAnswersWrongFalsely : Prop := scopeAnswersRow.holds Tryd.pinned (OpenSpec.ofChange scopeAnswersWrong)

/-- 'bursarlaw15.ScopeTexts': WHATEVER THE INPUT: true; the input reads as it did. -/
def scopeTextsSpec : ChangeSpec := { name := "scopeTexts", fn := fun _ => fun
  | [d1, d2] => { results := [.lit (.bool true)], args := [d1, d2] }
  | _ => none }
def scopeTextsRow : OpenClaim := { program := "ytdchffghgajbfaadoor", sum := "b6aef56f6ba798df36efeb0e15dbf3cf159708958682ebc6e779f9946c4c2d6d", func := "bursar/bursarlaw15.ScopeTexts", spec := "scopeTexts", inPlace := ["internal/bytealg.abigen_runtime_cmpstring"], unfollowed := true, recurses := true, named := ["bursar/scope.texts"], apart := false, laid := [("bursar/scope.texts", laid_bursar_scope_texts)] }
def ScopeTextsSaid : Prop := scopeTextsRow.holds Tryd.pinned (OpenSpec.ofChange scopeTextsSpec)

/-- ITS FALSE NEIGHBOUR: 'it returns false'. Refute it at one input. -/
def scopeTextsWrong : ChangeSpec := { name := "scopeTexts", fn := fun _ => fun
  | [d1, d2] => { results := [.lit (.bool false)], args := [d1, d2] }
  | _ => none }
def ScopeTextsWrongFalsely : Prop := scopeTextsRow.holds Tryd.pinned (OpenSpec.ofChange scopeTextsWrong)

/-- 'bursarlaw15.ScopeParts': WHATEVER THE INPUT: true; the input reads as it did. -/
def scopePartsSpec : ChangeSpec := { name := "scopeParts", fn := fun _ => fun
  | [d] => { results := [.lit (.bool true)], args := [d] }
  | _ => none }
def scopePartsRow : OpenClaim := { program := "ytdchffghgajbfaadoor", sum := "b6aef56f6ba798df36efeb0e15dbf3cf159708958682ebc6e779f9946c4c2d6d", func := "bursar/bursarlaw15.ScopeParts", spec := "scopeParts", inPlace := ["internal/bytealg.abigen_runtime_cmpstring"], unfollowed := true, recurses := true, named := ["bursar/scope.texts"], apart := false, laid := [("bursar/scope.texts", laid_bursar_scope_texts)] }
def ScopePartsSaid : Prop := scopePartsRow.holds Tryd.pinned (OpenSpec.ofChange scopePartsSpec)

/-- ITS FALSE NEIGHBOUR: 'it returns false'. Refute it at one input. -/
def scopePartsWrong : ChangeSpec := { name := "scopeParts", fn := fun _ => fun
  | [d] => { results := [.lit (.bool false)], args := [d] }
  | _ => none }
def ScopePartsWrongFalsely : Prop := scopePartsRow.holds Tryd.pinned (OpenSpec.ofChange scopePartsWrong)

/-- 'bursarlaw22.WatchReplays': WHATEVER THE INPUT: true; the input reads as it did. -/
def watchReplaysSpec : ChangeSpec := { name := "watchReplays", fn := fun _ => fun
  | [d1, d2, d3, d4] => { results := [.lit (.bool true)], args := [d1, d2, d3, d4] }
  | _ => none }
def watchReplaysRow : OpenClaim := { program := "ytdchffghgajbfaadoor", sum := "b6aef56f6ba798df36efeb0e15dbf3cf159708958682ebc6e779f9946c4c2d6d", func := "bursar/bursarlaw22.WatchReplays", spec := "watchReplays", inPlace := ["internal/bytealg.CountString", "internal/bytealg.IndexByteString", "internal/bytealg.IndexString"], unfollowed := true, recurses := true, named := ["unicode/utf8.first", "unicode/utf8.acceptRanges", "internal/bytealg.MaxLen", "bursar/bursarlaw22.mark"], apart := false, laid := [("unicode/utf8.acceptRanges", laid_unicode_utf8_acceptRanges), ("bursar/bursarlaw22.mark", laid_bursar_bursarlaw22_mark), ("unicode/utf8.first", laid_unicode_utf8_first)] }
def WatchReplaysSaid : Prop := watchReplaysRow.holds Tryd.pinned (OpenSpec.ofChange watchReplaysSpec)

/-- ITS FALSE NEIGHBOUR: 'it returns false'. Refute it at one input. -/
def watchReplaysWrong : ChangeSpec := { name := "watchReplays", fn := fun _ => fun
  | [d1, d2, d3, d4] => { results := [.lit (.bool false)], args := [d1, d2, d3, d4] }
  | _ => none }
def WatchReplaysWrongFalsely : Prop := watchReplaysRow.holds Tryd.pinned (OpenSpec.ofChange watchReplaysWrong)

/-- 'bursarlaw22.WatchEnough': WHATEVER THE INPUT: true; the input reads as it did. -/
def watchEnoughSpec : ChangeSpec := { name := "watchEnough", fn := fun _ => fun
  | [d1, d2, d3, d4, d5] => { results := [.lit (.bool true)], args := [d1, d2, d3, d4, d5] }
  | _ => none }
def watchEnoughRow : OpenClaim := { program := "ytdchffghgajbfaadoor", sum := "b6aef56f6ba798df36efeb0e15dbf3cf159708958682ebc6e779f9946c4c2d6d", func := "bursar/bursarlaw22.WatchEnough", spec := "watchEnough", inPlace := ["internal/bytealg.CountString", "internal/bytealg.IndexByteString", "internal/bytealg.IndexString"], unfollowed := true, recurses := true, named := ["unicode/utf8.first", "unicode/utf8.acceptRanges", "internal/bytealg.MaxLen", "bursar/bursarlaw22.mark"], apart := false, laid := [("unicode/utf8.acceptRanges", laid_unicode_utf8_acceptRanges), ("bursar/bursarlaw22.mark", laid_bursar_bursarlaw22_mark), ("unicode/utf8.first", laid_unicode_utf8_first)] }
def WatchEnoughSaid : Prop := watchEnoughRow.holds Tryd.pinned (OpenSpec.ofChange watchEnoughSpec)

/-- ITS FALSE NEIGHBOUR: 'it returns false'. Refute it at one input. -/
def watchEnoughWrong : ChangeSpec := { name := "watchEnough", fn := fun _ => fun
  | [d1, d2, d3, d4, d5] => { results := [.lit (.bool false)], args := [d1, d2, d3, d4, d5] }
  | _ => none }
def WatchEnoughWrongFalsely : Prop := watchEnoughRow.holds Tryd.pinned (OpenSpec.ofChange watchEnoughWrong)

/-- 'bursarlaw22.WatchApart': WHATEVER THE INPUT: true; the input reads as it did. -/
def watchApartSpec : ChangeSpec := { name := "watchApart", fn := fun _ => fun
  | [d1, d2] => { results := [.lit (.bool true)], args := [d1, d2] }
  | _ => none }
def watchApartRow : OpenClaim := { program := "ytdchffghgajbfaadoor", sum := "b6aef56f6ba798df36efeb0e15dbf3cf159708958682ebc6e779f9946c4c2d6d", func := "bursar/bursarlaw22.WatchApart", spec := "watchApart", inPlace := ["internal/bytealg.CountString", "internal/bytealg.IndexByteString", "internal/bytealg.IndexString"], unfollowed := true, recurses := true, named := ["bursar/bursarlaw22.mark", "unicode/utf8.first", "unicode/utf8.acceptRanges", "internal/bytealg.MaxLen"], apart := false, laid := [("unicode/utf8.acceptRanges", laid_unicode_utf8_acceptRanges), ("bursar/bursarlaw22.mark", laid_bursar_bursarlaw22_mark), ("unicode/utf8.first", laid_unicode_utf8_first)] }
def WatchApartSaid : Prop := watchApartRow.holds Tryd.pinned (OpenSpec.ofChange watchApartSpec)

/-- ITS FALSE NEIGHBOUR: 'it returns false'. Refute it at one input. -/
def watchApartWrong : ChangeSpec := { name := "watchApart", fn := fun _ => fun
  | [d1, d2] => { results := [.lit (.bool false)], args := [d1, d2] }
  | _ => none }
def WatchApartWrongFalsely : Prop := watchApartRow.holds Tryd.pinned (OpenSpec.ofChange watchApartWrong)

/- THE SECOND FORM. 'bulk': how many values and letters a reading holds, each counted each time it is reached (what is shared counts as often as it is met; a slice's spare places count too). A statement '..UptoSaid' is the law's where the arguments, and the package variables that the reading takes, are together of bulk at most 1048576: NARROWER than '..Said'. Prove '..Said' where nothing that the law and all that it calls make is longer than what came in: it says more and counts as full. Else prove '..UptoSaid'. A law counts once. -/
mutual
def uptoBulk {H : Type} : DataW H → Nat
  | .lit (.string bytes) => bytes.length + 1
  | .lit _ => 1
  | .nil => 1
  | .ptr d => uptoBulk d + 1
  | .slice elems spare => uptoBulkAll elems + uptoBulkAll spare + 1
  | .agg parts => uptoBulkAll parts + 1
  | .iface _ d => uptoBulk d + 1
  | .map entries => uptoBulkEntries entries + 1
  | .held _ => 1
def uptoBulkAll {H : Type} : List (DataW H) → Nat
  | [] => 0
  | d :: r => uptoBulk d + uptoBulkAll r
def uptoBulkEntries {H : Type} : List (Lit × DataW H) → Nat
  | [] => 0
  | x :: r => uptoBulkEntry x + uptoBulkEntries r
def uptoBulkEntry {H : Type} : Lit × DataW H → Nat
  | (.string bytes, d) => bytes.length + uptoBulk d + 1
  | (_, d) => uptoBulk d + 1
 end
def uptoSmall : (H : Type) → List (DataW H) → Bool := fun _ ds => decide (uptoBulkAll ds ≤ 1048576)
def OpenSpec.upto (s : _root_.Go.ChangeSpec) : _root_.Go.OpenSpec := { _root_.Go.OpenSpec.ofChange s with cond := some uptoSmall }

/-- 'bursarlaw22.WatchPlays', WHERE WHAT IT READS IS OF BULK AT MOST 1048576: true; the input reads as it did. -/
def watchPlaysUptoRow : OpenClaim := { program := "ytdchffghgajbfaadoor", sum := "b6aef56f6ba798df36efeb0e15dbf3cf159708958682ebc6e779f9946c4c2d6d", func := "bursar/bursarlaw22.WatchPlays", spec := "watchPlays", inPlace := ["internal/bytealg.CountString", "internal/bytealg.IndexByteString", "internal/bytealg.IndexString"], unfollowed := true, recurses := true, named := ["unicode/utf8.first", "unicode/utf8.acceptRanges", "internal/bytealg.MaxLen", "bursar/bursarlaw22.mark"], apart := false, laid := [("unicode/utf8.acceptRanges", laid_unicode_utf8_acceptRanges), ("bursar/bursarlaw22.mark", laid_bursar_bursarlaw22_mark), ("unicode/utf8.first", laid_unicode_utf8_first)], narrowed := true }
def WatchPlaysUptoSaid : Prop := watchPlaysUptoRow.holds Tryd.pinned (OpenSpec.upto watchPlaysSpec)

/-- 'bursarlaw22.WatchKeeps', WHERE WHAT IT READS IS OF BULK AT MOST 1048576: true; the input reads as it did. -/
def watchKeepsUptoRow : OpenClaim := { program := "ytdchffghgajbfaadoor", sum := "b6aef56f6ba798df36efeb0e15dbf3cf159708958682ebc6e779f9946c4c2d6d", func := "bursar/bursarlaw22.WatchKeeps", spec := "watchKeeps", inPlace := ["internal/bytealg.CountString", "internal/bytealg.IndexByteString", "internal/bytealg.IndexString"], unfollowed := true, recurses := true, named := ["unicode/utf8.first", "unicode/utf8.acceptRanges", "internal/bytealg.MaxLen", "bursar/bursarlaw22.mark"], apart := false, laid := [("unicode/utf8.acceptRanges", laid_unicode_utf8_acceptRanges), ("bursar/bursarlaw22.mark", laid_bursar_bursarlaw22_mark), ("unicode/utf8.first", laid_unicode_utf8_first)], narrowed := true }
def WatchKeepsUptoSaid : Prop := watchKeepsUptoRow.holds Tryd.pinned (OpenSpec.upto watchKeepsSpec)

/-- 'bursarlaw22.WatchPieces', WHERE WHAT IT READS IS OF BULK AT MOST 1048576: true; the input reads as it did. -/
def watchPiecesUptoRow : OpenClaim := { program := "ytdchffghgajbfaadoor", sum := "b6aef56f6ba798df36efeb0e15dbf3cf159708958682ebc6e779f9946c4c2d6d", func := "bursar/bursarlaw22.WatchPieces", spec := "watchPieces", inPlace := ["internal/bytealg.CountString", "internal/bytealg.IndexByteString", "internal/bytealg.IndexString"], unfollowed := true, recurses := true, named := ["unicode/utf8.first", "unicode/utf8.acceptRanges", "internal/bytealg.MaxLen", "bursar/bursarlaw22.mark"], apart := false, laid := [("unicode/utf8.acceptRanges", laid_unicode_utf8_acceptRanges), ("bursar/bursarlaw22.mark", laid_bursar_bursarlaw22_mark), ("unicode/utf8.first", laid_unicode_utf8_first)], narrowed := true }
def WatchPiecesUptoSaid : Prop := watchPiecesUptoRow.holds Tryd.pinned (OpenSpec.upto watchPiecesSpec)

/-- 'bursarlaw15.ScopeWithin', WHERE WHAT IT READS IS OF BULK AT MOST 1048576: true; the input reads as it did. -/
def scopeWithinUptoRow : OpenClaim := { program := "ytdchffghgajbfaadoor", sum := "b6aef56f6ba798df36efeb0e15dbf3cf159708958682ebc6e779f9946c4c2d6d", func := "bursar/bursarlaw15.ScopeWithin", spec := "scopeWithin", inPlace := ["internal/bytealg.abigen_runtime_cmpstring"], unfollowed := true, recurses := true, named := ["bursar/scope.texts"], apart := false, laid := [("bursar/scope.texts", laid_bursar_scope_texts)], narrowed := true }
def ScopeWithinUptoSaid : Prop := scopeWithinUptoRow.holds Tryd.pinned (OpenSpec.upto scopeWithinSpec)

/-- 'bursarlaw15.ScopeKeepsApart', WHERE WHAT IT READS IS OF BULK AT MOST 1048576: true; the input reads as it did. -/
def scopeKeepsApartUptoRow : OpenClaim := { program := "ytdchffghgajbfaadoor", sum := "b6aef56f6ba798df36efeb0e15dbf3cf159708958682ebc6e779f9946c4c2d6d", func := "bursar/bursarlaw15.ScopeKeepsApart", spec := "scopeKeepsApart", inPlace := ["internal/bytealg.abigen_runtime_cmpstring"], unfollowed := true, recurses := true, named := ["bursar/scope.texts"], apart := false, laid := [("bursar/scope.texts", laid_bursar_scope_texts)], narrowed := true }
def ScopeKeepsApartUptoSaid : Prop := scopeKeepsApartUptoRow.holds Tryd.pinned (OpenSpec.upto scopeKeepsApartSpec)

/-- 'bursarlaw15.ScopeAnswers', WHERE WHAT IT READS IS OF BULK AT MOST 1048576: true; the input reads as it did. -/
def scopeAnswersUptoRow : OpenClaim := { program := "ytdchffghgajbfaadoor", sum := "b6aef56f6ba798df36efeb0e15dbf3cf159708958682ebc6e779f9946c4c2d6d", func := "bursar/bursarlaw15.ScopeAnswers", spec := "scopeAnswers", inPlace := ["internal/bytealg.abigen_runtime_cmpstring"], unfollowed := true, recurses := true, named := ["bursar/scope.texts"], apart := false, laid := [("bursar/scope.texts", laid_bursar_scope_texts)], narrowed := true }
def ScopeAnswersUptoSaid : Prop := scopeAnswersUptoRow.holds Tryd.pinned (OpenSpec.upto scopeAnswersSpec)

/-- 'bursarlaw15.ScopeTexts', WHERE WHAT IT READS IS OF BULK AT MOST 1048576: true; the input reads as it did. -/
def scopeTextsUptoRow : OpenClaim := { program := "ytdchffghgajbfaadoor", sum := "b6aef56f6ba798df36efeb0e15dbf3cf159708958682ebc6e779f9946c4c2d6d", func := "bursar/bursarlaw15.ScopeTexts", spec := "scopeTexts", inPlace := ["internal/bytealg.abigen_runtime_cmpstring"], unfollowed := true, recurses := true, named := ["bursar/scope.texts"], apart := false, laid := [("bursar/scope.texts", laid_bursar_scope_texts)], narrowed := true }
def ScopeTextsUptoSaid : Prop := scopeTextsUptoRow.holds Tryd.pinned (OpenSpec.upto scopeTextsSpec)

/-- 'bursarlaw15.ScopeParts', WHERE WHAT IT READS IS OF BULK AT MOST 1048576: true; the input reads as it did. -/
def scopePartsUptoRow : OpenClaim := { program := "ytdchffghgajbfaadoor", sum := "b6aef56f6ba798df36efeb0e15dbf3cf159708958682ebc6e779f9946c4c2d6d", func := "bursar/bursarlaw15.ScopeParts", spec := "scopeParts", inPlace := ["internal/bytealg.abigen_runtime_cmpstring"], unfollowed := true, recurses := true, named := ["bursar/scope.texts"], apart := false, laid := [("bursar/scope.texts", laid_bursar_scope_texts)], narrowed := true }
def ScopePartsUptoSaid : Prop := scopePartsUptoRow.holds Tryd.pinned (OpenSpec.upto scopePartsSpec)

/-- 'bursarlaw22.WatchReplays', WHERE WHAT IT READS IS OF BULK AT MOST 1048576: true; the input reads as it did. -/
def watchReplaysUptoRow : OpenClaim := { program := "ytdchffghgajbfaadoor", sum := "b6aef56f6ba798df36efeb0e15dbf3cf159708958682ebc6e779f9946c4c2d6d", func := "bursar/bursarlaw22.WatchReplays", spec := "watchReplays", inPlace := ["internal/bytealg.CountString", "internal/bytealg.IndexByteString", "internal/bytealg.IndexString"], unfollowed := true, recurses := true, named := ["unicode/utf8.first", "unicode/utf8.acceptRanges", "internal/bytealg.MaxLen", "bursar/bursarlaw22.mark"], apart := false, laid := [("unicode/utf8.acceptRanges", laid_unicode_utf8_acceptRanges), ("bursar/bursarlaw22.mark", laid_bursar_bursarlaw22_mark), ("unicode/utf8.first", laid_unicode_utf8_first)], narrowed := true }
def WatchReplaysUptoSaid : Prop := watchReplaysUptoRow.holds Tryd.pinned (OpenSpec.upto watchReplaysSpec)

/-- 'bursarlaw22.WatchEnough', WHERE WHAT IT READS IS OF BULK AT MOST 1048576: true; the input reads as it did. -/
def watchEnoughUptoRow : OpenClaim := { program := "ytdchffghgajbfaadoor", sum := "b6aef56f6ba798df36efeb0e15dbf3cf159708958682ebc6e779f9946c4c2d6d", func := "bursar/bursarlaw22.WatchEnough", spec := "watchEnough", inPlace := ["internal/bytealg.CountString", "internal/bytealg.IndexByteString", "internal/bytealg.IndexString"], unfollowed := true, recurses := true, named := ["unicode/utf8.first", "unicode/utf8.acceptRanges", "internal/bytealg.MaxLen", "bursar/bursarlaw22.mark"], apart := false, laid := [("unicode/utf8.acceptRanges", laid_unicode_utf8_acceptRanges), ("bursar/bursarlaw22.mark", laid_bursar_bursarlaw22_mark), ("unicode/utf8.first", laid_unicode_utf8_first)], narrowed := true }
def WatchEnoughUptoSaid : Prop := watchEnoughUptoRow.holds Tryd.pinned (OpenSpec.upto watchEnoughSpec)

/-- 'bursarlaw22.WatchApart', WHERE WHAT IT READS IS OF BULK AT MOST 1048576: true; the input reads as it did. -/
def watchApartUptoRow : OpenClaim := { program := "ytdchffghgajbfaadoor", sum := "b6aef56f6ba798df36efeb0e15dbf3cf159708958682ebc6e779f9946c4c2d6d", func := "bursar/bursarlaw22.WatchApart", spec := "watchApart", inPlace := ["internal/bytealg.CountString", "internal/bytealg.IndexByteString", "internal/bytealg.IndexString"], unfollowed := true, recurses := true, named := ["bursar/bursarlaw22.mark", "unicode/utf8.first", "unicode/utf8.acceptRanges", "internal/bytealg.MaxLen"], apart := false, laid := [("unicode/utf8.acceptRanges", laid_unicode_utf8_acceptRanges), ("bursar/bursarlaw22.mark", laid_bursar_bursarlaw22_mark), ("unicode/utf8.first", laid_unicode_utf8_first)], narrowed := true }
def WatchApartUptoSaid : Prop := watchApartUptoRow.holds Tryd.pinned (OpenSpec.upto watchApartSpec)

end Rows
end Go.Proofs.YtdchffghgajbfaaDoor
