/-
  NARROWER THAN 'FOR EVERY INPUT', by the rows' own cells (each row's printed sentence says how): LedgerOfMany: laid · LedgerApart: laid · LedgerOrders: laid · LedgerPlays: laid · LedgerUndoes: laid · LedgerSums: laid · LedgerClimbs: laid.
  DERIVED. THE GIVEN ROWS OF THIS SEAT. 7 by the template 'for every input the law returns true; each argument reads behind the call as it read before'; 0 by the template 'total and deterministic' (their statements: YtalkdddeiebfmaaGreatDoorTotals.lean).
  GIVEN WITH THE SEED: the statements are not yours to turn. If you find one false, say at which input.
  Laid BY PROGRAM, IN A SANDBOX (cutbox-rows.mjs): the forced cells as the released guide's own fill.sh prints them over the translation e77d3bca92f54be0… (all of the seat's roots in one cut). By AI agents, Wed Nov 11 2026. No macro, syntax, notation, axiom, sorry.
-/
import Derived.Test.YtalkdddeiebfmaaGreatDoorChecked
import GoSem.PinnedTables
import GoSem.Claim
import GoSem.ClaimJoined
import GoSem.ClaimMapViews
import Derived.JoinedTies
import Derived.KernelRfl
namespace Go.Proofs.YtalkdddeiebfmaaGreatDoor
/- THE CELL 'sum', in the pinned program and in every row, IS THE sha256 OF THE DUMP (.gsa) THAT YtalkdddeiebfmaaGreatDoorProg.lean LOADS. Nothing in Lean hashes anything: it is a label: what it is worth is what the hold of that sum in a sandbox is worth. -/
noncomputable def Tryz.pinned : Pinned := { name := "ytalkdddeiebfmaagreatdoor", sum := "e77d3bca92f54be0d29e416f0cdde0c6cef124ec910ae10332a00e34b37a40e0", checked := Tryz.checked }
namespace Rows
def none {H : Type} : Left H := { results := [], args := [] }

/- WHAT THE LISTED PACKAGE-LEVEL VARIABLES READ AS WHEN THE CALL BEGINS. Each datum BY PROGRAM (the guide's laid-datum.mjs) off the statement by which the dump's own 'gosem.cut.vars' lays the variable. In a bare row this is a premise. The card (YtalkdddeiebfmaaGreatDoorCards.lean) ties it to the program's text. -/
def laid_unicode_utf8_acceptRanges {H : Type} : DataW H := .agg [.agg [.lit (.int .u8 128), .lit (.int .u8 191)], .agg [.lit (.int .u8 160), .lit (.int .u8 191)], .agg [.lit (.int .u8 128), .lit (.int .u8 159)], .agg [.lit (.int .u8 144), .lit (.int .u8 191)], .agg [.lit (.int .u8 128), .lit (.int .u8 143)], .agg [.lit (.int .u8 0), .lit (.int .u8 0)], .agg [.lit (.int .u8 0), .lit (.int .u8 0)], .agg [.lit (.int .u8 0), .lit (.int .u8 0)], .agg [.lit (.int .u8 0), .lit (.int .u8 0)], .agg [.lit (.int .u8 0), .lit (.int .u8 0)], .agg [.lit (.int .u8 0), .lit (.int .u8 0)], .agg [.lit (.int .u8 0), .lit (.int .u8 0)], .agg [.lit (.int .u8 0), .lit (.int .u8 0)], .agg [.lit (.int .u8 0), .lit (.int .u8 0)], .agg [.lit (.int .u8 0), .lit (.int .u8 0)], .agg [.lit (.int .u8 0), .lit (.int .u8 0)]]
def laid_bursar_scope_texts {H : Type} : DataW H := .agg [.lit (.string [97, 108, 108]), .lit (.string [98, 101, 115, 116]), .lit (.string [110, 111, 116, 98, 101, 115, 116]), .lit (.string [101, 110, 100, 115]), .lit (.string [110, 111, 116, 101, 110, 100, 115]), .lit (.string [112, 114, 105, 111, 114, 105, 116, 121, 61])]
/-- One of Go's own tables, pinned by name: the form's constant. -/
def laid_unicode_utf8_first : DataW Unit := Go.Pinned.utf8First

/-- 'bursarlaw17.LedgerOfMany': WHATEVER THE INPUT: true; the input reads as it did. -/
def ledgerOfManySpec : ChangeSpec := { name := "ledgerOfMany", fn := fun _ => fun
  | [d] => { results := [.lit (.bool true)], args := [d] }
  | _ => none }
def ledgerOfManyRow : OpenClaim := { program := "ytalkdddeiebfmaagreatdoor", sum := "e77d3bca92f54be0d29e416f0cdde0c6cef124ec910ae10332a00e34b37a40e0", func := "bursar/bursarlaw17.LedgerOfMany", spec := "ledgerOfMany", inPlace := ["internal/bytealg.CountString", "internal/bytealg.IndexByteString", "internal/bytealg.IndexString", "internal/bytealg.abigen_runtime_cmpstring"], unfollowed := true, recurses := true, named := ["unicode/utf8.first", "unicode/utf8.acceptRanges", "internal/bytealg.MaxLen", "bursar/scope.texts"], plainKeys := false, apart := false, laid := [("unicode/utf8.acceptRanges", laid_unicode_utf8_acceptRanges), ("bursar/scope.texts", laid_bursar_scope_texts), ("unicode/utf8.first", laid_unicode_utf8_first)] }
def LedgerOfManySaid : Prop := ledgerOfManyRow.holds Tryz.pinned (OpenSpec.ofChange ledgerOfManySpec)

/-- ITS FALSE NEIGHBOUR: 'it returns false'. Refute it at one input. -/
def ledgerOfManyWrong : ChangeSpec := { name := "ledgerOfMany", fn := fun _ => fun
  | [d] => { results := [.lit (.bool false)], args := [d] }
  | _ => none }
def LedgerOfManyWrongFalsely : Prop := ledgerOfManyRow.holds Tryz.pinned (OpenSpec.ofChange ledgerOfManyWrong)

/-- 'bursarlaw17.LedgerApart': WHATEVER THE INPUT: true; the input reads as it did. -/
def ledgerApartSpec : ChangeSpec := { name := "ledgerApart", fn := fun _ => fun
  | [d] => { results := [.lit (.bool true)], args := [d] }
  | _ => none }
def ledgerApartRow : OpenClaim := { program := "ytalkdddeiebfmaagreatdoor", sum := "e77d3bca92f54be0d29e416f0cdde0c6cef124ec910ae10332a00e34b37a40e0", func := "bursar/bursarlaw17.LedgerApart", spec := "ledgerApart", inPlace := ["internal/bytealg.CountString", "internal/bytealg.IndexByteString", "internal/bytealg.IndexString", "internal/bytealg.abigen_runtime_cmpstring"], unfollowed := true, recurses := true, named := ["unicode/utf8.first", "unicode/utf8.acceptRanges", "internal/bytealg.MaxLen", "bursar/scope.texts"], plainKeys := false, apart := false, laid := [("unicode/utf8.acceptRanges", laid_unicode_utf8_acceptRanges), ("bursar/scope.texts", laid_bursar_scope_texts), ("unicode/utf8.first", laid_unicode_utf8_first)] }
def LedgerApartSaid : Prop := ledgerApartRow.holds Tryz.pinned (OpenSpec.ofChange ledgerApartSpec)

/-- ITS FALSE NEIGHBOUR: 'it returns false'. Refute it at one input. -/
def ledgerApartWrong : ChangeSpec := { name := "ledgerApart", fn := fun _ => fun
  | [d] => { results := [.lit (.bool false)], args := [d] }
  | _ => none }
def LedgerApartWrongFalsely : Prop := ledgerApartRow.holds Tryz.pinned (OpenSpec.ofChange ledgerApartWrong)

/-- 'bursarlaw17.LedgerOrders': WHATEVER THE INPUT: true; the input reads as it did. -/
def ledgerOrdersSpec : ChangeSpec := { name := "ledgerOrders", fn := fun _ => fun
  | [d1, d2] => { results := [.lit (.bool true)], args := [d1, d2] }
  | _ => none }
def ledgerOrdersRow : OpenClaim := { program := "ytalkdddeiebfmaagreatdoor", sum := "e77d3bca92f54be0d29e416f0cdde0c6cef124ec910ae10332a00e34b37a40e0", func := "bursar/bursarlaw17.LedgerOrders", spec := "ledgerOrders", inPlace := ["internal/bytealg.CountString", "internal/bytealg.IndexByteString", "internal/bytealg.IndexString", "internal/bytealg.abigen_runtime_cmpstring"], unfollowed := true, recurses := true, named := ["unicode/utf8.first", "unicode/utf8.acceptRanges", "internal/bytealg.MaxLen", "bursar/scope.texts"], plainKeys := false, apart := false, laid := [("unicode/utf8.acceptRanges", laid_unicode_utf8_acceptRanges), ("bursar/scope.texts", laid_bursar_scope_texts), ("unicode/utf8.first", laid_unicode_utf8_first)] }
def LedgerOrdersSaid : Prop := ledgerOrdersRow.holds Tryz.pinned (OpenSpec.ofChange ledgerOrdersSpec)

/-- ITS FALSE NEIGHBOUR: 'it returns false'. Refute it at one input. -/
def ledgerOrdersWrong : ChangeSpec := { name := "ledgerOrders", fn := fun _ => fun
  | [d1, d2] => { results := [.lit (.bool false)], args := [d1, d2] }
  | _ => none }
def LedgerOrdersWrongFalsely : Prop := ledgerOrdersRow.holds Tryz.pinned (OpenSpec.ofChange ledgerOrdersWrong)

/-- 'bursarlaw17.LedgerPlays': WHATEVER THE INPUT: true; the input reads as it did. -/
def ledgerPlaysSpec : ChangeSpec := { name := "ledgerPlays", fn := fun _ => fun
  | [d] => { results := [.lit (.bool true)], args := [d] }
  | _ => none }
def ledgerPlaysRow : OpenClaim := { program := "ytalkdddeiebfmaagreatdoor", sum := "e77d3bca92f54be0d29e416f0cdde0c6cef124ec910ae10332a00e34b37a40e0", func := "bursar/bursarlaw17.LedgerPlays", spec := "ledgerPlays", inPlace := ["internal/bytealg.CountString", "internal/bytealg.IndexByteString", "internal/bytealg.IndexString", "internal/bytealg.abigen_runtime_cmpstring"], unfollowed := true, recurses := true, named := ["unicode/utf8.first", "unicode/utf8.acceptRanges", "internal/bytealg.MaxLen", "bursar/scope.texts"], plainKeys := false, apart := false, laid := [("unicode/utf8.acceptRanges", laid_unicode_utf8_acceptRanges), ("bursar/scope.texts", laid_bursar_scope_texts), ("unicode/utf8.first", laid_unicode_utf8_first)] }
def LedgerPlaysSaid : Prop := ledgerPlaysRow.holds Tryz.pinned (OpenSpec.ofChange ledgerPlaysSpec)

/-- ITS FALSE NEIGHBOUR: 'it returns false'. Refute it at one input. -/
def ledgerPlaysWrong : ChangeSpec := { name := "ledgerPlays", fn := fun _ => fun
  | [d] => { results := [.lit (.bool false)], args := [d] }
  | _ => none }
def LedgerPlaysWrongFalsely : Prop := ledgerPlaysRow.holds Tryz.pinned (OpenSpec.ofChange ledgerPlaysWrong)

/-- 'bursarlaw17.LedgerUndoes': WHATEVER THE INPUT: true; the input reads as it did. -/
def ledgerUndoesSpec : ChangeSpec := { name := "ledgerUndoes", fn := fun _ => fun
  | [d1, d2, d3] => { results := [.lit (.bool true)], args := [d1, d2, d3] }
  | _ => none }
def ledgerUndoesRow : OpenClaim := { program := "ytalkdddeiebfmaagreatdoor", sum := "e77d3bca92f54be0d29e416f0cdde0c6cef124ec910ae10332a00e34b37a40e0", func := "bursar/bursarlaw17.LedgerUndoes", spec := "ledgerUndoes", inPlace := ["internal/bytealg.CountString", "internal/bytealg.IndexByteString", "internal/bytealg.IndexString", "internal/bytealg.abigen_runtime_cmpstring"], unfollowed := true, recurses := true, named := ["unicode/utf8.first", "unicode/utf8.acceptRanges", "internal/bytealg.MaxLen", "bursar/scope.texts"], plainKeys := false, apart := false, laid := [("unicode/utf8.acceptRanges", laid_unicode_utf8_acceptRanges), ("bursar/scope.texts", laid_bursar_scope_texts), ("unicode/utf8.first", laid_unicode_utf8_first)] }
def LedgerUndoesSaid : Prop := ledgerUndoesRow.holds Tryz.pinned (OpenSpec.ofChange ledgerUndoesSpec)

/-- ITS FALSE NEIGHBOUR: 'it returns false'. Refute it at one input. -/
def ledgerUndoesWrong : ChangeSpec := { name := "ledgerUndoes", fn := fun _ => fun
  | [d1, d2, d3] => { results := [.lit (.bool false)], args := [d1, d2, d3] }
  | _ => none }
def LedgerUndoesWrongFalsely : Prop := ledgerUndoesRow.holds Tryz.pinned (OpenSpec.ofChange ledgerUndoesWrong)

/-- 'bursarlaw17.LedgerSums': WHATEVER THE INPUT: true; the input reads as it did. -/
def ledgerSumsSpec : ChangeSpec := { name := "ledgerSums", fn := fun _ => fun
  | [d] => { results := [.lit (.bool true)], args := [d] }
  | _ => none }
def ledgerSumsRow : OpenClaim := { program := "ytalkdddeiebfmaagreatdoor", sum := "e77d3bca92f54be0d29e416f0cdde0c6cef124ec910ae10332a00e34b37a40e0", func := "bursar/bursarlaw17.LedgerSums", spec := "ledgerSums", inPlace := ["internal/bytealg.CountString", "internal/bytealg.IndexByteString", "internal/bytealg.IndexString", "internal/bytealg.abigen_runtime_cmpstring"], unfollowed := true, recurses := true, named := ["unicode/utf8.first", "unicode/utf8.acceptRanges", "internal/bytealg.MaxLen", "bursar/scope.texts"], plainKeys := false, apart := false, laid := [("unicode/utf8.acceptRanges", laid_unicode_utf8_acceptRanges), ("bursar/scope.texts", laid_bursar_scope_texts), ("unicode/utf8.first", laid_unicode_utf8_first)] }
def LedgerSumsSaid : Prop := ledgerSumsRow.holds Tryz.pinned (OpenSpec.ofChange ledgerSumsSpec)

/-- ITS FALSE NEIGHBOUR: 'it returns false'. Refute it at one input. -/
def ledgerSumsWrong : ChangeSpec := { name := "ledgerSums", fn := fun _ => fun
  | [d] => { results := [.lit (.bool false)], args := [d] }
  | _ => none }
def LedgerSumsWrongFalsely : Prop := ledgerSumsRow.holds Tryz.pinned (OpenSpec.ofChange ledgerSumsWrong)

/-- 'bursarlaw17.LedgerClimbs': WHATEVER THE INPUT: true; the input reads as it did. -/
def ledgerClimbsSpec : ChangeSpec := { name := "ledgerClimbs", fn := fun _ => fun
  | [d] => { results := [.lit (.bool true)], args := [d] }
  | _ => none }
def ledgerClimbsRow : OpenClaim := { program := "ytalkdddeiebfmaagreatdoor", sum := "e77d3bca92f54be0d29e416f0cdde0c6cef124ec910ae10332a00e34b37a40e0", func := "bursar/bursarlaw17.LedgerClimbs", spec := "ledgerClimbs", inPlace := ["internal/bytealg.CountString", "internal/bytealg.IndexByteString", "internal/bytealg.IndexString", "internal/bytealg.abigen_runtime_cmpstring"], unfollowed := true, recurses := true, named := ["unicode/utf8.first", "unicode/utf8.acceptRanges", "internal/bytealg.MaxLen", "bursar/scope.texts"], plainKeys := false, apart := false, laid := [("unicode/utf8.acceptRanges", laid_unicode_utf8_acceptRanges), ("bursar/scope.texts", laid_bursar_scope_texts), ("unicode/utf8.first", laid_unicode_utf8_first)] }
def LedgerClimbsSaid : Prop := ledgerClimbsRow.holds Tryz.pinned (OpenSpec.ofChange ledgerClimbsSpec)

/-- ITS FALSE NEIGHBOUR: 'it returns false'. Refute it at one input. -/
def ledgerClimbsWrong : ChangeSpec := { name := "ledgerClimbs", fn := fun _ => fun
  | [d] => { results := [.lit (.bool false)], args := [d] }
  | _ => none }
def LedgerClimbsWrongFalsely : Prop := ledgerClimbsRow.holds Tryz.pinned (OpenSpec.ofChange ledgerClimbsWrong)

/- THE SECOND FORM. 'bulk': how many values and letters a reading holds, each counted each time it is reached (what is shared counts as often as it is met; a slice's spare places count too). A statement '..UptoSaid' is the law's where the arguments, and the package variables that the reading takes, are together of bulk at most 1048576: NARROWER than '..Said'. Prove '..Said' where nothing that the law and all that it calls make is longer than what came in: it says more and counts as full. Else prove '..UptoSaid'. A law counts once. -/
mutual
def uptoBulk {H : Type} : DataW H → Nat
  | .lit (.string bytes) => bytes.length + 1
  | .lit _ => 1
  | .nil => 1
  | .ptr d => uptoBulk d + 1
  | .slice elems spare => uptoBulkAll elems + uptoBulkAll spare + 1
  | .agg parts => uptoBulkAll parts + 1
  | .iface _ d => uptoBulk d + 1
  | .map entries => uptoBulkEntries entries + 1
  | .held _ => 1
def uptoBulkAll {H : Type} : List (DataW H) → Nat
  | [] => 0
  | d :: r => uptoBulk d + uptoBulkAll r
def uptoBulkEntries {H : Type} : List (Lit × DataW H) → Nat
  | [] => 0
  | x :: r => uptoBulkEntry x + uptoBulkEntries r
def uptoBulkEntry {H : Type} : Lit × DataW H → Nat
  | (.string bytes, d) => bytes.length + uptoBulk d + 1
  | (_, d) => uptoBulk d + 1
 end
def uptoSmall : (H : Type) → List (DataW H) → Bool := fun _ ds => decide (uptoBulkAll ds ≤ 1048576)
def OpenSpec.upto (s : _root_.Go.ChangeSpec) : _root_.Go.OpenSpec := { _root_.Go.OpenSpec.ofChange s with cond := some uptoSmall }

/-- 'bursarlaw17.LedgerOfMany', WHERE WHAT IT READS IS OF BULK AT MOST 1048576: true; the input reads as it did. -/
def ledgerOfManyUptoRow : OpenClaim := { program := "ytalkdddeiebfmaagreatdoor", sum := "e77d3bca92f54be0d29e416f0cdde0c6cef124ec910ae10332a00e34b37a40e0", func := "bursar/bursarlaw17.LedgerOfMany", spec := "ledgerOfMany", inPlace := ["internal/bytealg.CountString", "internal/bytealg.IndexByteString", "internal/bytealg.IndexString", "internal/bytealg.abigen_runtime_cmpstring"], unfollowed := true, recurses := true, named := ["unicode/utf8.first", "unicode/utf8.acceptRanges", "internal/bytealg.MaxLen", "bursar/scope.texts"], plainKeys := false, apart := false, laid := [("unicode/utf8.acceptRanges", laid_unicode_utf8_acceptRanges), ("bursar/scope.texts", laid_bursar_scope_texts), ("unicode/utf8.first", laid_unicode_utf8_first)], narrowed := true }
def LedgerOfManyUptoSaid : Prop := ledgerOfManyUptoRow.holds Tryz.pinned (OpenSpec.upto ledgerOfManySpec)

/-- 'bursarlaw17.LedgerApart', WHERE WHAT IT READS IS OF BULK AT MOST 1048576: true; the input reads as it did. -/
def ledgerApartUptoRow : OpenClaim := { program := "ytalkdddeiebfmaagreatdoor", sum := "e77d3bca92f54be0d29e416f0cdde0c6cef124ec910ae10332a00e34b37a40e0", func := "bursar/bursarlaw17.LedgerApart", spec := "ledgerApart", inPlace := ["internal/bytealg.CountString", "internal/bytealg.IndexByteString", "internal/bytealg.IndexString", "internal/bytealg.abigen_runtime_cmpstring"], unfollowed := true, recurses := true, named := ["unicode/utf8.first", "unicode/utf8.acceptRanges", "internal/bytealg.MaxLen", "bursar/scope.texts"], plainKeys := false, apart := false, laid := [("unicode/utf8.acceptRanges", laid_unicode_utf8_acceptRanges), ("bursar/scope.texts", laid_bursar_scope_texts), ("unicode/utf8.first", laid_unicode_utf8_first)], narrowed := true }
def LedgerApartUptoSaid : Prop := ledgerApartUptoRow.holds Tryz.pinned (OpenSpec.upto ledgerApartSpec)

/-- 'bursarlaw17.LedgerOrders', WHERE WHAT IT READS IS OF BULK AT MOST 1048576: true; the input reads as it did. -/
def ledgerOrdersUptoRow : OpenClaim := { program := "ytalkdddeiebfmaagreatdoor", sum := "e77d3bca92f54be0d29e416f0cdde0c6cef124ec910ae10332a00e34b37a40e0", func := "bursar/bursarlaw17.LedgerOrders", spec := "ledgerOrders", inPlace := ["internal/bytealg.CountString", "internal/bytealg.IndexByteString", "internal/bytealg.IndexString", "internal/bytealg.abigen_runtime_cmpstring"], unfollowed := true, recurses := true, named := ["unicode/utf8.first", "unicode/utf8.acceptRanges", "internal/bytealg.MaxLen", "bursar/scope.texts"], plainKeys := false, apart := false, laid := [("unicode/utf8.acceptRanges", laid_unicode_utf8_acceptRanges), ("bursar/scope.texts", laid_bursar_scope_texts), ("unicode/utf8.first", laid_unicode_utf8_first)], narrowed := true }
def LedgerOrdersUptoSaid : Prop := ledgerOrdersUptoRow.holds Tryz.pinned (OpenSpec.upto ledgerOrdersSpec)

/-- 'bursarlaw17.LedgerPlays', WHERE WHAT IT READS IS OF BULK AT MOST 1048576: true; the input reads as it did. -/
def ledgerPlaysUptoRow : OpenClaim := { program := "ytalkdddeiebfmaagreatdoor", sum := "e77d3bca92f54be0d29e416f0cdde0c6cef124ec910ae10332a00e34b37a40e0", func := "bursar/bursarlaw17.LedgerPlays", spec := "ledgerPlays", inPlace := ["internal/bytealg.CountString", "internal/bytealg.IndexByteString", "internal/bytealg.IndexString", "internal/bytealg.abigen_runtime_cmpstring"], unfollowed := true, recurses := true, named := ["unicode/utf8.first", "unicode/utf8.acceptRanges", "internal/bytealg.MaxLen", "bursar/scope.texts"], plainKeys := false, apart := false, laid := [("unicode/utf8.acceptRanges", laid_unicode_utf8_acceptRanges), ("bursar/scope.texts", laid_bursar_scope_texts), ("unicode/utf8.first", laid_unicode_utf8_first)], narrowed := true }
def LedgerPlaysUptoSaid : Prop := ledgerPlaysUptoRow.holds Tryz.pinned (OpenSpec.upto ledgerPlaysSpec)

/-- 'bursarlaw17.LedgerUndoes', WHERE WHAT IT READS IS OF BULK AT MOST 1048576: true; the input reads as it did. -/
def ledgerUndoesUptoRow : OpenClaim := { program := "ytalkdddeiebfmaagreatdoor", sum := "e77d3bca92f54be0d29e416f0cdde0c6cef124ec910ae10332a00e34b37a40e0", func := "bursar/bursarlaw17.LedgerUndoes", spec := "ledgerUndoes", inPlace := ["internal/bytealg.CountString", "internal/bytealg.IndexByteString", "internal/bytealg.IndexString", "internal/bytealg.abigen_runtime_cmpstring"], unfollowed := true, recurses := true, named := ["unicode/utf8.first", "unicode/utf8.acceptRanges", "internal/bytealg.MaxLen", "bursar/scope.texts"], plainKeys := false, apart := false, laid := [("unicode/utf8.acceptRanges", laid_unicode_utf8_acceptRanges), ("bursar/scope.texts", laid_bursar_scope_texts), ("unicode/utf8.first", laid_unicode_utf8_first)], narrowed := true }
def LedgerUndoesUptoSaid : Prop := ledgerUndoesUptoRow.holds Tryz.pinned (OpenSpec.upto ledgerUndoesSpec)

/-- 'bursarlaw17.LedgerSums', WHERE WHAT IT READS IS OF BULK AT MOST 1048576: true; the input reads as it did. -/
def ledgerSumsUptoRow : OpenClaim := { program := "ytalkdddeiebfmaagreatdoor", sum := "e77d3bca92f54be0d29e416f0cdde0c6cef124ec910ae10332a00e34b37a40e0", func := "bursar/bursarlaw17.LedgerSums", spec := "ledgerSums", inPlace := ["internal/bytealg.CountString", "internal/bytealg.IndexByteString", "internal/bytealg.IndexString", "internal/bytealg.abigen_runtime_cmpstring"], unfollowed := true, recurses := true, named := ["unicode/utf8.first", "unicode/utf8.acceptRanges", "internal/bytealg.MaxLen", "bursar/scope.texts"], plainKeys := false, apart := false, laid := [("unicode/utf8.acceptRanges", laid_unicode_utf8_acceptRanges), ("bursar/scope.texts", laid_bursar_scope_texts), ("unicode/utf8.first", laid_unicode_utf8_first)], narrowed := true }
def LedgerSumsUptoSaid : Prop := ledgerSumsUptoRow.holds Tryz.pinned (OpenSpec.upto ledgerSumsSpec)

/-- 'bursarlaw17.LedgerClimbs', WHERE WHAT IT READS IS OF BULK AT MOST 1048576: true; the input reads as it did. -/
def ledgerClimbsUptoRow : OpenClaim := { program := "ytalkdddeiebfmaagreatdoor", sum := "e77d3bca92f54be0d29e416f0cdde0c6cef124ec910ae10332a00e34b37a40e0", func := "bursar/bursarlaw17.LedgerClimbs", spec := "ledgerClimbs", inPlace := ["internal/bytealg.CountString", "internal/bytealg.IndexByteString", "internal/bytealg.IndexString", "internal/bytealg.abigen_runtime_cmpstring"], unfollowed := true, recurses := true, named := ["unicode/utf8.first", "unicode/utf8.acceptRanges", "internal/bytealg.MaxLen", "bursar/scope.texts"], plainKeys := false, apart := false, laid := [("unicode/utf8.acceptRanges", laid_unicode_utf8_acceptRanges), ("bursar/scope.texts", laid_bursar_scope_texts), ("unicode/utf8.first", laid_unicode_utf8_first)], narrowed := true }
def LedgerClimbsUptoSaid : Prop := ledgerClimbsUptoRow.holds Tryz.pinned (OpenSpec.upto ledgerClimbsSpec)

end Rows
end Go.Proofs.YtalkdddeiebfmaaGreatDoor
