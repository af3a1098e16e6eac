/-
  NARROWER THAN 'FOR EVERY INPUT', by the rows' own cells (each row's printed sentence says how): FtoaPlains: laid · StreamReads: laid · StreamBack: laid · StreamSums: laid · StreamFresh: laid · StreamPieces: laid · StreamHurt: laid · StreamHeads: laid · StreamSaved: laid.
  DERIVED. THE GIVEN ROWS OF THIS SEAT. 9 by the template 'for every input the law returns true; each argument reads behind the call as it read before'; 0 by the template 'total and deterministic' (their statements: YtlffgepnhhnadaaDoorTotals.lean).
  GIVEN WITH THE SEED: the statements are not yours to turn. If you find one false, say at which input.
  Laid BY PROGRAM, IN A SANDBOX (cutbox-rows.mjs): the forced cells as the released guide's own fill.sh prints them over the translation 0a63852119e24d5f… (all of the seat's roots in one cut). By AI agents, Wed Nov 11 2026. No macro, syntax, notation, axiom, sorry.
-/
import Derived.Test.YtlffgepnhhnadaaDoorChecked
import GoSem.PinnedTables
import GoSem.Claim
import GoSem.ClaimJoined
import GoSem.ClaimMapViews
import Derived.JoinedTies
import Derived.KernelRfl
namespace Go.Proofs.YtlffgepnhhnadaaDoor
/- THE CELL 'sum', in the pinned program and in every row, IS THE sha256 OF THE DUMP (.gsa) THAT YtlffgepnhhnadaaDoorProg.lean LOADS. Nothing in Lean hashes anything: it is a label: what it is worth is what the hold of that sum in a sandbox is worth. -/
noncomputable def Tryd.pinned : Pinned := { name := "ytlffgepnhhnadaadoor", sum := "0a63852119e24d5f603a61918791334eeeb4563b5e9db1379b62f526a1dc3bc6", checked := Tryd.checked }
namespace Rows
def none {H : Type} : Left H := { results := [], args := [] }

/- WHAT THE LISTED PACKAGE-LEVEL VARIABLES READ AS WHEN THE CALL BEGINS. Each datum BY PROGRAM (the guide's laid-datum.mjs) off the statement by which the dump's own 'gosem.cut.vars' lays the variable. In a bare row this is a premise. The card (YtlffgepnhhnadaaDoorCards.lean) ties it to the program's text. -/
def laid_unicode_utf8_acceptRanges {H : Type} : DataW H := .agg [.agg [.lit (.int .u8 128), .lit (.int .u8 191)], .agg [.lit (.int .u8 160), .lit (.int .u8 191)], .agg [.lit (.int .u8 128), .lit (.int .u8 159)], .agg [.lit (.int .u8 144), .lit (.int .u8 191)], .agg [.lit (.int .u8 128), .lit (.int .u8 143)], .agg [.lit (.int .u8 0), .lit (.int .u8 0)], .agg [.lit (.int .u8 0), .lit (.int .u8 0)], .agg [.lit (.int .u8 0), .lit (.int .u8 0)], .agg [.lit (.int .u8 0), .lit (.int .u8 0)], .agg [.lit (.int .u8 0), .lit (.int .u8 0)], .agg [.lit (.int .u8 0), .lit (.int .u8 0)], .agg [.lit (.int .u8 0), .lit (.int .u8 0)], .agg [.lit (.int .u8 0), .lit (.int .u8 0)], .agg [.lit (.int .u8 0), .lit (.int .u8 0)], .agg [.lit (.int .u8 0), .lit (.int .u8 0)], .agg [.lit (.int .u8 0), .lit (.int .u8 0)]]
/-- One of Go's own tables, pinned by name: the form's constant. -/
def laid_unicode_utf8_first : DataW Unit := Go.Pinned.utf8First
def laid_errors_errorType {H : Type} : DataW H := .iface "internal/reflectlite.rtype" (.agg [.ptr (.lit (.string [101, 114, 114, 111, 114]))])

/-- 'plumblaw14.FtoaPlains': WHATEVER THE INPUT: true; the input reads as it did. -/
def ftoaPlainsSpec : ChangeSpec := { name := "ftoaPlains", fn := fun _ => fun
  | [d1, d2] => { results := [.lit (.bool true)], args := [d1, d2] }
  | _ => none }
def ftoaPlainsRow : OpenClaim := { program := "ytlffgepnhhnadaadoor", sum := "0a63852119e24d5f603a61918791334eeeb4563b5e9db1379b62f526a1dc3bc6", func := "plumb/plumblaw14.FtoaPlains", spec := "ftoaPlains", inPlace := ["internal/bytealg.IndexByteString", "internal/bytealg.IndexString", "internal/abi.NoEscape", "internal/bytealg.MakeNoZero"], named := ["unicode/utf8.first", "unicode/utf8.acceptRanges", "internal/bytealg.MaxLen"], apart := false, laid := [("unicode/utf8.acceptRanges", laid_unicode_utf8_acceptRanges), ("unicode/utf8.first", laid_unicode_utf8_first)] }
def FtoaPlainsSaid : Prop := ftoaPlainsRow.holds Tryd.pinned (OpenSpec.ofChange ftoaPlainsSpec)

/-- ITS FALSE NEIGHBOUR: 'it returns false'. Refute it at one input. -/
def ftoaPlainsWrong : ChangeSpec := { name := "ftoaPlains", fn := fun _ => fun
  | [d1, d2] => { results := [.lit (.bool false)], args := [d1, d2] }
  | _ => none }
def FtoaPlainsWrongFalsely : Prop := ftoaPlainsRow.holds Tryd.pinned (OpenSpec.ofChange ftoaPlainsWrong)

/-- 'plumblaw27.StreamReads': WHATEVER THE INPUT: true; the input reads as it did. -/
def streamReadsSpec : ChangeSpec := { name := "streamReads", fn := fun _ => fun
  | [d1, d2, d3] => { results := [.lit (.bool true)], args := [d1, d2, d3] }
  | _ => none }
def streamReadsRow : OpenClaim := { program := "ytlffgepnhhnadaadoor", sum := "0a63852119e24d5f603a61918791334eeeb4563b5e9db1379b62f526a1dc3bc6", func := "plumb/plumblaw27.StreamReads", spec := "streamReads", inPlace := ["internal/reflectlite.ValueOf", "(internal/reflectlite.Value).Type", "(internal/reflectlite.Value).IsNil", "internal/reflectlite.TypeOf", "(internal/reflectlite.Value).Elem", "(internal/reflectlite.Value).Set"], unfollowed := true, recurses := true, named := ["errors.errorType"], apart := false, laid := [("errors.errorType", laid_errors_errorType)] }
def StreamReadsSaid : Prop := streamReadsRow.holds Tryd.pinned (OpenSpec.ofChange streamReadsSpec)

/-- ITS FALSE NEIGHBOUR: 'it returns false'. Refute it at one input. -/
def streamReadsWrong : ChangeSpec := { name := "streamReads", fn := fun _ => fun
  | [d1, d2, d3] => { results := [.lit (.bool false)], args := [d1, d2, d3] }
  | _ => none }
def StreamReadsWrongFalsely : Prop := streamReadsRow.holds Tryd.pinned (OpenSpec.ofChange streamReadsWrong)

/-- 'plumblaw27.StreamBack': WHATEVER THE INPUT: true; the input reads as it did. -/
def streamBackSpec : ChangeSpec := { name := "streamBack", fn := fun _ => fun
  | [d1, d2] => { results := [.lit (.bool true)], args := [d1, d2] }
  | _ => none }
def streamBackRow : OpenClaim := { program := "ytlffgepnhhnadaadoor", sum := "0a63852119e24d5f603a61918791334eeeb4563b5e9db1379b62f526a1dc3bc6", func := "plumb/plumblaw27.StreamBack", spec := "streamBack", inPlace := ["internal/reflectlite.ValueOf", "(internal/reflectlite.Value).Type", "(internal/reflectlite.Value).IsNil", "internal/reflectlite.TypeOf", "(internal/reflectlite.Value).Elem", "(internal/reflectlite.Value).Set"], unfollowed := true, recurses := true, named := ["errors.errorType"], apart := false, laid := [("errors.errorType", laid_errors_errorType)] }
def StreamBackSaid : Prop := streamBackRow.holds Tryd.pinned (OpenSpec.ofChange streamBackSpec)

/-- ITS FALSE NEIGHBOUR: 'it returns false'. Refute it at one input. -/
def streamBackWrong : ChangeSpec := { name := "streamBack", fn := fun _ => fun
  | [d1, d2] => { results := [.lit (.bool false)], args := [d1, d2] }
  | _ => none }
def StreamBackWrongFalsely : Prop := streamBackRow.holds Tryd.pinned (OpenSpec.ofChange streamBackWrong)

/-- 'plumblaw27.StreamSums': WHATEVER THE INPUT: true; the input reads as it did. -/
def streamSumsSpec : ChangeSpec := { name := "streamSums", fn := fun _ => fun
  | [d1, d2, d3] => { results := [.lit (.bool true)], args := [d1, d2, d3] }
  | _ => none }
def streamSumsRow : OpenClaim := { program := "ytlffgepnhhnadaadoor", sum := "0a63852119e24d5f603a61918791334eeeb4563b5e9db1379b62f526a1dc3bc6", func := "plumb/plumblaw27.StreamSums", spec := "streamSums", inPlace := ["internal/reflectlite.ValueOf", "(internal/reflectlite.Value).Type", "(internal/reflectlite.Value).IsNil", "internal/reflectlite.TypeOf", "(internal/reflectlite.Value).Elem", "(internal/reflectlite.Value).Set"], unfollowed := true, recurses := true, named := ["errors.errorType"], apart := false, laid := [("errors.errorType", laid_errors_errorType)] }
def StreamSumsSaid : Prop := streamSumsRow.holds Tryd.pinned (OpenSpec.ofChange streamSumsSpec)

/-- ITS FALSE NEIGHBOUR: 'it returns false'. Refute it at one input. -/
def streamSumsWrong : ChangeSpec := { name := "streamSums", fn := fun _ => fun
  | [d1, d2, d3] => { results := [.lit (.bool false)], args := [d1, d2, d3] }
  | _ => none }
def StreamSumsWrongFalsely : Prop := streamSumsRow.holds Tryd.pinned (OpenSpec.ofChange streamSumsWrong)

/-- 'plumblaw27.StreamFresh': WHATEVER THE INPUT: true; the input reads as it did. -/
def streamFreshSpec : ChangeSpec := { name := "streamFresh", fn := fun _ => fun
  | [d1, d2] => { results := [.lit (.bool true)], args := [d1, d2] }
  | _ => none }
def streamFreshRow : OpenClaim := { program := "ytlffgepnhhnadaadoor", sum := "0a63852119e24d5f603a61918791334eeeb4563b5e9db1379b62f526a1dc3bc6", func := "plumb/plumblaw27.StreamFresh", spec := "streamFresh", inPlace := ["internal/reflectlite.ValueOf", "(internal/reflectlite.Value).Type", "(internal/reflectlite.Value).IsNil", "internal/reflectlite.TypeOf", "(internal/reflectlite.Value).Elem", "(internal/reflectlite.Value).Set"], unfollowed := true, recurses := true, named := ["errors.errorType"], apart := false, laid := [("errors.errorType", laid_errors_errorType)] }
def StreamFreshSaid : Prop := streamFreshRow.holds Tryd.pinned (OpenSpec.ofChange streamFreshSpec)

/-- ITS FALSE NEIGHBOUR: 'it returns false'. Refute it at one input. -/
def streamFreshWrong : ChangeSpec := { name := "streamFresh", fn := fun _ => fun
  | [d1, d2] => { results := [.lit (.bool false)], args := [d1, d2] }
  | _ => none }
def StreamFreshWrongFalsely : Prop := streamFreshRow.holds Tryd.pinned (OpenSpec.ofChange streamFreshWrong)

/-- 'plumblaw27.StreamPieces': WHATEVER THE INPUT: true; the input reads as it did. -/
def streamPiecesSpec : ChangeSpec := { name := "streamPieces", fn := fun _ => fun
  | [d1, d2, d3] => { results := [.lit (.bool true)], args := [d1, d2, d3] }
  | _ => none }
def streamPiecesRow : OpenClaim := { program := "ytlffgepnhhnadaadoor", sum := "0a63852119e24d5f603a61918791334eeeb4563b5e9db1379b62f526a1dc3bc6", func := "plumb/plumblaw27.StreamPieces", spec := "streamPieces", inPlace := ["internal/reflectlite.ValueOf", "(internal/reflectlite.Value).Type", "(internal/reflectlite.Value).IsNil", "internal/reflectlite.TypeOf", "(internal/reflectlite.Value).Elem", "(internal/reflectlite.Value).Set"], unfollowed := true, recurses := true, named := ["errors.errorType"], apart := false, laid := [("errors.errorType", laid_errors_errorType)] }
def StreamPiecesSaid : Prop := streamPiecesRow.holds Tryd.pinned (OpenSpec.ofChange streamPiecesSpec)

/-- ITS FALSE NEIGHBOUR: 'it returns false'. Refute it at one input. -/
def streamPiecesWrong : ChangeSpec := { name := "streamPieces", fn := fun _ => fun
  | [d1, d2, d3] => { results := [.lit (.bool false)], args := [d1, d2, d3] }
  | _ => none }
def StreamPiecesWrongFalsely : Prop := streamPiecesRow.holds Tryd.pinned (OpenSpec.ofChange streamPiecesWrong)

/-- 'plumblaw27.StreamHurt': WHATEVER THE INPUT: true; the input reads as it did. -/
def streamHurtSpec : ChangeSpec := { name := "streamHurt", fn := fun _ => fun
  | [d1, d2, d3] => { results := [.lit (.bool true)], args := [d1, d2, d3] }
  | _ => none }
def streamHurtRow : OpenClaim := { program := "ytlffgepnhhnadaadoor", sum := "0a63852119e24d5f603a61918791334eeeb4563b5e9db1379b62f526a1dc3bc6", func := "plumb/plumblaw27.StreamHurt", spec := "streamHurt", inPlace := ["internal/reflectlite.ValueOf", "(internal/reflectlite.Value).Type", "(internal/reflectlite.Value).IsNil", "internal/reflectlite.TypeOf", "(internal/reflectlite.Value).Elem", "(internal/reflectlite.Value).Set"], unfollowed := true, recurses := true, named := ["errors.errorType"], apart := false, laid := [("errors.errorType", laid_errors_errorType)] }
def StreamHurtSaid : Prop := streamHurtRow.holds Tryd.pinned (OpenSpec.ofChange streamHurtSpec)

/-- ITS FALSE NEIGHBOUR: 'it returns false'. Refute it at one input. -/
def streamHurtWrong : ChangeSpec := { name := "streamHurt", fn := fun _ => fun
  | [d1, d2, d3] => { results := [.lit (.bool false)], args := [d1, d2, d3] }
  | _ => none }
def StreamHurtWrongFalsely : Prop := streamHurtRow.holds Tryd.pinned (OpenSpec.ofChange streamHurtWrong)

/-- 'plumblaw27.StreamHeads': WHATEVER THE INPUT: true; the input reads as it did. -/
def streamHeadsSpec : ChangeSpec := { name := "streamHeads", fn := fun _ => fun
  | [d1, d2, d3] => { results := [.lit (.bool true)], args := [d1, d2, d3] }
  | _ => none }
def streamHeadsRow : OpenClaim := { program := "ytlffgepnhhnadaadoor", sum := "0a63852119e24d5f603a61918791334eeeb4563b5e9db1379b62f526a1dc3bc6", func := "plumb/plumblaw27.StreamHeads", spec := "streamHeads", inPlace := ["internal/reflectlite.ValueOf", "(internal/reflectlite.Value).Type", "(internal/reflectlite.Value).IsNil", "internal/reflectlite.TypeOf", "(internal/reflectlite.Value).Elem", "(internal/reflectlite.Value).Set"], unfollowed := true, recurses := true, named := ["errors.errorType"], apart := false, laid := [("errors.errorType", laid_errors_errorType)] }
def StreamHeadsSaid : Prop := streamHeadsRow.holds Tryd.pinned (OpenSpec.ofChange streamHeadsSpec)

/-- ITS FALSE NEIGHBOUR: 'it returns false'. Refute it at one input. -/
def streamHeadsWrong : ChangeSpec := { name := "streamHeads", fn := fun _ => fun
  | [d1, d2, d3] => { results := [.lit (.bool false)], args := [d1, d2, d3] }
  | _ => none }
def StreamHeadsWrongFalsely : Prop := streamHeadsRow.holds Tryd.pinned (OpenSpec.ofChange streamHeadsWrong)

/-- 'plumblaw27.StreamSaved': WHATEVER THE INPUT: true; the input reads as it did. -/
def streamSavedSpec : ChangeSpec := { name := "streamSaved", fn := fun _ => fun
  | [d1, d2, d3] => { results := [.lit (.bool true)], args := [d1, d2, d3] }
  | _ => none }
def streamSavedRow : OpenClaim := { program := "ytlffgepnhhnadaadoor", sum := "0a63852119e24d5f603a61918791334eeeb4563b5e9db1379b62f526a1dc3bc6", func := "plumb/plumblaw27.StreamSaved", spec := "streamSaved", inPlace := ["internal/reflectlite.ValueOf", "(internal/reflectlite.Value).Type", "(internal/reflectlite.Value).IsNil", "internal/reflectlite.TypeOf", "(internal/reflectlite.Value).Elem", "(internal/reflectlite.Value).Set"], unfollowed := true, recurses := true, named := ["errors.errorType"], apart := false, laid := [("errors.errorType", laid_errors_errorType)] }
def StreamSavedSaid : Prop := streamSavedRow.holds Tryd.pinned (OpenSpec.ofChange streamSavedSpec)

/-- ITS FALSE NEIGHBOUR: 'it returns false'. Refute it at one input. -/
def streamSavedWrong : ChangeSpec := { name := "streamSaved", fn := fun _ => fun
  | [d1, d2, d3] => { results := [.lit (.bool false)], args := [d1, d2, d3] }
  | _ => none }
def StreamSavedWrongFalsely : Prop := streamSavedRow.holds Tryd.pinned (OpenSpec.ofChange streamSavedWrong)

/- THE SECOND FORM. 'bulk': how many values and letters a reading holds, each counted each time it is reached (what is shared counts as often as it is met; a slice's spare places count too). A statement '..UptoSaid' is the law's where the arguments, and the package variables that the reading takes, are together of bulk at most 1048576: NARROWER than '..Said'. Prove '..Said' where nothing that the law and all that it calls make is longer than what came in: it says more and counts as full. Else prove '..UptoSaid'. A law counts once. -/
mutual
def uptoBulk {H : Type} : DataW H → Nat
  | .lit (.string bytes) => bytes.length + 1
  | .lit _ => 1
  | .nil => 1
  | .ptr d => uptoBulk d + 1
  | .slice elems spare => uptoBulkAll elems + uptoBulkAll spare + 1
  | .agg parts => uptoBulkAll parts + 1
  | .iface _ d => uptoBulk d + 1
  | .map entries => uptoBulkEntries entries + 1
  | .held _ => 1
def uptoBulkAll {H : Type} : List (DataW H) → Nat
  | [] => 0
  | d :: r => uptoBulk d + uptoBulkAll r
def uptoBulkEntries {H : Type} : List (Lit × DataW H) → Nat
  | [] => 0
  | x :: r => uptoBulkEntry x + uptoBulkEntries r
def uptoBulkEntry {H : Type} : Lit × DataW H → Nat
  | (.string bytes, d) => bytes.length + uptoBulk d + 1
  | (_, d) => uptoBulk d + 1
 end
def uptoSmall : (H : Type) → List (DataW H) → Bool := fun _ ds => decide (uptoBulkAll ds ≤ 1048576)
def OpenSpec.upto (s : _root_.Go.ChangeSpec) : _root_.Go.OpenSpec := { _root_.Go.OpenSpec.ofChange s with cond := some uptoSmall }

/-- 'plumblaw14.FtoaPlains', WHERE WHAT IT READS IS OF BULK AT MOST 1048576: true; the input reads as it did. -/
def ftoaPlainsUptoRow : OpenClaim := { program := "ytlffgepnhhnadaadoor", sum := "0a63852119e24d5f603a61918791334eeeb4563b5e9db1379b62f526a1dc3bc6", func := "plumb/plumblaw14.FtoaPlains", spec := "ftoaPlains", inPlace := ["internal/bytealg.IndexByteString", "internal/bytealg.IndexString", "internal/abi.NoEscape", "internal/bytealg.MakeNoZero"], named := ["unicode/utf8.first", "unicode/utf8.acceptRanges", "internal/bytealg.MaxLen"], apart := false, laid := [("unicode/utf8.acceptRanges", laid_unicode_utf8_acceptRanges), ("unicode/utf8.first", laid_unicode_utf8_first)], narrowed := true }
def FtoaPlainsUptoSaid : Prop := ftoaPlainsUptoRow.holds Tryd.pinned (OpenSpec.upto ftoaPlainsSpec)

/-- 'plumblaw27.StreamReads', WHERE WHAT IT READS IS OF BULK AT MOST 1048576: true; the input reads as it did. -/
def streamReadsUptoRow : OpenClaim := { program := "ytlffgepnhhnadaadoor", sum := "0a63852119e24d5f603a61918791334eeeb4563b5e9db1379b62f526a1dc3bc6", func := "plumb/plumblaw27.StreamReads", spec := "streamReads", inPlace := ["internal/reflectlite.ValueOf", "(internal/reflectlite.Value).Type", "(internal/reflectlite.Value).IsNil", "internal/reflectlite.TypeOf", "(internal/reflectlite.Value).Elem", "(internal/reflectlite.Value).Set"], unfollowed := true, recurses := true, named := ["errors.errorType"], apart := false, laid := [("errors.errorType", laid_errors_errorType)], narrowed := true }
def StreamReadsUptoSaid : Prop := streamReadsUptoRow.holds Tryd.pinned (OpenSpec.upto streamReadsSpec)

/-- 'plumblaw27.StreamBack', WHERE WHAT IT READS IS OF BULK AT MOST 1048576: true; the input reads as it did. -/
def streamBackUptoRow : OpenClaim := { program := "ytlffgepnhhnadaadoor", sum := "0a63852119e24d5f603a61918791334eeeb4563b5e9db1379b62f526a1dc3bc6", func := "plumb/plumblaw27.StreamBack", spec := "streamBack", inPlace := ["internal/reflectlite.ValueOf", "(internal/reflectlite.Value).Type", "(internal/reflectlite.Value).IsNil", "internal/reflectlite.TypeOf", "(internal/reflectlite.Value).Elem", "(internal/reflectlite.Value).Set"], unfollowed := true, recurses := true, named := ["errors.errorType"], apart := false, laid := [("errors.errorType", laid_errors_errorType)], narrowed := true }
def StreamBackUptoSaid : Prop := streamBackUptoRow.holds Tryd.pinned (OpenSpec.upto streamBackSpec)

/-- 'plumblaw27.StreamSums', WHERE WHAT IT READS IS OF BULK AT MOST 1048576: true; the input reads as it did. -/
def streamSumsUptoRow : OpenClaim := { program := "ytlffgepnhhnadaadoor", sum := "0a63852119e24d5f603a61918791334eeeb4563b5e9db1379b62f526a1dc3bc6", func := "plumb/plumblaw27.StreamSums", spec := "streamSums", inPlace := ["internal/reflectlite.ValueOf", "(internal/reflectlite.Value).Type", "(internal/reflectlite.Value).IsNil", "internal/reflectlite.TypeOf", "(internal/reflectlite.Value).Elem", "(internal/reflectlite.Value).Set"], unfollowed := true, recurses := true, named := ["errors.errorType"], apart := false, laid := [("errors.errorType", laid_errors_errorType)], narrowed := true }
def StreamSumsUptoSaid : Prop := streamSumsUptoRow.holds Tryd.pinned (OpenSpec.upto streamSumsSpec)

/-- 'plumblaw27.StreamFresh', WHERE WHAT IT READS IS OF BULK AT MOST 1048576: true; the input reads as it did. -/
def streamFreshUptoRow : OpenClaim := { program := "ytlffgepnhhnadaadoor", sum := "0a63852119e24d5f603a61918791334eeeb4563b5e9db1379b62f526a1dc3bc6", func := "plumb/plumblaw27.StreamFresh", spec := "streamFresh", inPlace := ["internal/reflectlite.ValueOf", "(internal/reflectlite.Value).Type", "(internal/reflectlite.Value).IsNil", "internal/reflectlite.TypeOf", "(internal/reflectlite.Value).Elem", "(internal/reflectlite.Value).Set"], unfollowed := true, recurses := true, named := ["errors.errorType"], apart := false, laid := [("errors.errorType", laid_errors_errorType)], narrowed := true }
def StreamFreshUptoSaid : Prop := streamFreshUptoRow.holds Tryd.pinned (OpenSpec.upto streamFreshSpec)

/-- 'plumblaw27.StreamPieces', WHERE WHAT IT READS IS OF BULK AT MOST 1048576: true; the input reads as it did. -/
def streamPiecesUptoRow : OpenClaim := { program := "ytlffgepnhhnadaadoor", sum := "0a63852119e24d5f603a61918791334eeeb4563b5e9db1379b62f526a1dc3bc6", func := "plumb/plumblaw27.StreamPieces", spec := "streamPieces", inPlace := ["internal/reflectlite.ValueOf", "(internal/reflectlite.Value).Type", "(internal/reflectlite.Value).IsNil", "internal/reflectlite.TypeOf", "(internal/reflectlite.Value).Elem", "(internal/reflectlite.Value).Set"], unfollowed := true, recurses := true, named := ["errors.errorType"], apart := false, laid := [("errors.errorType", laid_errors_errorType)], narrowed := true }
def StreamPiecesUptoSaid : Prop := streamPiecesUptoRow.holds Tryd.pinned (OpenSpec.upto streamPiecesSpec)

/-- 'plumblaw27.StreamHurt', WHERE WHAT IT READS IS OF BULK AT MOST 1048576: true; the input reads as it did. -/
def streamHurtUptoRow : OpenClaim := { program := "ytlffgepnhhnadaadoor", sum := "0a63852119e24d5f603a61918791334eeeb4563b5e9db1379b62f526a1dc3bc6", func := "plumb/plumblaw27.StreamHurt", spec := "streamHurt", inPlace := ["internal/reflectlite.ValueOf", "(internal/reflectlite.Value).Type", "(internal/reflectlite.Value).IsNil", "internal/reflectlite.TypeOf", "(internal/reflectlite.Value).Elem", "(internal/reflectlite.Value).Set"], unfollowed := true, recurses := true, named := ["errors.errorType"], apart := false, laid := [("errors.errorType", laid_errors_errorType)], narrowed := true }
def StreamHurtUptoSaid : Prop := streamHurtUptoRow.holds Tryd.pinned (OpenSpec.upto streamHurtSpec)

/-- 'plumblaw27.StreamHeads', WHERE WHAT IT READS IS OF BULK AT MOST 1048576: true; the input reads as it did. -/
def streamHeadsUptoRow : OpenClaim := { program := "ytlffgepnhhnadaadoor", sum := "0a63852119e24d5f603a61918791334eeeb4563b5e9db1379b62f526a1dc3bc6", func := "plumb/plumblaw27.StreamHeads", spec := "streamHeads", inPlace := ["internal/reflectlite.ValueOf", "(internal/reflectlite.Value).Type", "(internal/reflectlite.Value).IsNil", "internal/reflectlite.TypeOf", "(internal/reflectlite.Value).Elem", "(internal/reflectlite.Value).Set"], unfollowed := true, recurses := true, named := ["errors.errorType"], apart := false, laid := [("errors.errorType", laid_errors_errorType)], narrowed := true }
def StreamHeadsUptoSaid : Prop := streamHeadsUptoRow.holds Tryd.pinned (OpenSpec.upto streamHeadsSpec)

/-- 'plumblaw27.StreamSaved', WHERE WHAT IT READS IS OF BULK AT MOST 1048576: true; the input reads as it did. -/
def streamSavedUptoRow : OpenClaim := { program := "ytlffgepnhhnadaadoor", sum := "0a63852119e24d5f603a61918791334eeeb4563b5e9db1379b62f526a1dc3bc6", func := "plumb/plumblaw27.StreamSaved", spec := "streamSaved", inPlace := ["internal/reflectlite.ValueOf", "(internal/reflectlite.Value).Type", "(internal/reflectlite.Value).IsNil", "internal/reflectlite.TypeOf", "(internal/reflectlite.Value).Elem", "(internal/reflectlite.Value).Set"], unfollowed := true, recurses := true, named := ["errors.errorType"], apart := false, laid := [("errors.errorType", laid_errors_errorType)], narrowed := true }
def StreamSavedUptoSaid : Prop := streamSavedUptoRow.holds Tryd.pinned (OpenSpec.upto streamSavedSpec)

end Rows
end Go.Proofs.YtlffgepnhhnadaaDoor
