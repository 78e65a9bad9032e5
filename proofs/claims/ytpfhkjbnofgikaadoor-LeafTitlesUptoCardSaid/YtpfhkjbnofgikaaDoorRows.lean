/-
  NARROWER THAN 'FOR EVERY INPUT', by the rows' own cells (each row's printed sentence says how): LeafNumbers: laid · LeafTells: laid · LeafOne: laid · LeafDeep: laid · LeafTitles: laid.
  DERIVED. THE GIVEN ROWS OF THIS SEAT. 5 by the template 'for every input the law returns true; each argument reads behind the call as it read before'; 0 by the template 'total and deterministic' (their statements: YtpfhkjbnofgikaaDoorTotals.lean).
  GIVEN WITH THE SEED: the statements are not yours to turn. If you find one false, say at which input.
  Laid BY PROGRAM, IN A SANDBOX (cutbox-rows.mjs): the forced cells as the released guide's own fill.sh prints them over the translation f254caca72e697b1… (all of the seat's roots in one cut). By AI agents, Wed Nov 11 2026. No macro, syntax, notation, axiom, sorry.
-/
import Derived.Test.YtpfhkjbnofgikaaDoorChecked
import GoSem.PinnedTables
import GoSem.Claim
import GoSem.ClaimJoined
import GoSem.ClaimMapViews
import Derived.JoinedTies
import Derived.KernelRfl
namespace Go.Proofs.YtpfhkjbnofgikaaDoor
/- THE CELL 'sum', in the pinned program and in every row, IS THE sha256 OF THE DUMP (.gsa) THAT YtpfhkjbnofgikaaDoorProg.lean LOADS. Nothing in Lean hashes anything: it is a label: what it is worth is what the hold of that sum in a sandbox is worth. -/
noncomputable def Tryd.pinned : Pinned := { name := "ytpfhkjbnofgikaadoor", sum := "f254caca72e697b1170947900ea2acb2882ddd3c0b300ebffdfc8f6c57093a27", checked := Tryd.checked }
namespace Rows
def none {H : Type} : Left H := { results := [], args := [] }

/- WHAT THE LISTED PACKAGE-LEVEL VARIABLES READ AS WHEN THE CALL BEGINS. Each datum BY PROGRAM (the guide's laid-datum.mjs) off the statement by which the dump's own 'gosem.cut.vars' lays the variable. In a bare row this is a premise. The card (YtpfhkjbnofgikaaDoorCards.lean) ties it to the program's text. -/
def laid_unicode_utf8_acceptRanges {H : Type} : DataW H := .agg [.agg [.lit (.int .u8 128), .lit (.int .u8 191)], .agg [.lit (.int .u8 160), .lit (.int .u8 191)], .agg [.lit (.int .u8 128), .lit (.int .u8 159)], .agg [.lit (.int .u8 144), .lit (.int .u8 191)], .agg [.lit (.int .u8 128), .lit (.int .u8 143)], .agg [.lit (.int .u8 0), .lit (.int .u8 0)], .agg [.lit (.int .u8 0), .lit (.int .u8 0)], .agg [.lit (.int .u8 0), .lit (.int .u8 0)], .agg [.lit (.int .u8 0), .lit (.int .u8 0)], .agg [.lit (.int .u8 0), .lit (.int .u8 0)], .agg [.lit (.int .u8 0), .lit (.int .u8 0)], .agg [.lit (.int .u8 0), .lit (.int .u8 0)], .agg [.lit (.int .u8 0), .lit (.int .u8 0)], .agg [.lit (.int .u8 0), .lit (.int .u8 0)], .agg [.lit (.int .u8 0), .lit (.int .u8 0)], .agg [.lit (.int .u8 0), .lit (.int .u8 0)]]
/-- One of Go's own tables, pinned by name: the form's constant. -/
def laid_unicode_utf8_first : DataW Unit := Go.Pinned.utf8First

/-- 'selvedgelaw6.LeafNumbers': WHATEVER THE INPUT: true; the input reads as it did. -/
def leafNumbersSpec : ChangeSpec := { name := "leafNumbers", fn := fun _ => fun
  | [] => { results := [.lit (.bool true)], args := [] }
  | _ => none }
def leafNumbersRow : OpenClaim := { program := "ytpfhkjbnofgikaadoor", sum := "f254caca72e697b1170947900ea2acb2882ddd3c0b300ebffdfc8f6c57093a27", func := "selvedge/selvedgelaw6.LeafNumbers", spec := "leafNumbers", inPlace := ["internal/bytealg.IndexByteString", "internal/bytealg.IndexString", "internal/abi.NoEscape", "internal/bytealg.MakeNoZero"], named := ["unicode/utf8.first", "unicode/utf8.acceptRanges", "internal/bytealg.MaxLen"], apart := false, laid := [("unicode/utf8.acceptRanges", laid_unicode_utf8_acceptRanges), ("unicode/utf8.first", laid_unicode_utf8_first)] }
def LeafNumbersSaid : Prop := leafNumbersRow.holds Tryd.pinned (OpenSpec.ofChange leafNumbersSpec)

/-- ITS FALSE NEIGHBOUR: 'it returns false'. Refute it at one input. -/
def leafNumbersWrong : ChangeSpec := { name := "leafNumbers", fn := fun _ => fun
  | [] => { results := [.lit (.bool false)], args := [] }
  | _ => none }
def LeafNumbersWrongFalsely : Prop := leafNumbersRow.holds Tryd.pinned (OpenSpec.ofChange leafNumbersWrong)

/-- 'selvedgelaw6.LeafTells': WHATEVER THE INPUT: true; the input reads as it did. -/
def leafTellsSpec : ChangeSpec := { name := "leafTells", fn := fun _ => fun
  | [d1, d2] => { results := [.lit (.bool true)], args := [d1, d2] }
  | _ => none }
def leafTellsRow : OpenClaim := { program := "ytpfhkjbnofgikaadoor", sum := "f254caca72e697b1170947900ea2acb2882ddd3c0b300ebffdfc8f6c57093a27", func := "selvedge/selvedgelaw6.LeafTells", spec := "leafTells", inPlace := ["internal/bytealg.IndexByteString", "internal/bytealg.IndexString", "internal/abi.NoEscape", "internal/bytealg.MakeNoZero"], named := ["unicode/utf8.first", "unicode/utf8.acceptRanges", "internal/bytealg.MaxLen"], apart := false, laid := [("unicode/utf8.acceptRanges", laid_unicode_utf8_acceptRanges), ("unicode/utf8.first", laid_unicode_utf8_first)] }
def LeafTellsSaid : Prop := leafTellsRow.holds Tryd.pinned (OpenSpec.ofChange leafTellsSpec)

/-- ITS FALSE NEIGHBOUR: 'it returns false'. Refute it at one input. -/
def leafTellsWrong : ChangeSpec := { name := "leafTells", fn := fun _ => fun
  | [d1, d2] => { results := [.lit (.bool false)], args := [d1, d2] }
  | _ => none }
def LeafTellsWrongFalsely : Prop := leafTellsRow.holds Tryd.pinned (OpenSpec.ofChange leafTellsWrong)

/-- 'selvedgelaw6.LeafOne': WHATEVER THE INPUT: true; the input reads as it did. -/
def leafOneSpec : ChangeSpec := { name := "leafOne", fn := fun _ => fun
  | [d1, d2] => { results := [.lit (.bool true)], args := [d1, d2] }
  | _ => none }
def leafOneRow : OpenClaim := { program := "ytpfhkjbnofgikaadoor", sum := "f254caca72e697b1170947900ea2acb2882ddd3c0b300ebffdfc8f6c57093a27", func := "selvedge/selvedgelaw6.LeafOne", spec := "leafOne", inPlace := ["internal/bytealg.IndexByteString", "internal/bytealg.IndexString", "internal/abi.NoEscape", "internal/bytealg.MakeNoZero"], named := ["unicode/utf8.first", "unicode/utf8.acceptRanges", "internal/bytealg.MaxLen"], apart := false, laid := [("unicode/utf8.acceptRanges", laid_unicode_utf8_acceptRanges), ("unicode/utf8.first", laid_unicode_utf8_first)] }
def LeafOneSaid : Prop := leafOneRow.holds Tryd.pinned (OpenSpec.ofChange leafOneSpec)

/-- ITS FALSE NEIGHBOUR: 'it returns false'. Refute it at one input. -/
def leafOneWrong : ChangeSpec := { name := "leafOne", fn := fun _ => fun
  | [d1, d2] => { results := [.lit (.bool false)], args := [d1, d2] }
  | _ => none }
def LeafOneWrongFalsely : Prop := leafOneRow.holds Tryd.pinned (OpenSpec.ofChange leafOneWrong)

/-- 'selvedgelaw6.LeafDeep': WHATEVER THE INPUT: true; the input reads as it did. -/
def leafDeepSpec : ChangeSpec := { name := "leafDeep", fn := fun _ => fun
  | [d1, d2] => { results := [.lit (.bool true)], args := [d1, d2] }
  | _ => none }
def leafDeepRow : OpenClaim := { program := "ytpfhkjbnofgikaadoor", sum := "f254caca72e697b1170947900ea2acb2882ddd3c0b300ebffdfc8f6c57093a27", func := "selvedge/selvedgelaw6.LeafDeep", spec := "leafDeep", inPlace := ["internal/bytealg.IndexByteString", "internal/bytealg.IndexString", "internal/abi.NoEscape", "internal/bytealg.MakeNoZero"], named := ["unicode/utf8.first", "unicode/utf8.acceptRanges", "internal/bytealg.MaxLen"], apart := false, laid := [("unicode/utf8.acceptRanges", laid_unicode_utf8_acceptRanges), ("unicode/utf8.first", laid_unicode_utf8_first)] }
def LeafDeepSaid : Prop := leafDeepRow.holds Tryd.pinned (OpenSpec.ofChange leafDeepSpec)

/-- ITS FALSE NEIGHBOUR: 'it returns false'. Refute it at one input. -/
def leafDeepWrong : ChangeSpec := { name := "leafDeep", fn := fun _ => fun
  | [d1, d2] => { results := [.lit (.bool false)], args := [d1, d2] }
  | _ => none }
def LeafDeepWrongFalsely : Prop := leafDeepRow.holds Tryd.pinned (OpenSpec.ofChange leafDeepWrong)

/-- 'selvedgelaw6.LeafTitles': WHATEVER THE INPUT: true; the input reads as it did. -/
def leafTitlesSpec : ChangeSpec := { name := "leafTitles", fn := fun _ => fun
  | [d1, d2, d3] => { results := [.lit (.bool true)], args := [d1, d2, d3] }
  | _ => none }
def leafTitlesRow : OpenClaim := { program := "ytpfhkjbnofgikaadoor", sum := "f254caca72e697b1170947900ea2acb2882ddd3c0b300ebffdfc8f6c57093a27", func := "selvedge/selvedgelaw6.LeafTitles", spec := "leafTitles", inPlace := ["internal/bytealg.IndexByteString", "internal/bytealg.IndexString", "internal/abi.NoEscape", "internal/bytealg.MakeNoZero"], named := ["unicode/utf8.first", "unicode/utf8.acceptRanges", "internal/bytealg.MaxLen"], apart := false, laid := [("unicode/utf8.acceptRanges", laid_unicode_utf8_acceptRanges), ("unicode/utf8.first", laid_unicode_utf8_first)] }
def LeafTitlesSaid : Prop := leafTitlesRow.holds Tryd.pinned (OpenSpec.ofChange leafTitlesSpec)

/-- ITS FALSE NEIGHBOUR: 'it returns false'. Refute it at one input. -/
def leafTitlesWrong : ChangeSpec := { name := "leafTitles", fn := fun _ => fun
  | [d1, d2, d3] => { results := [.lit (.bool false)], args := [d1, d2, d3] }
  | _ => none }
def LeafTitlesWrongFalsely : Prop := leafTitlesRow.holds Tryd.pinned (OpenSpec.ofChange leafTitlesWrong)

/- THE SECOND FORM. 'bulk': how many values and letters a reading holds, each counted each time it is reached (what is shared counts as often as it is met; a slice's spare places count too). A statement '..UptoSaid' is the law's where the arguments, and the package variables that the reading takes, are together of bulk at most 1048576: NARROWER than '..Said'. Prove '..Said' where nothing that the law and all that it calls make is longer than what came in: it says more and counts as full. Else prove '..UptoSaid'. A law counts once. -/
mutual
def uptoBulk {H : Type} : DataW H → Nat
  | .lit (.string bytes) => bytes.length + 1
  | .lit _ => 1
  | .nil => 1
  | .ptr d => uptoBulk d + 1
  | .slice elems spare => uptoBulkAll elems + uptoBulkAll spare + 1
  | .agg parts => uptoBulkAll parts + 1
  | .iface _ d => uptoBulk d + 1
  | .map entries => uptoBulkEntries entries + 1
  | .held _ => 1
def uptoBulkAll {H : Type} : List (DataW H) → Nat
  | [] => 0
  | d :: r => uptoBulk d + uptoBulkAll r
def uptoBulkEntries {H : Type} : List (Lit × DataW H) → Nat
  | [] => 0
  | x :: r => uptoBulkEntry x + uptoBulkEntries r
def uptoBulkEntry {H : Type} : Lit × DataW H → Nat
  | (.string bytes, d) => bytes.length + uptoBulk d + 1
  | (_, d) => uptoBulk d + 1
 end
def uptoSmall : (H : Type) → List (DataW H) → Bool := fun _ ds => decide (uptoBulkAll ds ≤ 1048576)
def OpenSpec.upto (s : _root_.Go.ChangeSpec) : _root_.Go.OpenSpec := { _root_.Go.OpenSpec.ofChange s with cond := some uptoSmall }

/-- 'selvedgelaw6.LeafNumbers', WHERE WHAT IT READS IS OF BULK AT MOST 1048576: true; the input reads as it did. -/
def leafNumbersUptoRow : OpenClaim := { program := "ytpfhkjbnofgikaadoor", sum := "f254caca72e697b1170947900ea2acb2882ddd3c0b300ebffdfc8f6c57093a27", func := "selvedge/selvedgelaw6.LeafNumbers", spec := "leafNumbers", inPlace := ["internal/bytealg.IndexByteString", "internal/bytealg.IndexString", "internal/abi.NoEscape", "internal/bytealg.MakeNoZero"], named := ["unicode/utf8.first", "unicode/utf8.acceptRanges", "internal/bytealg.MaxLen"], apart := false, laid := [("unicode/utf8.acceptRanges", laid_unicode_utf8_acceptRanges), ("unicode/utf8.first", laid_unicode_utf8_first)], narrowed := true }
def LeafNumbersUptoSaid : Prop := leafNumbersUptoRow.holds Tryd.pinned (OpenSpec.upto leafNumbersSpec)

/-- 'selvedgelaw6.LeafTells', WHERE WHAT IT READS IS OF BULK AT MOST 1048576: true; the input reads as it did. -/
def leafTellsUptoRow : OpenClaim := { program := "ytpfhkjbnofgikaadoor", sum := "f254caca72e697b1170947900ea2acb2882ddd3c0b300ebffdfc8f6c57093a27", func := "selvedge/selvedgelaw6.LeafTells", spec := "leafTells", inPlace := ["internal/bytealg.IndexByteString", "internal/bytealg.IndexString", "internal/abi.NoEscape", "internal/bytealg.MakeNoZero"], named := ["unicode/utf8.first", "unicode/utf8.acceptRanges", "internal/bytealg.MaxLen"], apart := false, laid := [("unicode/utf8.acceptRanges", laid_unicode_utf8_acceptRanges), ("unicode/utf8.first", laid_unicode_utf8_first)], narrowed := true }
def LeafTellsUptoSaid : Prop := leafTellsUptoRow.holds Tryd.pinned (OpenSpec.upto leafTellsSpec)

/-- 'selvedgelaw6.LeafOne', WHERE WHAT IT READS IS OF BULK AT MOST 1048576: true; the input reads as it did. -/
def leafOneUptoRow : OpenClaim := { program := "ytpfhkjbnofgikaadoor", sum := "f254caca72e697b1170947900ea2acb2882ddd3c0b300ebffdfc8f6c57093a27", func := "selvedge/selvedgelaw6.LeafOne", spec := "leafOne", inPlace := ["internal/bytealg.IndexByteString", "internal/bytealg.IndexString", "internal/abi.NoEscape", "internal/bytealg.MakeNoZero"], named := ["unicode/utf8.first", "unicode/utf8.acceptRanges", "internal/bytealg.MaxLen"], apart := false, laid := [("unicode/utf8.acceptRanges", laid_unicode_utf8_acceptRanges), ("unicode/utf8.first", laid_unicode_utf8_first)], narrowed := true }
def LeafOneUptoSaid : Prop := leafOneUptoRow.holds Tryd.pinned (OpenSpec.upto leafOneSpec)

/-- 'selvedgelaw6.LeafDeep', WHERE WHAT IT READS IS OF BULK AT MOST 1048576: true; the input reads as it did. -/
def leafDeepUptoRow : OpenClaim := { program := "ytpfhkjbnofgikaadoor", sum := "f254caca72e697b1170947900ea2acb2882ddd3c0b300ebffdfc8f6c57093a27", func := "selvedge/selvedgelaw6.LeafDeep", spec := "leafDeep", inPlace := ["internal/bytealg.IndexByteString", "internal/bytealg.IndexString", "internal/abi.NoEscape", "internal/bytealg.MakeNoZero"], named := ["unicode/utf8.first", "unicode/utf8.acceptRanges", "internal/bytealg.MaxLen"], apart := false, laid := [("unicode/utf8.acceptRanges", laid_unicode_utf8_acceptRanges), ("unicode/utf8.first", laid_unicode_utf8_first)], narrowed := true }
def LeafDeepUptoSaid : Prop := leafDeepUptoRow.holds Tryd.pinned (OpenSpec.upto leafDeepSpec)

/-- 'selvedgelaw6.LeafTitles', WHERE WHAT IT READS IS OF BULK AT MOST 1048576: true; the input reads as it did. -/
def leafTitlesUptoRow : OpenClaim := { program := "ytpfhkjbnofgikaadoor", sum := "f254caca72e697b1170947900ea2acb2882ddd3c0b300ebffdfc8f6c57093a27", func := "selvedge/selvedgelaw6.LeafTitles", spec := "leafTitles", inPlace := ["internal/bytealg.IndexByteString", "internal/bytealg.IndexString", "internal/abi.NoEscape", "internal/bytealg.MakeNoZero"], named := ["unicode/utf8.first", "unicode/utf8.acceptRanges", "internal/bytealg.MaxLen"], apart := false, laid := [("unicode/utf8.acceptRanges", laid_unicode_utf8_acceptRanges), ("unicode/utf8.first", laid_unicode_utf8_first)], narrowed := true }
def LeafTitlesUptoSaid : Prop := leafTitlesUptoRow.holds Tryd.pinned (OpenSpec.upto leafTitlesSpec)

end Rows
end Go.Proofs.YtpfhkjbnofgikaaDoor
