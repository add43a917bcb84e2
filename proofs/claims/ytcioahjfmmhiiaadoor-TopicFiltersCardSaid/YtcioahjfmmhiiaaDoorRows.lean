/-
  NARROWER THAN 'FOR EVERY INPUT', by the rows' own cells (each row's printed sentence says how): TopicTells: laid · TopicBack: laid · TopicForth: laid · TopicFilters: laid.
  DERIVED. THE GIVEN ROWS OF THIS SEAT. 4 by the template 'for every input the law returns true; each argument reads behind the call as it read before'; 0 by the template 'total and deterministic' (their statements: YtcioahjfmmhiiaaDoorTotals.lean).
  GIVEN WITH THE SEED: the statements are not yours to turn. If you find one false, say at which input.
  Laid BY PROGRAM, IN A SANDBOX (cutbox-rows.mjs): the forced cells as the released guide's own fill.sh prints them over the translation d16243a3c050901d… (all of the seat's roots in one cut). By AI agents, Wed Nov 11 2026. No macro, syntax, notation, axiom, sorry.
-/
import Derived.Test.YtcioahjfmmhiiaaDoorChecked
import GoSem.PinnedTables
import GoSem.Claim
import GoSem.ClaimJoined
import GoSem.ClaimMapViews
import Derived.JoinedTies
import Derived.KernelRfl
namespace Go.Proofs.YtcioahjfmmhiiaaDoor
/- THE CELL 'sum', in the pinned program and in every row, IS THE sha256 OF THE DUMP (.gsa) THAT YtcioahjfmmhiiaaDoorProg.lean LOADS. Nothing in Lean hashes anything: it is a label: what it is worth is what the hold of that sum in a sandbox is worth. -/
noncomputable def Tryd.pinned : Pinned := { name := "ytcioahjfmmhiiaadoor", sum := "d16243a3c050901d9fd8225bab09ef05a999697f7565cc5fa233dd171702a7d8", checked := Tryd.checked }
namespace Rows
def none {H : Type} : Left H := { results := [], args := [] }

/- WHAT THE LISTED PACKAGE-LEVEL VARIABLES READ AS WHEN THE CALL BEGINS. Each datum BY PROGRAM (the guide's laid-datum.mjs) off the statement by which the dump's own 'gosem.cut.vars' lays the variable. In a bare row this is a premise. The card (YtcioahjfmmhiiaaDoorCards.lean) ties it to the program's text. -/
def laid_unicode_utf8_acceptRanges {H : Type} : DataW H := .agg [.agg [.lit (.int .u8 128), .lit (.int .u8 191)], .agg [.lit (.int .u8 160), .lit (.int .u8 191)], .agg [.lit (.int .u8 128), .lit (.int .u8 159)], .agg [.lit (.int .u8 144), .lit (.int .u8 191)], .agg [.lit (.int .u8 128), .lit (.int .u8 143)], .agg [.lit (.int .u8 0), .lit (.int .u8 0)], .agg [.lit (.int .u8 0), .lit (.int .u8 0)], .agg [.lit (.int .u8 0), .lit (.int .u8 0)], .agg [.lit (.int .u8 0), .lit (.int .u8 0)], .agg [.lit (.int .u8 0), .lit (.int .u8 0)], .agg [.lit (.int .u8 0), .lit (.int .u8 0)], .agg [.lit (.int .u8 0), .lit (.int .u8 0)], .agg [.lit (.int .u8 0), .lit (.int .u8 0)], .agg [.lit (.int .u8 0), .lit (.int .u8 0)], .agg [.lit (.int .u8 0), .lit (.int .u8 0)], .agg [.lit (.int .u8 0), .lit (.int .u8 0)]]
/-- One of Go's own tables, pinned by name: the form's constant. -/
def laid_unicode_utf8_first : DataW Unit := Go.Pinned.utf8First

/-- 'humpyardlaw07.TopicTells': WHATEVER THE INPUT: true; the input reads as it did. -/
def topicTellsSpec : ChangeSpec := { name := "topicTells", fn := fun _ => fun
  | [d1, d2, d3, d4, d5, d6, d7] => { results := [.lit (.bool true)], args := [d1, d2, d3, d4, d5, d6, d7] }
  | _ => none }
def topicTellsRow : OpenClaim := { program := "ytcioahjfmmhiiaadoor", sum := "d16243a3c050901d9fd8225bab09ef05a999697f7565cc5fa233dd171702a7d8", func := "humpyard/humpyardlaw07.TopicTells", spec := "topicTells", inPlace := ["internal/bytealg.IndexByteString", "internal/bytealg.IndexString", "internal/abi.NoEscape", "internal/bytealg.MakeNoZero", "internal/bytealg.CountString"], unfollowed := true, recurses := true, named := ["unicode/utf8.first", "unicode/utf8.acceptRanges", "internal/bytealg.MaxLen"], apart := false, laid := [("unicode/utf8.acceptRanges", laid_unicode_utf8_acceptRanges), ("unicode/utf8.first", laid_unicode_utf8_first)] }
def TopicTellsSaid : Prop := topicTellsRow.holds Tryd.pinned (OpenSpec.ofChange topicTellsSpec)

/-- ITS FALSE NEIGHBOUR: 'it returns false'. Refute it at one input. -/
def topicTellsWrong : ChangeSpec := { name := "topicTells", fn := fun _ => fun
  | [d1, d2, d3, d4, d5, d6, d7] => { results := [.lit (.bool false)], args := [d1, d2, d3, d4, d5, d6, d7] }
  | _ => none }
def TopicTellsWrongFalsely : Prop := topicTellsRow.holds Tryd.pinned (OpenSpec.ofChange topicTellsWrong)

/-- 'humpyardlaw07.TopicBack': WHATEVER THE INPUT: true; the input reads as it did. -/
def topicBackSpec : ChangeSpec := { name := "topicBack", fn := fun _ => fun
  | [d1, d2, d3, d4] => { results := [.lit (.bool true)], args := [d1, d2, d3, d4] }
  | _ => none }
def topicBackRow : OpenClaim := { program := "ytcioahjfmmhiiaadoor", sum := "d16243a3c050901d9fd8225bab09ef05a999697f7565cc5fa233dd171702a7d8", func := "humpyard/humpyardlaw07.TopicBack", spec := "topicBack", inPlace := ["internal/bytealg.IndexByteString", "internal/bytealg.IndexString", "internal/abi.NoEscape", "internal/bytealg.MakeNoZero", "internal/bytealg.CountString"], unfollowed := true, recurses := true, named := ["unicode/utf8.first", "unicode/utf8.acceptRanges", "internal/bytealg.MaxLen"], apart := false, laid := [("unicode/utf8.acceptRanges", laid_unicode_utf8_acceptRanges), ("unicode/utf8.first", laid_unicode_utf8_first)] }
def TopicBackSaid : Prop := topicBackRow.holds Tryd.pinned (OpenSpec.ofChange topicBackSpec)

/-- ITS FALSE NEIGHBOUR: 'it returns false'. Refute it at one input. -/
def topicBackWrong : ChangeSpec := { name := "topicBack", fn := fun _ => fun
  | [d1, d2, d3, d4] => { results := [.lit (.bool false)], args := [d1, d2, d3, d4] }
  | _ => none }
def TopicBackWrongFalsely : Prop := topicBackRow.holds Tryd.pinned (OpenSpec.ofChange topicBackWrong)

/-- 'humpyardlaw07.TopicForth': WHATEVER THE INPUT: true; the input reads as it did. -/
def topicForthSpec : ChangeSpec := { name := "topicForth", fn := fun _ => fun
  | [d1, d2, d3, d4, d5] => { results := [.lit (.bool true)], args := [d1, d2, d3, d4, d5] }
  | _ => none }
def topicForthRow : OpenClaim := { program := "ytcioahjfmmhiiaadoor", sum := "d16243a3c050901d9fd8225bab09ef05a999697f7565cc5fa233dd171702a7d8", func := "humpyard/humpyardlaw07.TopicForth", spec := "topicForth", inPlace := ["internal/bytealg.IndexByteString", "internal/bytealg.IndexString", "internal/abi.NoEscape", "internal/bytealg.MakeNoZero", "internal/bytealg.CountString"], unfollowed := true, recurses := true, named := ["unicode/utf8.first", "unicode/utf8.acceptRanges", "internal/bytealg.MaxLen"], apart := false, laid := [("unicode/utf8.acceptRanges", laid_unicode_utf8_acceptRanges), ("unicode/utf8.first", laid_unicode_utf8_first)] }
def TopicForthSaid : Prop := topicForthRow.holds Tryd.pinned (OpenSpec.ofChange topicForthSpec)

/-- ITS FALSE NEIGHBOUR: 'it returns false'. Refute it at one input. -/
def topicForthWrong : ChangeSpec := { name := "topicForth", fn := fun _ => fun
  | [d1, d2, d3, d4, d5] => { results := [.lit (.bool false)], args := [d1, d2, d3, d4, d5] }
  | _ => none }
def TopicForthWrongFalsely : Prop := topicForthRow.holds Tryd.pinned (OpenSpec.ofChange topicForthWrong)

/-- 'humpyardlaw07.TopicFilters': WHATEVER THE INPUT: true; the input reads as it did. -/
def topicFiltersSpec : ChangeSpec := { name := "topicFilters", fn := fun _ => fun
  | [d1, d2, d3, d4, d5] => { results := [.lit (.bool true)], args := [d1, d2, d3, d4, d5] }
  | _ => none }
def topicFiltersRow : OpenClaim := { program := "ytcioahjfmmhiiaadoor", sum := "d16243a3c050901d9fd8225bab09ef05a999697f7565cc5fa233dd171702a7d8", func := "humpyard/humpyardlaw07.TopicFilters", spec := "topicFilters", inPlace := ["internal/bytealg.IndexByteString", "internal/bytealg.IndexString", "internal/abi.NoEscape", "internal/bytealg.MakeNoZero", "internal/bytealg.CountString"], unfollowed := true, recurses := true, named := ["unicode/utf8.first", "unicode/utf8.acceptRanges", "internal/bytealg.MaxLen"], apart := false, laid := [("unicode/utf8.acceptRanges", laid_unicode_utf8_acceptRanges), ("unicode/utf8.first", laid_unicode_utf8_first)] }
def TopicFiltersSaid : Prop := topicFiltersRow.holds Tryd.pinned (OpenSpec.ofChange topicFiltersSpec)

/-- ITS FALSE NEIGHBOUR: 'it returns false'. Refute it at one input. -/
def topicFiltersWrong : ChangeSpec := { name := "topicFilters", fn := fun _ => fun
  | [d1, d2, d3, d4, d5] => { results := [.lit (.bool false)], args := [d1, d2, d3, d4, d5] }
  | _ => none }
def TopicFiltersWrongFalsely : Prop := topicFiltersRow.holds Tryd.pinned (OpenSpec.ofChange topicFiltersWrong)

/- THE SECOND FORM. 'bulk': how many values and letters a reading holds, each counted each time it is reached (what is shared counts as often as it is met; a slice's spare places count too). A statement '..UptoSaid' is the law's where the arguments, and the package variables that the reading takes, are together of bulk at most 1048576: NARROWER than '..Said'. Prove '..Said' where nothing that the law and all that it calls make is longer than what came in: it says more and counts as full. Else prove '..UptoSaid'. A law counts once. -/
mutual
def uptoBulk {H : Type} : DataW H → Nat
  | .lit (.string bytes) => bytes.length + 1
  | .lit _ => 1
  | .nil => 1
  | .ptr d => uptoBulk d + 1
  | .slice elems spare => uptoBulkAll elems + uptoBulkAll spare + 1
  | .agg parts => uptoBulkAll parts + 1
  | .iface _ d => uptoBulk d + 1
  | .map entries => uptoBulkEntries entries + 1
  | .held _ => 1
def uptoBulkAll {H : Type} : List (DataW H) → Nat
  | [] => 0
  | d :: r => uptoBulk d + uptoBulkAll r
def uptoBulkEntries {H : Type} : List (Lit × DataW H) → Nat
  | [] => 0
  | x :: r => uptoBulkEntry x + uptoBulkEntries r
def uptoBulkEntry {H : Type} : Lit × DataW H → Nat
  | (.string bytes, d) => bytes.length + uptoBulk d + 1
  | (_, d) => uptoBulk d + 1
 end
def uptoSmall : (H : Type) → List (DataW H) → Bool := fun _ ds => decide (uptoBulkAll ds ≤ 1048576)
def OpenSpec.upto (s : _root_.Go.ChangeSpec) : _root_.Go.OpenSpec := { _root_.Go.OpenSpec.ofChange s with cond := some uptoSmall }

/-- 'humpyardlaw07.TopicTells', WHERE WHAT IT READS IS OF BULK AT MOST 1048576: true; the input reads as it did. -/
def topicTellsUptoRow : OpenClaim := { program := "ytcioahjfmmhiiaadoor", sum := "d16243a3c050901d9fd8225bab09ef05a999697f7565cc5fa233dd171702a7d8", func := "humpyard/humpyardlaw07.TopicTells", spec := "topicTells", inPlace := ["internal/bytealg.IndexByteString", "internal/bytealg.IndexString", "internal/abi.NoEscape", "internal/bytealg.MakeNoZero", "internal/bytealg.CountString"], unfollowed := true, recurses := true, named := ["unicode/utf8.first", "unicode/utf8.acceptRanges", "internal/bytealg.MaxLen"], apart := false, laid := [("unicode/utf8.acceptRanges", laid_unicode_utf8_acceptRanges), ("unicode/utf8.first", laid_unicode_utf8_first)], narrowed := true }
def TopicTellsUptoSaid : Prop := topicTellsUptoRow.holds Tryd.pinned (OpenSpec.upto topicTellsSpec)

/-- 'humpyardlaw07.TopicBack', WHERE WHAT IT READS IS OF BULK AT MOST 1048576: true; the input reads as it did. -/
def topicBackUptoRow : OpenClaim := { program := "ytcioahjfmmhiiaadoor", sum := "d16243a3c050901d9fd8225bab09ef05a999697f7565cc5fa233dd171702a7d8", func := "humpyard/humpyardlaw07.TopicBack", spec := "topicBack", inPlace := ["internal/bytealg.IndexByteString", "internal/bytealg.IndexString", "internal/abi.NoEscape", "internal/bytealg.MakeNoZero", "internal/bytealg.CountString"], unfollowed := true, recurses := true, named := ["unicode/utf8.first", "unicode/utf8.acceptRanges", "internal/bytealg.MaxLen"], apart := false, laid := [("unicode/utf8.acceptRanges", laid_unicode_utf8_acceptRanges), ("unicode/utf8.first", laid_unicode_utf8_first)], narrowed := true }
def TopicBackUptoSaid : Prop := topicBackUptoRow.holds Tryd.pinned (OpenSpec.upto topicBackSpec)

/-- 'humpyardlaw07.TopicForth', WHERE WHAT IT READS IS OF BULK AT MOST 1048576: true; the input reads as it did. -/
def topicForthUptoRow : OpenClaim := { program := "ytcioahjfmmhiiaadoor", sum := "d16243a3c050901d9fd8225bab09ef05a999697f7565cc5fa233dd171702a7d8", func := "humpyard/humpyardlaw07.TopicForth", spec := "topicForth", inPlace := ["internal/bytealg.IndexByteString", "internal/bytealg.IndexString", "internal/abi.NoEscape", "internal/bytealg.MakeNoZero", "internal/bytealg.CountString"], unfollowed := true, recurses := true, named := ["unicode/utf8.first", "unicode/utf8.acceptRanges", "internal/bytealg.MaxLen"], apart := false, laid := [("unicode/utf8.acceptRanges", laid_unicode_utf8_acceptRanges), ("unicode/utf8.first", laid_unicode_utf8_first)], narrowed := true }
def TopicForthUptoSaid : Prop := topicForthUptoRow.holds Tryd.pinned (OpenSpec.upto topicForthSpec)

/-- 'humpyardlaw07.TopicFilters', WHERE WHAT IT READS IS OF BULK AT MOST 1048576: true; the input reads as it did. -/
def topicFiltersUptoRow : OpenClaim := { program := "ytcioahjfmmhiiaadoor", sum := "d16243a3c050901d9fd8225bab09ef05a999697f7565cc5fa233dd171702a7d8", func := "humpyard/humpyardlaw07.TopicFilters", spec := "topicFilters", inPlace := ["internal/bytealg.IndexByteString", "internal/bytealg.IndexString", "internal/abi.NoEscape", "internal/bytealg.MakeNoZero", "internal/bytealg.CountString"], unfollowed := true, recurses := true, named := ["unicode/utf8.first", "unicode/utf8.acceptRanges", "internal/bytealg.MaxLen"], apart := false, laid := [("unicode/utf8.acceptRanges", laid_unicode_utf8_acceptRanges), ("unicode/utf8.first", laid_unicode_utf8_first)], narrowed := true }
def TopicFiltersUptoSaid : Prop := topicFiltersUptoRow.holds Tryd.pinned (OpenSpec.upto topicFiltersSpec)

end Rows
end Go.Proofs.YtcioahjfmmhiiaaDoor
