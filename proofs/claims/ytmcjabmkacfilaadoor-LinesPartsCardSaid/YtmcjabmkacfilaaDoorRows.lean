/-
  NARROWER THAN 'FOR EVERY INPUT', by the rows' own cells (each row's printed sentence says how): LinesSplits: laid · LinesJoins: laid · LinesTabs: laid · LinesTabbed: laid · LinesEscapes: laid · LinesUnescapes: laid · LinesPercents: laid · LinesParts: laid.
  DERIVED. THE GIVEN ROWS OF THIS SEAT. 8 by the template 'for every input the law returns true; each argument reads behind the call as it read before'; 0 by the template 'total and deterministic' (their statements: YtmcjabmkacfilaaDoorTotals.lean).
  GIVEN WITH THE SEED: the statements are not yours to turn. If you find one false, say at which input.
  Laid BY PROGRAM, IN A SANDBOX (cutbox-rows.mjs): the forced cells as the released guide's own fill.sh prints them over the translation 31a1d81ad79a747d… (all of the seat's roots in one cut). By AI agents, Wed Nov 11 2026. No macro, syntax, notation, axiom, sorry.
-/
import Derived.Test.YtmcjabmkacfilaaDoorChecked
import GoSem.PinnedTables
import GoSem.Claim
import GoSem.ClaimJoined
import GoSem.ClaimMapViews
import Derived.JoinedTies
import Derived.KernelRfl
namespace Go.Proofs.YtmcjabmkacfilaaDoor
/- THE CELL 'sum', in the pinned program and in every row, IS THE sha256 OF THE DUMP (.gsa) THAT YtmcjabmkacfilaaDoorProg.lean LOADS. Nothing in Lean hashes anything: it is a label: what it is worth is what the hold of that sum in a sandbox is worth. -/
noncomputable def Tryd.pinned : Pinned := { name := "ytmcjabmkacfilaadoor", sum := "31a1d81ad79a747d38cf966db81f925a786eaeffd3ee3f75be03630c0cb8ab88", checked := Tryd.checked }
namespace Rows
def none {H : Type} : Left H := { results := [], args := [] }

/- WHAT THE LISTED PACKAGE-LEVEL VARIABLES READ AS WHEN THE CALL BEGINS. Each datum BY PROGRAM (the guide's laid-datum.mjs) off the statement by which the dump's own 'gosem.cut.vars' lays the variable. In a bare row this is a premise. The card (YtmcjabmkacfilaaDoorCards.lean) ties it to the program's text. -/
def laid_unicode_utf8_acceptRanges {H : Type} : DataW H := .agg [.agg [.lit (.int .u8 128), .lit (.int .u8 191)], .agg [.lit (.int .u8 160), .lit (.int .u8 191)], .agg [.lit (.int .u8 128), .lit (.int .u8 159)], .agg [.lit (.int .u8 144), .lit (.int .u8 191)], .agg [.lit (.int .u8 128), .lit (.int .u8 143)], .agg [.lit (.int .u8 0), .lit (.int .u8 0)], .agg [.lit (.int .u8 0), .lit (.int .u8 0)], .agg [.lit (.int .u8 0), .lit (.int .u8 0)], .agg [.lit (.int .u8 0), .lit (.int .u8 0)], .agg [.lit (.int .u8 0), .lit (.int .u8 0)], .agg [.lit (.int .u8 0), .lit (.int .u8 0)], .agg [.lit (.int .u8 0), .lit (.int .u8 0)], .agg [.lit (.int .u8 0), .lit (.int .u8 0)], .agg [.lit (.int .u8 0), .lit (.int .u8 0)], .agg [.lit (.int .u8 0), .lit (.int .u8 0)], .agg [.lit (.int .u8 0), .lit (.int .u8 0)]]
/-- One of Go's own tables, pinned by name: the form's constant. -/
def laid_unicode_utf8_first : DataW Unit := Go.Pinned.utf8First

/-- 'cracknellaw06.LinesSplits': WHATEVER THE INPUT: true; the input reads as it did. -/
def linesSplitsSpec : ChangeSpec := { name := "linesSplits", fn := fun _ => fun
  | [d] => { results := [.lit (.bool true)], args := [d] }
  | _ => none }
def linesSplitsRow : OpenClaim := { program := "ytmcjabmkacfilaadoor", sum := "31a1d81ad79a747d38cf966db81f925a786eaeffd3ee3f75be03630c0cb8ab88", func := "cracknel/cracknellaw06.LinesSplits", spec := "linesSplits", inPlace := ["internal/bytealg.IndexByteString", "internal/bytealg.IndexString", "internal/abi.NoEscape", "internal/bytealg.CountString", "internal/bytealg.MakeNoZero"], unfollowed := true, recurses := true, named := ["internal/bytealg.MaxLen", "unicode/utf8.first", "unicode/utf8.acceptRanges"], apart := false, laid := [("unicode/utf8.acceptRanges", laid_unicode_utf8_acceptRanges), ("unicode/utf8.first", laid_unicode_utf8_first)] }
def LinesSplitsSaid : Prop := linesSplitsRow.holds Tryd.pinned (OpenSpec.ofChange linesSplitsSpec)

/-- ITS FALSE NEIGHBOUR: 'it returns false'. Refute it at one input. -/
def linesSplitsWrong : ChangeSpec := { name := "linesSplits", fn := fun _ => fun
  | [d] => { results := [.lit (.bool false)], args := [d] }
  | _ => none }
def LinesSplitsWrongFalsely : Prop := linesSplitsRow.holds Tryd.pinned (OpenSpec.ofChange linesSplitsWrong)

/-- 'cracknellaw06.LinesJoins': WHATEVER THE INPUT: true; the input reads as it did. -/
def linesJoinsSpec : ChangeSpec := { name := "linesJoins", fn := fun _ => fun
  | [d] => { results := [.lit (.bool true)], args := [d] }
  | _ => none }
def linesJoinsRow : OpenClaim := { program := "ytmcjabmkacfilaadoor", sum := "31a1d81ad79a747d38cf966db81f925a786eaeffd3ee3f75be03630c0cb8ab88", func := "cracknel/cracknellaw06.LinesJoins", spec := "linesJoins", inPlace := ["internal/bytealg.IndexByteString", "internal/bytealg.IndexString", "internal/abi.NoEscape", "internal/bytealg.CountString", "internal/bytealg.MakeNoZero"], unfollowed := true, recurses := true, named := ["internal/bytealg.MaxLen", "unicode/utf8.first", "unicode/utf8.acceptRanges"], apart := false, laid := [("unicode/utf8.acceptRanges", laid_unicode_utf8_acceptRanges), ("unicode/utf8.first", laid_unicode_utf8_first)] }
def LinesJoinsSaid : Prop := linesJoinsRow.holds Tryd.pinned (OpenSpec.ofChange linesJoinsSpec)

/-- ITS FALSE NEIGHBOUR: 'it returns false'. Refute it at one input. -/
def linesJoinsWrong : ChangeSpec := { name := "linesJoins", fn := fun _ => fun
  | [d] => { results := [.lit (.bool false)], args := [d] }
  | _ => none }
def LinesJoinsWrongFalsely : Prop := linesJoinsRow.holds Tryd.pinned (OpenSpec.ofChange linesJoinsWrong)

/-- 'cracknellaw06.LinesTabs': WHATEVER THE INPUT: true; the input reads as it did. -/
def linesTabsSpec : ChangeSpec := { name := "linesTabs", fn := fun _ => fun
  | [d] => { results := [.lit (.bool true)], args := [d] }
  | _ => none }
def linesTabsRow : OpenClaim := { program := "ytmcjabmkacfilaadoor", sum := "31a1d81ad79a747d38cf966db81f925a786eaeffd3ee3f75be03630c0cb8ab88", func := "cracknel/cracknellaw06.LinesTabs", spec := "linesTabs", inPlace := ["internal/bytealg.IndexByteString", "internal/bytealg.IndexString", "internal/abi.NoEscape", "internal/bytealg.CountString", "internal/bytealg.MakeNoZero"], unfollowed := true, recurses := true, named := ["internal/bytealg.MaxLen", "unicode/utf8.first", "unicode/utf8.acceptRanges"], apart := false, laid := [("unicode/utf8.acceptRanges", laid_unicode_utf8_acceptRanges), ("unicode/utf8.first", laid_unicode_utf8_first)] }
def LinesTabsSaid : Prop := linesTabsRow.holds Tryd.pinned (OpenSpec.ofChange linesTabsSpec)

/-- ITS FALSE NEIGHBOUR: 'it returns false'. Refute it at one input. -/
def linesTabsWrong : ChangeSpec := { name := "linesTabs", fn := fun _ => fun
  | [d] => { results := [.lit (.bool false)], args := [d] }
  | _ => none }
def LinesTabsWrongFalsely : Prop := linesTabsRow.holds Tryd.pinned (OpenSpec.ofChange linesTabsWrong)

/-- 'cracknellaw06.LinesTabbed': WHATEVER THE INPUT: true; the input reads as it did. -/
def linesTabbedSpec : ChangeSpec := { name := "linesTabbed", fn := fun _ => fun
  | [d] => { results := [.lit (.bool true)], args := [d] }
  | _ => none }
def linesTabbedRow : OpenClaim := { program := "ytmcjabmkacfilaadoor", sum := "31a1d81ad79a747d38cf966db81f925a786eaeffd3ee3f75be03630c0cb8ab88", func := "cracknel/cracknellaw06.LinesTabbed", spec := "linesTabbed", inPlace := ["internal/bytealg.IndexByteString", "internal/bytealg.IndexString", "internal/abi.NoEscape", "internal/bytealg.CountString", "internal/bytealg.MakeNoZero"], unfollowed := true, recurses := true, named := ["internal/bytealg.MaxLen", "unicode/utf8.first", "unicode/utf8.acceptRanges"], apart := false, laid := [("unicode/utf8.acceptRanges", laid_unicode_utf8_acceptRanges), ("unicode/utf8.first", laid_unicode_utf8_first)] }
def LinesTabbedSaid : Prop := linesTabbedRow.holds Tryd.pinned (OpenSpec.ofChange linesTabbedSpec)

/-- ITS FALSE NEIGHBOUR: 'it returns false'. Refute it at one input. -/
def linesTabbedWrong : ChangeSpec := { name := "linesTabbed", fn := fun _ => fun
  | [d] => { results := [.lit (.bool false)], args := [d] }
  | _ => none }
def LinesTabbedWrongFalsely : Prop := linesTabbedRow.holds Tryd.pinned (OpenSpec.ofChange linesTabbedWrong)

/-- 'cracknellaw06.LinesEscapes': WHATEVER THE INPUT: true; the input reads as it did. -/
def linesEscapesSpec : ChangeSpec := { name := "linesEscapes", fn := fun _ => fun
  | [d] => { results := [.lit (.bool true)], args := [d] }
  | _ => none }
def linesEscapesRow : OpenClaim := { program := "ytmcjabmkacfilaadoor", sum := "31a1d81ad79a747d38cf966db81f925a786eaeffd3ee3f75be03630c0cb8ab88", func := "cracknel/cracknellaw06.LinesEscapes", spec := "linesEscapes", inPlace := ["internal/bytealg.IndexByteString", "internal/bytealg.IndexString", "internal/abi.NoEscape", "internal/bytealg.CountString", "internal/bytealg.MakeNoZero"], unfollowed := true, recurses := true, named := ["internal/bytealg.MaxLen", "unicode/utf8.first", "unicode/utf8.acceptRanges"], apart := false, laid := [("unicode/utf8.acceptRanges", laid_unicode_utf8_acceptRanges), ("unicode/utf8.first", laid_unicode_utf8_first)] }
def LinesEscapesSaid : Prop := linesEscapesRow.holds Tryd.pinned (OpenSpec.ofChange linesEscapesSpec)

/-- ITS FALSE NEIGHBOUR: 'it returns false'. Refute it at one input. -/
def linesEscapesWrong : ChangeSpec := { name := "linesEscapes", fn := fun _ => fun
  | [d] => { results := [.lit (.bool false)], args := [d] }
  | _ => none }
def LinesEscapesWrongFalsely : Prop := linesEscapesRow.holds Tryd.pinned (OpenSpec.ofChange linesEscapesWrong)

/-- 'cracknellaw06.LinesUnescapes': WHATEVER THE INPUT: true; the input reads as it did. -/
def linesUnescapesSpec : ChangeSpec := { name := "linesUnescapes", fn := fun _ => fun
  | [d] => { results := [.lit (.bool true)], args := [d] }
  | _ => none }
def linesUnescapesRow : OpenClaim := { program := "ytmcjabmkacfilaadoor", sum := "31a1d81ad79a747d38cf966db81f925a786eaeffd3ee3f75be03630c0cb8ab88", func := "cracknel/cracknellaw06.LinesUnescapes", spec := "linesUnescapes", inPlace := ["internal/bytealg.IndexByteString", "internal/bytealg.IndexString", "internal/abi.NoEscape", "internal/bytealg.CountString", "internal/bytealg.MakeNoZero"], unfollowed := true, recurses := true, named := ["internal/bytealg.MaxLen", "unicode/utf8.first", "unicode/utf8.acceptRanges"], apart := false, laid := [("unicode/utf8.acceptRanges", laid_unicode_utf8_acceptRanges), ("unicode/utf8.first", laid_unicode_utf8_first)] }
def LinesUnescapesSaid : Prop := linesUnescapesRow.holds Tryd.pinned (OpenSpec.ofChange linesUnescapesSpec)

/-- ITS FALSE NEIGHBOUR: 'it returns false'. Refute it at one input. -/
def linesUnescapesWrong : ChangeSpec := { name := "linesUnescapes", fn := fun _ => fun
  | [d] => { results := [.lit (.bool false)], args := [d] }
  | _ => none }
def LinesUnescapesWrongFalsely : Prop := linesUnescapesRow.holds Tryd.pinned (OpenSpec.ofChange linesUnescapesWrong)

/-- 'cracknellaw06.LinesPercents': WHATEVER THE INPUT: true; the input reads as it did. -/
def linesPercentsSpec : ChangeSpec := { name := "linesPercents", fn := fun _ => fun
  | [d1, d2] => { results := [.lit (.bool true)], args := [d1, d2] }
  | _ => none }
def linesPercentsRow : OpenClaim := { program := "ytmcjabmkacfilaadoor", sum := "31a1d81ad79a747d38cf966db81f925a786eaeffd3ee3f75be03630c0cb8ab88", func := "cracknel/cracknellaw06.LinesPercents", spec := "linesPercents", inPlace := ["internal/bytealg.IndexByteString", "internal/bytealg.IndexString", "internal/abi.NoEscape", "internal/bytealg.CountString", "internal/bytealg.MakeNoZero"], unfollowed := true, recurses := true, named := ["internal/bytealg.MaxLen", "unicode/utf8.first", "unicode/utf8.acceptRanges"], apart := false, laid := [("unicode/utf8.acceptRanges", laid_unicode_utf8_acceptRanges), ("unicode/utf8.first", laid_unicode_utf8_first)] }
def LinesPercentsSaid : Prop := linesPercentsRow.holds Tryd.pinned (OpenSpec.ofChange linesPercentsSpec)

/-- ITS FALSE NEIGHBOUR: 'it returns false'. Refute it at one input. -/
def linesPercentsWrong : ChangeSpec := { name := "linesPercents", fn := fun _ => fun
  | [d1, d2] => { results := [.lit (.bool false)], args := [d1, d2] }
  | _ => none }
def LinesPercentsWrongFalsely : Prop := linesPercentsRow.holds Tryd.pinned (OpenSpec.ofChange linesPercentsWrong)

/-- 'cracknellaw06.LinesParts': WHATEVER THE INPUT: true; the input reads as it did. -/
def linesPartsSpec : ChangeSpec := { name := "linesParts", fn := fun _ => fun
  | [d1, d2] => { results := [.lit (.bool true)], args := [d1, d2] }
  | _ => none }
def linesPartsRow : OpenClaim := { program := "ytmcjabmkacfilaadoor", sum := "31a1d81ad79a747d38cf966db81f925a786eaeffd3ee3f75be03630c0cb8ab88", func := "cracknel/cracknellaw06.LinesParts", spec := "linesParts", inPlace := ["internal/bytealg.IndexByteString", "internal/bytealg.IndexString", "internal/abi.NoEscape", "internal/bytealg.CountString", "internal/bytealg.MakeNoZero"], unfollowed := true, recurses := true, named := ["internal/bytealg.MaxLen", "unicode/utf8.first", "unicode/utf8.acceptRanges"], apart := false, laid := [("unicode/utf8.acceptRanges", laid_unicode_utf8_acceptRanges), ("unicode/utf8.first", laid_unicode_utf8_first)] }
def LinesPartsSaid : Prop := linesPartsRow.holds Tryd.pinned (OpenSpec.ofChange linesPartsSpec)

/-- ITS FALSE NEIGHBOUR: 'it returns false'. Refute it at one input. -/
def linesPartsWrong : ChangeSpec := { name := "linesParts", fn := fun _ => fun
  | [d1, d2] => { results := [.lit (.bool false)], args := [d1, d2] }
  | _ => none }
def LinesPartsWrongFalsely : Prop := linesPartsRow.holds Tryd.pinned (OpenSpec.ofChange linesPartsWrong)

/- THE SECOND FORM. 'bulk': how many values and letters a reading holds, each counted each time it is reached (what is shared counts as often as it is met; a slice's spare places count too). A statement '..UptoSaid' is the law's where the arguments, and the package variables that the reading takes, are together of bulk at most 1048576: NARROWER than '..Said'. Prove '..Said' where nothing that the law and all that it calls make is longer than what came in: it says more and counts as full. Else prove '..UptoSaid'. A law counts once. -/
mutual
def uptoBulk {H : Type} : DataW H → Nat
  | .lit (.string bytes) => bytes.length + 1
  | .lit _ => 1
  | .nil => 1
  | .ptr d => uptoBulk d + 1
  | .slice elems spare => uptoBulkAll elems + uptoBulkAll spare + 1
  | .agg parts => uptoBulkAll parts + 1
  | .iface _ d => uptoBulk d + 1
  | .map entries => uptoBulkEntries entries + 1
  | .held _ => 1
def uptoBulkAll {H : Type} : List (DataW H) → Nat
  | [] => 0
  | d :: r => uptoBulk d + uptoBulkAll r
def uptoBulkEntries {H : Type} : List (Lit × DataW H) → Nat
  | [] => 0
  | x :: r => uptoBulkEntry x + uptoBulkEntries r
def uptoBulkEntry {H : Type} : Lit × DataW H → Nat
  | (.string bytes, d) => bytes.length + uptoBulk d + 1
  | (_, d) => uptoBulk d + 1
 end
def uptoSmall : (H : Type) → List (DataW H) → Bool := fun _ ds => decide (uptoBulkAll ds ≤ 1048576)
def OpenSpec.upto (s : _root_.Go.ChangeSpec) : _root_.Go.OpenSpec := { _root_.Go.OpenSpec.ofChange s with cond := some uptoSmall }

/-- 'cracknellaw06.LinesSplits', WHERE WHAT IT READS IS OF BULK AT MOST 1048576: true; the input reads as it did. -/
def linesSplitsUptoRow : OpenClaim := { program := "ytmcjabmkacfilaadoor", sum := "31a1d81ad79a747d38cf966db81f925a786eaeffd3ee3f75be03630c0cb8ab88", func := "cracknel/cracknellaw06.LinesSplits", spec := "linesSplits", inPlace := ["internal/bytealg.IndexByteString", "internal/bytealg.IndexString", "internal/abi.NoEscape", "internal/bytealg.CountString", "internal/bytealg.MakeNoZero"], unfollowed := true, recurses := true, named := ["internal/bytealg.MaxLen", "unicode/utf8.first", "unicode/utf8.acceptRanges"], apart := false, laid := [("unicode/utf8.acceptRanges", laid_unicode_utf8_acceptRanges), ("unicode/utf8.first", laid_unicode_utf8_first)], narrowed := true }
def LinesSplitsUptoSaid : Prop := linesSplitsUptoRow.holds Tryd.pinned (OpenSpec.upto linesSplitsSpec)

/-- 'cracknellaw06.LinesJoins', WHERE WHAT IT READS IS OF BULK AT MOST 1048576: true; the input reads as it did. -/
def linesJoinsUptoRow : OpenClaim := { program := "ytmcjabmkacfilaadoor", sum := "31a1d81ad79a747d38cf966db81f925a786eaeffd3ee3f75be03630c0cb8ab88", func := "cracknel/cracknellaw06.LinesJoins", spec := "linesJoins", inPlace := ["internal/bytealg.IndexByteString", "internal/bytealg.IndexString", "internal/abi.NoEscape", "internal/bytealg.CountString", "internal/bytealg.MakeNoZero"], unfollowed := true, recurses := true, named := ["internal/bytealg.MaxLen", "unicode/utf8.first", "unicode/utf8.acceptRanges"], apart := false, laid := [("unicode/utf8.acceptRanges", laid_unicode_utf8_acceptRanges), ("unicode/utf8.first", laid_unicode_utf8_first)], narrowed := true }
def LinesJoinsUptoSaid : Prop := linesJoinsUptoRow.holds Tryd.pinned (OpenSpec.upto linesJoinsSpec)

/-- 'cracknellaw06.LinesTabs', WHERE WHAT IT READS IS OF BULK AT MOST 1048576: true; the input reads as it did. -/
def linesTabsUptoRow : OpenClaim := { program := "ytmcjabmkacfilaadoor", sum := "31a1d81ad79a747d38cf966db81f925a786eaeffd3ee3f75be03630c0cb8ab88", func := "cracknel/cracknellaw06.LinesTabs", spec := "linesTabs", inPlace := ["internal/bytealg.IndexByteString", "internal/bytealg.IndexString", "internal/abi.NoEscape", "internal/bytealg.CountString", "internal/bytealg.MakeNoZero"], unfollowed := true, recurses := true, named := ["internal/bytealg.MaxLen", "unicode/utf8.first", "unicode/utf8.acceptRanges"], apart := false, laid := [("unicode/utf8.acceptRanges", laid_unicode_utf8_acceptRanges), ("unicode/utf8.first", laid_unicode_utf8_first)], narrowed := true }
def LinesTabsUptoSaid : Prop := linesTabsUptoRow.holds Tryd.pinned (OpenSpec.upto linesTabsSpec)

/-- 'cracknellaw06.LinesTabbed', WHERE WHAT IT READS IS OF BULK AT MOST 1048576: true; the input reads as it did. -/
def linesTabbedUptoRow : OpenClaim := { program := "ytmcjabmkacfilaadoor", sum := "31a1d81ad79a747d38cf966db81f925a786eaeffd3ee3f75be03630c0cb8ab88", func := "cracknel/cracknellaw06.LinesTabbed", spec := "linesTabbed", inPlace := ["internal/bytealg.IndexByteString", "internal/bytealg.IndexString", "internal/abi.NoEscape", "internal/bytealg.CountString", "internal/bytealg.MakeNoZero"], unfollowed := true, recurses := true, named := ["internal/bytealg.MaxLen", "unicode/utf8.first", "unicode/utf8.acceptRanges"], apart := false, laid := [("unicode/utf8.acceptRanges", laid_unicode_utf8_acceptRanges), ("unicode/utf8.first", laid_unicode_utf8_first)], narrowed := true }
def LinesTabbedUptoSaid : Prop := linesTabbedUptoRow.holds Tryd.pinned (OpenSpec.upto linesTabbedSpec)

/-- 'cracknellaw06.LinesEscapes', WHERE WHAT IT READS IS OF BULK AT MOST 1048576: true; the input reads as it did. -/
def linesEscapesUptoRow : OpenClaim := { program := "ytmcjabmkacfilaadoor", sum := "31a1d81ad79a747d38cf966db81f925a786eaeffd3ee3f75be03630c0cb8ab88", func := "cracknel/cracknellaw06.LinesEscapes", spec := "linesEscapes", inPlace := ["internal/bytealg.IndexByteString", "internal/bytealg.IndexString", "internal/abi.NoEscape", "internal/bytealg.CountString", "internal/bytealg.MakeNoZero"], unfollowed := true, recurses := true, named := ["internal/bytealg.MaxLen", "unicode/utf8.first", "unicode/utf8.acceptRanges"], apart := false, laid := [("unicode/utf8.acceptRanges", laid_unicode_utf8_acceptRanges), ("unicode/utf8.first", laid_unicode_utf8_first)], narrowed := true }
def LinesEscapesUptoSaid : Prop := linesEscapesUptoRow.holds Tryd.pinned (OpenSpec.upto linesEscapesSpec)

/-- 'cracknellaw06.LinesUnescapes', WHERE WHAT IT READS IS OF BULK AT MOST 1048576: true; the input reads as it did. -/
def linesUnescapesUptoRow : OpenClaim := { program := "ytmcjabmkacfilaadoor", sum := "31a1d81ad79a747d38cf966db81f925a786eaeffd3ee3f75be03630c0cb8ab88", func := "cracknel/cracknellaw06.LinesUnescapes", spec := "linesUnescapes", inPlace := ["internal/bytealg.IndexByteString", "internal/bytealg.IndexString", "internal/abi.NoEscape", "internal/bytealg.CountString", "internal/bytealg.MakeNoZero"], unfollowed := true, recurses := true, named := ["internal/bytealg.MaxLen", "unicode/utf8.first", "unicode/utf8.acceptRanges"], apart := false, laid := [("unicode/utf8.acceptRanges", laid_unicode_utf8_acceptRanges), ("unicode/utf8.first", laid_unicode_utf8_first)], narrowed := true }
def LinesUnescapesUptoSaid : Prop := linesUnescapesUptoRow.holds Tryd.pinned (OpenSpec.upto linesUnescapesSpec)

/-- 'cracknellaw06.LinesPercents', WHERE WHAT IT READS IS OF BULK AT MOST 1048576: true; the input reads as it did. -/
def linesPercentsUptoRow : OpenClaim := { program := "ytmcjabmkacfilaadoor", sum := "31a1d81ad79a747d38cf966db81f925a786eaeffd3ee3f75be03630c0cb8ab88", func := "cracknel/cracknellaw06.LinesPercents", spec := "linesPercents", inPlace := ["internal/bytealg.IndexByteString", "internal/bytealg.IndexString", "internal/abi.NoEscape", "internal/bytealg.CountString", "internal/bytealg.MakeNoZero"], unfollowed := true, recurses := true, named := ["internal/bytealg.MaxLen", "unicode/utf8.first", "unicode/utf8.acceptRanges"], apart := false, laid := [("unicode/utf8.acceptRanges", laid_unicode_utf8_acceptRanges), ("unicode/utf8.first", laid_unicode_utf8_first)], narrowed := true }
def LinesPercentsUptoSaid : Prop := linesPercentsUptoRow.holds Tryd.pinned (OpenSpec.upto linesPercentsSpec)

/-- 'cracknellaw06.LinesParts', WHERE WHAT IT READS IS OF BULK AT MOST 1048576: true; the input reads as it did. -/
def linesPartsUptoRow : OpenClaim := { program := "ytmcjabmkacfilaadoor", sum := "31a1d81ad79a747d38cf966db81f925a786eaeffd3ee3f75be03630c0cb8ab88", func := "cracknel/cracknellaw06.LinesParts", spec := "linesParts", inPlace := ["internal/bytealg.IndexByteString", "internal/bytealg.IndexString", "internal/abi.NoEscape", "internal/bytealg.CountString", "internal/bytealg.MakeNoZero"], unfollowed := true, recurses := true, named := ["internal/bytealg.MaxLen", "unicode/utf8.first", "unicode/utf8.acceptRanges"], apart := false, laid := [("unicode/utf8.acceptRanges", laid_unicode_utf8_acceptRanges), ("unicode/utf8.first", laid_unicode_utf8_first)], narrowed := true }
def LinesPartsUptoSaid : Prop := linesPartsUptoRow.holds Tryd.pinned (OpenSpec.upto linesPartsSpec)

end Rows
end Go.Proofs.YtmcjabmkacfilaaDoor
