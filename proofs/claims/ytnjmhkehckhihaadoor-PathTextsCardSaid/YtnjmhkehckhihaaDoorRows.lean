/-
  NARROWER THAN 'FOR EVERY INPUT', by the rows' own cells (each row's printed sentence says how): PathDefaults: laid · PathMatches: laid · PathTransitive: laid · PathBelow: laid · PathParses: laid · PathTexts: laid.
  DERIVED. THE GIVEN ROWS OF THIS SEAT. 6 by the template 'for every input the law returns true; each argument reads behind the call as it read before'; 0 by the template 'total and deterministic' (their statements: YtnjmhkehckhihaaDoorTotals.lean).
  GIVEN WITH THE SEED: the statements are not yours to turn. If you find one false, say at which input.
  Laid BY PROGRAM, IN A SANDBOX (cutbox-rows.mjs): the forced cells as the released guide's own fill.sh prints them over the translation 17d62c1e36aefdfe… (all of the seat's roots in one cut). By AI agents, Wed Nov 11 2026. No macro, syntax, notation, axiom, sorry.
-/
import Derived.Test.YtnjmhkehckhihaaDoorChecked
import GoSem.PinnedTables
import GoSem.Claim
import GoSem.ClaimJoined
import GoSem.ClaimMapViews
import Derived.JoinedTies
import Derived.KernelRfl
namespace Go.Proofs.YtnjmhkehckhihaaDoor
/- THE CELL 'sum', in the pinned program and in every row, IS THE sha256 OF THE DUMP (.gsa) THAT YtnjmhkehckhihaaDoorProg.lean LOADS. Nothing in Lean hashes anything: it is a label: what it is worth is what the hold of that sum in a sandbox is worth. -/
noncomputable def Tryd.pinned : Pinned := { name := "ytnjmhkehckhihaadoor", sum := "17d62c1e36aefdfeb10c955a1810b6aced9fe481c16b968fc442b3fb28cf9c86", checked := Tryd.checked }
namespace Rows
def none {H : Type} : Left H := { results := [], args := [] }

/- WHAT THE LISTED PACKAGE-LEVEL VARIABLES READ AS WHEN THE CALL BEGINS. Each datum BY PROGRAM (the guide's laid-datum.mjs) off the statement by which the dump's own 'gosem.cut.vars' lays the variable. In a bare row this is a premise. The card (YtnjmhkehckhihaaDoorCards.lean) ties it to the program's text. -/
def laid_unicode_utf8_acceptRanges {H : Type} : DataW H := .agg [.agg [.lit (.int .u8 128), .lit (.int .u8 191)], .agg [.lit (.int .u8 160), .lit (.int .u8 191)], .agg [.lit (.int .u8 128), .lit (.int .u8 159)], .agg [.lit (.int .u8 144), .lit (.int .u8 191)], .agg [.lit (.int .u8 128), .lit (.int .u8 143)], .agg [.lit (.int .u8 0), .lit (.int .u8 0)], .agg [.lit (.int .u8 0), .lit (.int .u8 0)], .agg [.lit (.int .u8 0), .lit (.int .u8 0)], .agg [.lit (.int .u8 0), .lit (.int .u8 0)], .agg [.lit (.int .u8 0), .lit (.int .u8 0)], .agg [.lit (.int .u8 0), .lit (.int .u8 0)], .agg [.lit (.int .u8 0), .lit (.int .u8 0)], .agg [.lit (.int .u8 0), .lit (.int .u8 0)], .agg [.lit (.int .u8 0), .lit (.int .u8 0)], .agg [.lit (.int .u8 0), .lit (.int .u8 0)], .agg [.lit (.int .u8 0), .lit (.int .u8 0)]]
/-- One of Go's own tables, pinned by name: the form's constant. -/
def laid_unicode_utf8_first : DataW Unit := Go.Pinned.utf8First

/-- 'cracknellaw12.PathDefaults': WHATEVER THE INPUT: true; the input reads as it did. -/
def pathDefaultsSpec : ChangeSpec := { name := "pathDefaults", fn := fun _ => fun
  | [d] => { results := [.lit (.bool true)], args := [d] }
  | _ => none }
def pathDefaultsRow : OpenClaim := { program := "ytnjmhkehckhihaadoor", sum := "17d62c1e36aefdfeb10c955a1810b6aced9fe481c16b968fc442b3fb28cf9c86", func := "cracknel/cracknellaw12.PathDefaults", spec := "pathDefaults", inPlace := ["internal/bytealg.CountString", "internal/bytealg.IndexByteString", "internal/bytealg.IndexString"], unfollowed := true, recurses := true, named := ["unicode/utf8.first", "unicode/utf8.acceptRanges", "internal/bytealg.MaxLen"], apart := false, laid := [("unicode/utf8.acceptRanges", laid_unicode_utf8_acceptRanges), ("unicode/utf8.first", laid_unicode_utf8_first)] }
def PathDefaultsSaid : Prop := pathDefaultsRow.holds Tryd.pinned (OpenSpec.ofChange pathDefaultsSpec)

/-- ITS FALSE NEIGHBOUR: 'it returns false'. Refute it at one input. -/
def pathDefaultsWrong : ChangeSpec := { name := "pathDefaults", fn := fun _ => fun
  | [d] => { results := [.lit (.bool false)], args := [d] }
  | _ => none }
def PathDefaultsWrongFalsely : Prop := pathDefaultsRow.holds Tryd.pinned (OpenSpec.ofChange pathDefaultsWrong)

/-- 'cracknellaw12.PathMatches': WHATEVER THE INPUT: true; the input reads as it did. -/
def pathMatchesSpec : ChangeSpec := { name := "pathMatches", fn := fun _ => fun
  | [d1, d2] => { results := [.lit (.bool true)], args := [d1, d2] }
  | _ => none }
def pathMatchesRow : OpenClaim := { program := "ytnjmhkehckhihaadoor", sum := "17d62c1e36aefdfeb10c955a1810b6aced9fe481c16b968fc442b3fb28cf9c86", func := "cracknel/cracknellaw12.PathMatches", spec := "pathMatches", inPlace := ["internal/bytealg.CountString", "internal/bytealg.IndexByteString", "internal/bytealg.IndexString"], unfollowed := true, recurses := true, named := ["unicode/utf8.first", "unicode/utf8.acceptRanges", "internal/bytealg.MaxLen"], apart := false, laid := [("unicode/utf8.acceptRanges", laid_unicode_utf8_acceptRanges), ("unicode/utf8.first", laid_unicode_utf8_first)] }
def PathMatchesSaid : Prop := pathMatchesRow.holds Tryd.pinned (OpenSpec.ofChange pathMatchesSpec)

/-- ITS FALSE NEIGHBOUR: 'it returns false'. Refute it at one input. -/
def pathMatchesWrong : ChangeSpec := { name := "pathMatches", fn := fun _ => fun
  | [d1, d2] => { results := [.lit (.bool false)], args := [d1, d2] }
  | _ => none }
def PathMatchesWrongFalsely : Prop := pathMatchesRow.holds Tryd.pinned (OpenSpec.ofChange pathMatchesWrong)

/-- 'cracknellaw12.PathTransitive': WHATEVER THE INPUT: true; the input reads as it did. -/
def pathTransitiveSpec : ChangeSpec := { name := "pathTransitive", fn := fun _ => fun
  | [d1, d2, d3] => { results := [.lit (.bool true)], args := [d1, d2, d3] }
  | _ => none }
def pathTransitiveRow : OpenClaim := { program := "ytnjmhkehckhihaadoor", sum := "17d62c1e36aefdfeb10c955a1810b6aced9fe481c16b968fc442b3fb28cf9c86", func := "cracknel/cracknellaw12.PathTransitive", spec := "pathTransitive", inPlace := ["internal/bytealg.CountString", "internal/bytealg.IndexByteString", "internal/bytealg.IndexString"], unfollowed := true, recurses := true, named := ["unicode/utf8.first", "unicode/utf8.acceptRanges", "internal/bytealg.MaxLen"], apart := false, laid := [("unicode/utf8.acceptRanges", laid_unicode_utf8_acceptRanges), ("unicode/utf8.first", laid_unicode_utf8_first)] }
def PathTransitiveSaid : Prop := pathTransitiveRow.holds Tryd.pinned (OpenSpec.ofChange pathTransitiveSpec)

/-- ITS FALSE NEIGHBOUR: 'it returns false'. Refute it at one input. -/
def pathTransitiveWrong : ChangeSpec := { name := "pathTransitive", fn := fun _ => fun
  | [d1, d2, d3] => { results := [.lit (.bool false)], args := [d1, d2, d3] }
  | _ => none }
def PathTransitiveWrongFalsely : Prop := pathTransitiveRow.holds Tryd.pinned (OpenSpec.ofChange pathTransitiveWrong)

/-- 'cracknellaw12.PathBelow': WHATEVER THE INPUT: true; the input reads as it did. -/
def pathBelowSpec : ChangeSpec := { name := "pathBelow", fn := fun _ => fun
  | [d1, d2] => { results := [.lit (.bool true)], args := [d1, d2] }
  | _ => none }
def pathBelowRow : OpenClaim := { program := "ytnjmhkehckhihaadoor", sum := "17d62c1e36aefdfeb10c955a1810b6aced9fe481c16b968fc442b3fb28cf9c86", func := "cracknel/cracknellaw12.PathBelow", spec := "pathBelow", inPlace := ["internal/bytealg.CountString", "internal/bytealg.IndexByteString", "internal/bytealg.IndexString"], unfollowed := true, recurses := true, named := ["unicode/utf8.first", "unicode/utf8.acceptRanges", "internal/bytealg.MaxLen"], apart := false, laid := [("unicode/utf8.acceptRanges", laid_unicode_utf8_acceptRanges), ("unicode/utf8.first", laid_unicode_utf8_first)] }
def PathBelowSaid : Prop := pathBelowRow.holds Tryd.pinned (OpenSpec.ofChange pathBelowSpec)

/-- ITS FALSE NEIGHBOUR: 'it returns false'. Refute it at one input. -/
def pathBelowWrong : ChangeSpec := { name := "pathBelow", fn := fun _ => fun
  | [d1, d2] => { results := [.lit (.bool false)], args := [d1, d2] }
  | _ => none }
def PathBelowWrongFalsely : Prop := pathBelowRow.holds Tryd.pinned (OpenSpec.ofChange pathBelowWrong)

/-- 'cracknellaw12.PathParses': WHATEVER THE INPUT: true; the input reads as it did. -/
def pathParsesSpec : ChangeSpec := { name := "pathParses", fn := fun _ => fun
  | [d1, d2] => { results := [.lit (.bool true)], args := [d1, d2] }
  | _ => none }
def pathParsesRow : OpenClaim := { program := "ytnjmhkehckhihaadoor", sum := "17d62c1e36aefdfeb10c955a1810b6aced9fe481c16b968fc442b3fb28cf9c86", func := "cracknel/cracknellaw12.PathParses", spec := "pathParses", inPlace := ["internal/bytealg.CountString", "internal/bytealg.IndexByteString", "internal/bytealg.IndexString"], unfollowed := true, recurses := true, named := ["unicode/utf8.first", "unicode/utf8.acceptRanges", "internal/bytealg.MaxLen"], apart := false, laid := [("unicode/utf8.acceptRanges", laid_unicode_utf8_acceptRanges), ("unicode/utf8.first", laid_unicode_utf8_first)] }
def PathParsesSaid : Prop := pathParsesRow.holds Tryd.pinned (OpenSpec.ofChange pathParsesSpec)

/-- ITS FALSE NEIGHBOUR: 'it returns false'. Refute it at one input. -/
def pathParsesWrong : ChangeSpec := { name := "pathParses", fn := fun _ => fun
  | [d1, d2] => { results := [.lit (.bool false)], args := [d1, d2] }
  | _ => none }
def PathParsesWrongFalsely : Prop := pathParsesRow.holds Tryd.pinned (OpenSpec.ofChange pathParsesWrong)

/-- 'cracknellaw12.PathTexts': WHATEVER THE INPUT: true; the input reads as it did. -/
def pathTextsSpec : ChangeSpec := { name := "pathTexts", fn := fun _ => fun
  | [d] => { results := [.lit (.bool true)], args := [d] }
  | _ => none }
def pathTextsRow : OpenClaim := { program := "ytnjmhkehckhihaadoor", sum := "17d62c1e36aefdfeb10c955a1810b6aced9fe481c16b968fc442b3fb28cf9c86", func := "cracknel/cracknellaw12.PathTexts", spec := "pathTexts", inPlace := ["internal/bytealg.CountString", "internal/bytealg.IndexByteString", "internal/bytealg.IndexString"], unfollowed := true, recurses := true, named := ["unicode/utf8.first", "unicode/utf8.acceptRanges", "internal/bytealg.MaxLen"], apart := false, laid := [("unicode/utf8.acceptRanges", laid_unicode_utf8_acceptRanges), ("unicode/utf8.first", laid_unicode_utf8_first)] }
def PathTextsSaid : Prop := pathTextsRow.holds Tryd.pinned (OpenSpec.ofChange pathTextsSpec)

/-- ITS FALSE NEIGHBOUR: 'it returns false'. Refute it at one input. -/
def pathTextsWrong : ChangeSpec := { name := "pathTexts", fn := fun _ => fun
  | [d] => { results := [.lit (.bool false)], args := [d] }
  | _ => none }
def PathTextsWrongFalsely : Prop := pathTextsRow.holds Tryd.pinned (OpenSpec.ofChange pathTextsWrong)

/- THE SECOND FORM. 'bulk': how many values and letters a reading holds, each counted each time it is reached (what is shared counts as often as it is met; a slice's spare places count too). A statement '..UptoSaid' is the law's where the arguments, and the package variables that the reading takes, are together of bulk at most 1048576: NARROWER than '..Said'. Prove '..Said' where nothing that the law and all that it calls make is longer than what came in: it says more and counts as full. Else prove '..UptoSaid'. A law counts once. -/
mutual
def uptoBulk {H : Type} : DataW H → Nat
  | .lit (.string bytes) => bytes.length + 1
  | .lit _ => 1
  | .nil => 1
  | .ptr d => uptoBulk d + 1
  | .slice elems spare => uptoBulkAll elems + uptoBulkAll spare + 1
  | .agg parts => uptoBulkAll parts + 1
  | .iface _ d => uptoBulk d + 1
  | .map entries => uptoBulkEntries entries + 1
  | .held _ => 1
def uptoBulkAll {H : Type} : List (DataW H) → Nat
  | [] => 0
  | d :: r => uptoBulk d + uptoBulkAll r
def uptoBulkEntries {H : Type} : List (Lit × DataW H) → Nat
  | [] => 0
  | x :: r => uptoBulkEntry x + uptoBulkEntries r
def uptoBulkEntry {H : Type} : Lit × DataW H → Nat
  | (.string bytes, d) => bytes.length + uptoBulk d + 1
  | (_, d) => uptoBulk d + 1
 end
def uptoSmall : (H : Type) → List (DataW H) → Bool := fun _ ds => decide (uptoBulkAll ds ≤ 1048576)
def OpenSpec.upto (s : _root_.Go.ChangeSpec) : _root_.Go.OpenSpec := { _root_.Go.OpenSpec.ofChange s with cond := some uptoSmall }

/-- 'cracknellaw12.PathDefaults', WHERE WHAT IT READS IS OF BULK AT MOST 1048576: true; the input reads as it did. -/
def pathDefaultsUptoRow : OpenClaim := { program := "ytnjmhkehckhihaadoor", sum := "17d62c1e36aefdfeb10c955a1810b6aced9fe481c16b968fc442b3fb28cf9c86", func := "cracknel/cracknellaw12.PathDefaults", spec := "pathDefaults", inPlace := ["internal/bytealg.CountString", "internal/bytealg.IndexByteString", "internal/bytealg.IndexString"], unfollowed := true, recurses := true, named := ["unicode/utf8.first", "unicode/utf8.acceptRanges", "internal/bytealg.MaxLen"], apart := false, laid := [("unicode/utf8.acceptRanges", laid_unicode_utf8_acceptRanges), ("unicode/utf8.first", laid_unicode_utf8_first)], narrowed := true }
def PathDefaultsUptoSaid : Prop := pathDefaultsUptoRow.holds Tryd.pinned (OpenSpec.upto pathDefaultsSpec)

/-- 'cracknellaw12.PathMatches', WHERE WHAT IT READS IS OF BULK AT MOST 1048576: true; the input reads as it did. -/
def pathMatchesUptoRow : OpenClaim := { program := "ytnjmhkehckhihaadoor", sum := "17d62c1e36aefdfeb10c955a1810b6aced9fe481c16b968fc442b3fb28cf9c86", func := "cracknel/cracknellaw12.PathMatches", spec := "pathMatches", inPlace := ["internal/bytealg.CountString", "internal/bytealg.IndexByteString", "internal/bytealg.IndexString"], unfollowed := true, recurses := true, named := ["unicode/utf8.first", "unicode/utf8.acceptRanges", "internal/bytealg.MaxLen"], apart := false, laid := [("unicode/utf8.acceptRanges", laid_unicode_utf8_acceptRanges), ("unicode/utf8.first", laid_unicode_utf8_first)], narrowed := true }
def PathMatchesUptoSaid : Prop := pathMatchesUptoRow.holds Tryd.pinned (OpenSpec.upto pathMatchesSpec)

/-- 'cracknellaw12.PathTransitive', WHERE WHAT IT READS IS OF BULK AT MOST 1048576: true; the input reads as it did. -/
def pathTransitiveUptoRow : OpenClaim := { program := "ytnjmhkehckhihaadoor", sum := "17d62c1e36aefdfeb10c955a1810b6aced9fe481c16b968fc442b3fb28cf9c86", func := "cracknel/cracknellaw12.PathTransitive", spec := "pathTransitive", inPlace := ["internal/bytealg.CountString", "internal/bytealg.IndexByteString", "internal/bytealg.IndexString"], unfollowed := true, recurses := true, named := ["unicode/utf8.first", "unicode/utf8.acceptRanges", "internal/bytealg.MaxLen"], apart := false, laid := [("unicode/utf8.acceptRanges", laid_unicode_utf8_acceptRanges), ("unicode/utf8.first", laid_unicode_utf8_first)], narrowed := true }
def PathTransitiveUptoSaid : Prop := pathTransitiveUptoRow.holds Tryd.pinned (OpenSpec.upto pathTransitiveSpec)

/-- 'cracknellaw12.PathBelow', WHERE WHAT IT READS IS OF BULK AT MOST 1048576: true; the input reads as it did. -/
def pathBelowUptoRow : OpenClaim := { program := "ytnjmhkehckhihaadoor", sum := "17d62c1e36aefdfeb10c955a1810b6aced9fe481c16b968fc442b3fb28cf9c86", func := "cracknel/cracknellaw12.PathBelow", spec := "pathBelow", inPlace := ["internal/bytealg.CountString", "internal/bytealg.IndexByteString", "internal/bytealg.IndexString"], unfollowed := true, recurses := true, named := ["unicode/utf8.first", "unicode/utf8.acceptRanges", "internal/bytealg.MaxLen"], apart := false, laid := [("unicode/utf8.acceptRanges", laid_unicode_utf8_acceptRanges), ("unicode/utf8.first", laid_unicode_utf8_first)], narrowed := true }
def PathBelowUptoSaid : Prop := pathBelowUptoRow.holds Tryd.pinned (OpenSpec.upto pathBelowSpec)

/-- 'cracknellaw12.PathParses', WHERE WHAT IT READS IS OF BULK AT MOST 1048576: true; the input reads as it did. -/
def pathParsesUptoRow : OpenClaim := { program := "ytnjmhkehckhihaadoor", sum := "17d62c1e36aefdfeb10c955a1810b6aced9fe481c16b968fc442b3fb28cf9c86", func := "cracknel/cracknellaw12.PathParses", spec := "pathParses", inPlace := ["internal/bytealg.CountString", "internal/bytealg.IndexByteString", "internal/bytealg.IndexString"], unfollowed := true, recurses := true, named := ["unicode/utf8.first", "unicode/utf8.acceptRanges", "internal/bytealg.MaxLen"], apart := false, laid := [("unicode/utf8.acceptRanges", laid_unicode_utf8_acceptRanges), ("unicode/utf8.first", laid_unicode_utf8_first)], narrowed := true }
def PathParsesUptoSaid : Prop := pathParsesUptoRow.holds Tryd.pinned (OpenSpec.upto pathParsesSpec)

/-- 'cracknellaw12.PathTexts', WHERE WHAT IT READS IS OF BULK AT MOST 1048576: true; the input reads as it did. -/
def pathTextsUptoRow : OpenClaim := { program := "ytnjmhkehckhihaadoor", sum := "17d62c1e36aefdfeb10c955a1810b6aced9fe481c16b968fc442b3fb28cf9c86", func := "cracknel/cracknellaw12.PathTexts", spec := "pathTexts", inPlace := ["internal/bytealg.CountString", "internal/bytealg.IndexByteString", "internal/bytealg.IndexString"], unfollowed := true, recurses := true, named := ["unicode/utf8.first", "unicode/utf8.acceptRanges", "internal/bytealg.MaxLen"], apart := false, laid := [("unicode/utf8.acceptRanges", laid_unicode_utf8_acceptRanges), ("unicode/utf8.first", laid_unicode_utf8_first)], narrowed := true }
def PathTextsUptoSaid : Prop := pathTextsUptoRow.holds Tryd.pinned (OpenSpec.upto pathTextsSpec)

end Rows
end Go.Proofs.YtnjmhkehckhihaaDoor
