/-
  NARROWER THAN 'FOR EVERY INPUT', by the rows' own cells (each row's printed sentence says how): AsciiLowers: laid · AsciiSame: laid · AsciiClasses: laid · AsciiTrims: laid · AsciiCuts: laid · AsciiJoins: laid.
  DERIVED. THE GIVEN ROWS OF THIS SEAT. 6 by the template 'for every input the law returns true; each argument reads behind the call as it read before'; 0 by the template 'total and deterministic' (their statements: YtibgppghhpilpaaDoorTotals.lean).
  GIVEN WITH THE SEED: the statements are not yours to turn. If you find one false, say at which input.
  Laid BY PROGRAM, IN A SANDBOX (cutbox-rows.mjs): the forced cells as the released guide's own fill.sh prints them over the translation 50b8d33f26a238f0… (all of the seat's roots in one cut). By AI agents, Wed Nov 11 2026. No macro, syntax, notation, axiom, sorry.
-/
import Derived.Test.YtibgppghhpilpaaDoorChecked
import GoSem.PinnedTables
import GoSem.Claim
import GoSem.ClaimJoined
import GoSem.ClaimMapViews
import Derived.JoinedTies
import Derived.KernelRfl
namespace Go.Proofs.YtibgppghhpilpaaDoor
/- THE CELL 'sum', in the pinned program and in every row, IS THE sha256 OF THE DUMP (.gsa) THAT YtibgppghhpilpaaDoorProg.lean LOADS. Nothing in Lean hashes anything: it is a label: what it is worth is what the hold of that sum in a sandbox is worth. -/
noncomputable def Tryd.pinned : Pinned := { name := "ytibgppghhpilpaadoor", sum := "50b8d33f26a238f0f3f9655783d4ee3b160c0dabe3b70e83d5b14e672939e108", checked := Tryd.checked }
namespace Rows
def none {H : Type} : Left H := { results := [], args := [] }

/- WHAT THE LISTED PACKAGE-LEVEL VARIABLES READ AS WHEN THE CALL BEGINS. Each datum BY PROGRAM (the guide's laid-datum.mjs) off the statement by which the dump's own 'gosem.cut.vars' lays the variable. In a bare row this is a premise. The card (YtibgppghhpilpaaDoorCards.lean) ties it to the program's text. -/
def laid_unicode_utf8_acceptRanges {H : Type} : DataW H := .agg [.agg [.lit (.int .u8 128), .lit (.int .u8 191)], .agg [.lit (.int .u8 160), .lit (.int .u8 191)], .agg [.lit (.int .u8 128), .lit (.int .u8 159)], .agg [.lit (.int .u8 144), .lit (.int .u8 191)], .agg [.lit (.int .u8 128), .lit (.int .u8 143)], .agg [.lit (.int .u8 0), .lit (.int .u8 0)], .agg [.lit (.int .u8 0), .lit (.int .u8 0)], .agg [.lit (.int .u8 0), .lit (.int .u8 0)], .agg [.lit (.int .u8 0), .lit (.int .u8 0)], .agg [.lit (.int .u8 0), .lit (.int .u8 0)], .agg [.lit (.int .u8 0), .lit (.int .u8 0)], .agg [.lit (.int .u8 0), .lit (.int .u8 0)], .agg [.lit (.int .u8 0), .lit (.int .u8 0)], .agg [.lit (.int .u8 0), .lit (.int .u8 0)], .agg [.lit (.int .u8 0), .lit (.int .u8 0)], .agg [.lit (.int .u8 0), .lit (.int .u8 0)]]
/-- One of Go's own tables, pinned by name: the form's constant. -/
def laid_unicode_utf8_first : DataW Unit := Go.Pinned.utf8First

/-- 'cracknellaw01.AsciiLowers': WHATEVER THE INPUT: true; the input reads as it did. -/
def asciiLowersSpec : ChangeSpec := { name := "asciiLowers", fn := fun _ => fun
  | [d] => { results := [.lit (.bool true)], args := [d] }
  | _ => none }
def asciiLowersRow : OpenClaim := { program := "ytibgppghhpilpaadoor", sum := "50b8d33f26a238f0f3f9655783d4ee3b160c0dabe3b70e83d5b14e672939e108", func := "cracknel/cracknellaw01.AsciiLowers", spec := "asciiLowers", inPlace := ["internal/bytealg.IndexByteString", "internal/bytealg.IndexString"], unfollowed := true, recurses := true, named := ["unicode/utf8.first", "unicode/utf8.acceptRanges", "internal/bytealg.MaxLen"], apart := false, laid := [("unicode/utf8.acceptRanges", laid_unicode_utf8_acceptRanges), ("unicode/utf8.first", laid_unicode_utf8_first)] }
def AsciiLowersSaid : Prop := asciiLowersRow.holds Tryd.pinned (OpenSpec.ofChange asciiLowersSpec)

/-- ITS FALSE NEIGHBOUR: 'it returns false'. Refute it at one input. -/
def asciiLowersWrong : ChangeSpec := { name := "asciiLowers", fn := fun _ => fun
  | [d] => { results := [.lit (.bool false)], args := [d] }
  | _ => none }
def AsciiLowersWrongFalsely : Prop := asciiLowersRow.holds Tryd.pinned (OpenSpec.ofChange asciiLowersWrong)

/-- 'cracknellaw01.AsciiSame': WHATEVER THE INPUT: true; the input reads as it did. -/
def asciiSameSpec : ChangeSpec := { name := "asciiSame", fn := fun _ => fun
  | [d1, d2, d3] => { results := [.lit (.bool true)], args := [d1, d2, d3] }
  | _ => none }
def asciiSameRow : OpenClaim := { program := "ytibgppghhpilpaadoor", sum := "50b8d33f26a238f0f3f9655783d4ee3b160c0dabe3b70e83d5b14e672939e108", func := "cracknel/cracknellaw01.AsciiSame", spec := "asciiSame", inPlace := ["internal/bytealg.IndexByteString", "internal/bytealg.IndexString"], unfollowed := true, recurses := true, named := ["unicode/utf8.first", "unicode/utf8.acceptRanges", "internal/bytealg.MaxLen"], apart := false, laid := [("unicode/utf8.acceptRanges", laid_unicode_utf8_acceptRanges), ("unicode/utf8.first", laid_unicode_utf8_first)] }
def AsciiSameSaid : Prop := asciiSameRow.holds Tryd.pinned (OpenSpec.ofChange asciiSameSpec)

/-- ITS FALSE NEIGHBOUR: 'it returns false'. Refute it at one input. -/
def asciiSameWrong : ChangeSpec := { name := "asciiSame", fn := fun _ => fun
  | [d1, d2, d3] => { results := [.lit (.bool false)], args := [d1, d2, d3] }
  | _ => none }
def AsciiSameWrongFalsely : Prop := asciiSameRow.holds Tryd.pinned (OpenSpec.ofChange asciiSameWrong)

/-- 'cracknellaw01.AsciiClasses': WHATEVER THE INPUT: true; the input reads as it did. -/
def asciiClassesSpec : ChangeSpec := { name := "asciiClasses", fn := fun _ => fun
  | [d] => { results := [.lit (.bool true)], args := [d] }
  | _ => none }
def asciiClassesRow : OpenClaim := { program := "ytibgppghhpilpaadoor", sum := "50b8d33f26a238f0f3f9655783d4ee3b160c0dabe3b70e83d5b14e672939e108", func := "cracknel/cracknellaw01.AsciiClasses", spec := "asciiClasses", inPlace := ["internal/bytealg.IndexByteString", "internal/bytealg.IndexString"], unfollowed := true, recurses := true, named := ["unicode/utf8.first", "unicode/utf8.acceptRanges", "internal/bytealg.MaxLen"], apart := false, laid := [("unicode/utf8.acceptRanges", laid_unicode_utf8_acceptRanges), ("unicode/utf8.first", laid_unicode_utf8_first)] }
def AsciiClassesSaid : Prop := asciiClassesRow.holds Tryd.pinned (OpenSpec.ofChange asciiClassesSpec)

/-- ITS FALSE NEIGHBOUR: 'it returns false'. Refute it at one input. -/
def asciiClassesWrong : ChangeSpec := { name := "asciiClasses", fn := fun _ => fun
  | [d] => { results := [.lit (.bool false)], args := [d] }
  | _ => none }
def AsciiClassesWrongFalsely : Prop := asciiClassesRow.holds Tryd.pinned (OpenSpec.ofChange asciiClassesWrong)

/-- 'cracknellaw01.AsciiTrims': WHATEVER THE INPUT: true; the input reads as it did. -/
def asciiTrimsSpec : ChangeSpec := { name := "asciiTrims", fn := fun _ => fun
  | [d1, d2, d3] => { results := [.lit (.bool true)], args := [d1, d2, d3] }
  | _ => none }
def asciiTrimsRow : OpenClaim := { program := "ytibgppghhpilpaadoor", sum := "50b8d33f26a238f0f3f9655783d4ee3b160c0dabe3b70e83d5b14e672939e108", func := "cracknel/cracknellaw01.AsciiTrims", spec := "asciiTrims", inPlace := ["internal/bytealg.IndexByteString", "internal/bytealg.IndexString"], unfollowed := true, recurses := true, named := ["unicode/utf8.first", "unicode/utf8.acceptRanges", "internal/bytealg.MaxLen"], apart := false, laid := [("unicode/utf8.acceptRanges", laid_unicode_utf8_acceptRanges), ("unicode/utf8.first", laid_unicode_utf8_first)] }
def AsciiTrimsSaid : Prop := asciiTrimsRow.holds Tryd.pinned (OpenSpec.ofChange asciiTrimsSpec)

/-- ITS FALSE NEIGHBOUR: 'it returns false'. Refute it at one input. -/
def asciiTrimsWrong : ChangeSpec := { name := "asciiTrims", fn := fun _ => fun
  | [d1, d2, d3] => { results := [.lit (.bool false)], args := [d1, d2, d3] }
  | _ => none }
def AsciiTrimsWrongFalsely : Prop := asciiTrimsRow.holds Tryd.pinned (OpenSpec.ofChange asciiTrimsWrong)

/-- 'cracknellaw01.AsciiCuts': WHATEVER THE INPUT: true; the input reads as it did. -/
def asciiCutsSpec : ChangeSpec := { name := "asciiCuts", fn := fun _ => fun
  | [d1, d2] => { results := [.lit (.bool true)], args := [d1, d2] }
  | _ => none }
def asciiCutsRow : OpenClaim := { program := "ytibgppghhpilpaadoor", sum := "50b8d33f26a238f0f3f9655783d4ee3b160c0dabe3b70e83d5b14e672939e108", func := "cracknel/cracknellaw01.AsciiCuts", spec := "asciiCuts", inPlace := ["internal/bytealg.IndexByteString", "internal/bytealg.IndexString"], unfollowed := true, recurses := true, named := ["unicode/utf8.first", "unicode/utf8.acceptRanges", "internal/bytealg.MaxLen"], apart := false, laid := [("unicode/utf8.acceptRanges", laid_unicode_utf8_acceptRanges), ("unicode/utf8.first", laid_unicode_utf8_first)] }
def AsciiCutsSaid : Prop := asciiCutsRow.holds Tryd.pinned (OpenSpec.ofChange asciiCutsSpec)

/-- ITS FALSE NEIGHBOUR: 'it returns false'. Refute it at one input. -/
def asciiCutsWrong : ChangeSpec := { name := "asciiCuts", fn := fun _ => fun
  | [d1, d2] => { results := [.lit (.bool false)], args := [d1, d2] }
  | _ => none }
def AsciiCutsWrongFalsely : Prop := asciiCutsRow.holds Tryd.pinned (OpenSpec.ofChange asciiCutsWrong)

/-- 'cracknellaw01.AsciiJoins': WHATEVER THE INPUT: true; the input reads as it did. -/
def asciiJoinsSpec : ChangeSpec := { name := "asciiJoins", fn := fun _ => fun
  | [d1, d2] => { results := [.lit (.bool true)], args := [d1, d2] }
  | _ => none }
def asciiJoinsRow : OpenClaim := { program := "ytibgppghhpilpaadoor", sum := "50b8d33f26a238f0f3f9655783d4ee3b160c0dabe3b70e83d5b14e672939e108", func := "cracknel/cracknellaw01.AsciiJoins", spec := "asciiJoins", inPlace := ["internal/bytealg.IndexByteString", "internal/bytealg.IndexString"], unfollowed := true, recurses := true, named := ["unicode/utf8.first", "unicode/utf8.acceptRanges", "internal/bytealg.MaxLen"], apart := false, laid := [("unicode/utf8.acceptRanges", laid_unicode_utf8_acceptRanges), ("unicode/utf8.first", laid_unicode_utf8_first)] }
def AsciiJoinsSaid : Prop := asciiJoinsRow.holds Tryd.pinned (OpenSpec.ofChange asciiJoinsSpec)

/-- ITS FALSE NEIGHBOUR: 'it returns false'. Refute it at one input. -/
def asciiJoinsWrong : ChangeSpec := { name := "asciiJoins", fn := fun _ => fun
  | [d1, d2] => { results := [.lit (.bool false)], args := [d1, d2] }
  | _ => none }
def AsciiJoinsWrongFalsely : Prop := asciiJoinsRow.holds Tryd.pinned (OpenSpec.ofChange asciiJoinsWrong)

/- THE SECOND FORM. 'bulk': how many values and letters a reading holds, each counted each time it is reached (what is shared counts as often as it is met; a slice's spare places count too). A statement '..UptoSaid' is the law's where the arguments, and the package variables that the reading takes, are together of bulk at most 1048576: NARROWER than '..Said'. Prove '..Said' where nothing that the law and all that it calls make is longer than what came in: it says more and counts as full. Else prove '..UptoSaid'. A law counts once. -/
mutual
def uptoBulk {H : Type} : DataW H → Nat
  | .lit (.string bytes) => bytes.length + 1
  | .lit _ => 1
  | .nil => 1
  | .ptr d => uptoBulk d + 1
  | .slice elems spare => uptoBulkAll elems + uptoBulkAll spare + 1
  | .agg parts => uptoBulkAll parts + 1
  | .iface _ d => uptoBulk d + 1
  | .map entries => uptoBulkEntries entries + 1
  | .held _ => 1
def uptoBulkAll {H : Type} : List (DataW H) → Nat
  | [] => 0
  | d :: r => uptoBulk d + uptoBulkAll r
def uptoBulkEntries {H : Type} : List (Lit × DataW H) → Nat
  | [] => 0
  | x :: r => uptoBulkEntry x + uptoBulkEntries r
def uptoBulkEntry {H : Type} : Lit × DataW H → Nat
  | (.string bytes, d) => bytes.length + uptoBulk d + 1
  | (_, d) => uptoBulk d + 1
 end
def uptoSmall : (H : Type) → List (DataW H) → Bool := fun _ ds => decide (uptoBulkAll ds ≤ 1048576)
def OpenSpec.upto (s : _root_.Go.ChangeSpec) : _root_.Go.OpenSpec := { _root_.Go.OpenSpec.ofChange s with cond := some uptoSmall }

/-- 'cracknellaw01.AsciiLowers', WHERE WHAT IT READS IS OF BULK AT MOST 1048576: true; the input reads as it did. -/
def asciiLowersUptoRow : OpenClaim := { program := "ytibgppghhpilpaadoor", sum := "50b8d33f26a238f0f3f9655783d4ee3b160c0dabe3b70e83d5b14e672939e108", func := "cracknel/cracknellaw01.AsciiLowers", spec := "asciiLowers", inPlace := ["internal/bytealg.IndexByteString", "internal/bytealg.IndexString"], unfollowed := true, recurses := true, named := ["unicode/utf8.first", "unicode/utf8.acceptRanges", "internal/bytealg.MaxLen"], apart := false, laid := [("unicode/utf8.acceptRanges", laid_unicode_utf8_acceptRanges), ("unicode/utf8.first", laid_unicode_utf8_first)], narrowed := true }
def AsciiLowersUptoSaid : Prop := asciiLowersUptoRow.holds Tryd.pinned (OpenSpec.upto asciiLowersSpec)

/-- 'cracknellaw01.AsciiSame', WHERE WHAT IT READS IS OF BULK AT MOST 1048576: true; the input reads as it did. -/
def asciiSameUptoRow : OpenClaim := { program := "ytibgppghhpilpaadoor", sum := "50b8d33f26a238f0f3f9655783d4ee3b160c0dabe3b70e83d5b14e672939e108", func := "cracknel/cracknellaw01.AsciiSame", spec := "asciiSame", inPlace := ["internal/bytealg.IndexByteString", "internal/bytealg.IndexString"], unfollowed := true, recurses := true, named := ["unicode/utf8.first", "unicode/utf8.acceptRanges", "internal/bytealg.MaxLen"], apart := false, laid := [("unicode/utf8.acceptRanges", laid_unicode_utf8_acceptRanges), ("unicode/utf8.first", laid_unicode_utf8_first)], narrowed := true }
def AsciiSameUptoSaid : Prop := asciiSameUptoRow.holds Tryd.pinned (OpenSpec.upto asciiSameSpec)

/-- 'cracknellaw01.AsciiClasses', WHERE WHAT IT READS IS OF BULK AT MOST 1048576: true; the input reads as it did. -/
def asciiClassesUptoRow : OpenClaim := { program := "ytibgppghhpilpaadoor", sum := "50b8d33f26a238f0f3f9655783d4ee3b160c0dabe3b70e83d5b14e672939e108", func := "cracknel/cracknellaw01.AsciiClasses", spec := "asciiClasses", inPlace := ["internal/bytealg.IndexByteString", "internal/bytealg.IndexString"], unfollowed := true, recurses := true, named := ["unicode/utf8.first", "unicode/utf8.acceptRanges", "internal/bytealg.MaxLen"], apart := false, laid := [("unicode/utf8.acceptRanges", laid_unicode_utf8_acceptRanges), ("unicode/utf8.first", laid_unicode_utf8_first)], narrowed := true }
def AsciiClassesUptoSaid : Prop := asciiClassesUptoRow.holds Tryd.pinned (OpenSpec.upto asciiClassesSpec)

/-- 'cracknellaw01.AsciiTrims', WHERE WHAT IT READS IS OF BULK AT MOST 1048576: true; the input reads as it did. -/
def asciiTrimsUptoRow : OpenClaim := { program := "ytibgppghhpilpaadoor", sum := "50b8d33f26a238f0f3f9655783d4ee3b160c0dabe3b70e83d5b14e672939e108", func := "cracknel/cracknellaw01.AsciiTrims", spec := "asciiTrims", inPlace := ["internal/bytealg.IndexByteString", "internal/bytealg.IndexString"], unfollowed := true, recurses := true, named := ["unicode/utf8.first", "unicode/utf8.acceptRanges", "internal/bytealg.MaxLen"], apart := false, laid := [("unicode/utf8.acceptRanges", laid_unicode_utf8_acceptRanges), ("unicode/utf8.first", laid_unicode_utf8_first)], narrowed := true }
def AsciiTrimsUptoSaid : Prop := asciiTrimsUptoRow.holds Tryd.pinned (OpenSpec.upto asciiTrimsSpec)

/-- 'cracknellaw01.AsciiCuts', WHERE WHAT IT READS IS OF BULK AT MOST 1048576: true; the input reads as it did. -/
def asciiCutsUptoRow : OpenClaim := { program := "ytibgppghhpilpaadoor", sum := "50b8d33f26a238f0f3f9655783d4ee3b160c0dabe3b70e83d5b14e672939e108", func := "cracknel/cracknellaw01.AsciiCuts", spec := "asciiCuts", inPlace := ["internal/bytealg.IndexByteString", "internal/bytealg.IndexString"], unfollowed := true, recurses := true, named := ["unicode/utf8.first", "unicode/utf8.acceptRanges", "internal/bytealg.MaxLen"], apart := false, laid := [("unicode/utf8.acceptRanges", laid_unicode_utf8_acceptRanges), ("unicode/utf8.first", laid_unicode_utf8_first)], narrowed := true }
def AsciiCutsUptoSaid : Prop := asciiCutsUptoRow.holds Tryd.pinned (OpenSpec.upto asciiCutsSpec)

/-- 'cracknellaw01.AsciiJoins', WHERE WHAT IT READS IS OF BULK AT MOST 1048576: true; the input reads as it did. -/
def asciiJoinsUptoRow : OpenClaim := { program := "ytibgppghhpilpaadoor", sum := "50b8d33f26a238f0f3f9655783d4ee3b160c0dabe3b70e83d5b14e672939e108", func := "cracknel/cracknellaw01.AsciiJoins", spec := "asciiJoins", inPlace := ["internal/bytealg.IndexByteString", "internal/bytealg.IndexString"], unfollowed := true, recurses := true, named := ["unicode/utf8.first", "unicode/utf8.acceptRanges", "internal/bytealg.MaxLen"], apart := false, laid := [("unicode/utf8.acceptRanges", laid_unicode_utf8_acceptRanges), ("unicode/utf8.first", laid_unicode_utf8_first)], narrowed := true }
def AsciiJoinsUptoSaid : Prop := asciiJoinsUptoRow.holds Tryd.pinned (OpenSpec.upto asciiJoinsSpec)

end Rows
end Go.Proofs.YtibgppghhpilpaaDoor
