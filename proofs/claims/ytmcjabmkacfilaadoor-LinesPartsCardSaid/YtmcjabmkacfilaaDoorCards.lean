/-
  DERIVED. GIVEN WITH THE SEED: THE CARDS: each row of YtmcjabmkacfilaaDoorRows.lean that lists a variable, with what it lists TIED to the program's text (the seventh form; the later family's looks); each row that meets fmt, with fmt's text TOLD by the authors' own Lean function (tested against real Go, not proved from fmt's source: count such statements apart). THE CARD IS WHAT COUNTS. Prove the row's statement (the work); the ties are given (YtmcjabmkacfilaaDoorTie.lean); close each card by the builder's one call (the guide's Derived/Test/ToyasCard.lean, 'card_holds'). Laid BY PROGRAM, IN A SANDBOX (cutbox-door.mjs). By AI agents, Wed Nov 11 2026. No macro, syntax, notation, axiom, sorry.
-/
import Derived.Test.YtmcjabmkacfilaaDoorRows
import GoSem.ClaimSeven
namespace Go.Proofs.YtmcjabmkacfilaaDoor
namespace Rows

/-- THE TIED CARD OF 'cracknellaw06.LinesSplits'. -/
def linesSplitsCard : Claim7 := { stood := { row := linesSplitsRow, standIns := [], harness := (true, "55af29a21c43c436183f56c6ba56740a8a3228a3ebf8a7dd5d45f9a41e136e1b"), looks := false }, kinds := [], alts := [], laidByText := true, laidKinds := [.data, .pinned], laidTests := true, laidLooks := .later }
def LinesSplitsCardSaid : Prop := Claim7.holds Tryd.pinned (.plain (OpenSpec.ofChange linesSplitsSpec)) linesSplitsCard

/-- THE TIED CARD OF 'cracknellaw06.LinesJoins'. -/
def linesJoinsCard : Claim7 := { stood := { row := linesJoinsRow, standIns := [], harness := (true, "55af29a21c43c436183f56c6ba56740a8a3228a3ebf8a7dd5d45f9a41e136e1b"), looks := false }, kinds := [], alts := [], laidByText := true, laidKinds := [.data, .pinned], laidTests := true, laidLooks := .later }
def LinesJoinsCardSaid : Prop := Claim7.holds Tryd.pinned (.plain (OpenSpec.ofChange linesJoinsSpec)) linesJoinsCard

/-- THE TIED CARD OF 'cracknellaw06.LinesTabs'. -/
def linesTabsCard : Claim7 := { stood := { row := linesTabsRow, standIns := [], harness := (true, "55af29a21c43c436183f56c6ba56740a8a3228a3ebf8a7dd5d45f9a41e136e1b"), looks := false }, kinds := [], alts := [], laidByText := true, laidKinds := [.data, .pinned], laidTests := true, laidLooks := .later }
def LinesTabsCardSaid : Prop := Claim7.holds Tryd.pinned (.plain (OpenSpec.ofChange linesTabsSpec)) linesTabsCard

/-- THE TIED CARD OF 'cracknellaw06.LinesTabbed'. -/
def linesTabbedCard : Claim7 := { stood := { row := linesTabbedRow, standIns := [], harness := (true, "55af29a21c43c436183f56c6ba56740a8a3228a3ebf8a7dd5d45f9a41e136e1b"), looks := false }, kinds := [], alts := [], laidByText := true, laidKinds := [.data, .pinned], laidTests := true, laidLooks := .later }
def LinesTabbedCardSaid : Prop := Claim7.holds Tryd.pinned (.plain (OpenSpec.ofChange linesTabbedSpec)) linesTabbedCard

/-- THE TIED CARD OF 'cracknellaw06.LinesEscapes'. -/
def linesEscapesCard : Claim7 := { stood := { row := linesEscapesRow, standIns := [], harness := (true, "55af29a21c43c436183f56c6ba56740a8a3228a3ebf8a7dd5d45f9a41e136e1b"), looks := false }, kinds := [], alts := [], laidByText := true, laidKinds := [.data, .pinned], laidTests := true, laidLooks := .later }
def LinesEscapesCardSaid : Prop := Claim7.holds Tryd.pinned (.plain (OpenSpec.ofChange linesEscapesSpec)) linesEscapesCard

/-- THE TIED CARD OF 'cracknellaw06.LinesUnescapes'. -/
def linesUnescapesCard : Claim7 := { stood := { row := linesUnescapesRow, standIns := [], harness := (true, "55af29a21c43c436183f56c6ba56740a8a3228a3ebf8a7dd5d45f9a41e136e1b"), looks := false }, kinds := [], alts := [], laidByText := true, laidKinds := [.data, .pinned], laidTests := true, laidLooks := .later }
def LinesUnescapesCardSaid : Prop := Claim7.holds Tryd.pinned (.plain (OpenSpec.ofChange linesUnescapesSpec)) linesUnescapesCard

/-- THE TIED CARD OF 'cracknellaw06.LinesPercents'. -/
def linesPercentsCard : Claim7 := { stood := { row := linesPercentsRow, standIns := [], harness := (true, "55af29a21c43c436183f56c6ba56740a8a3228a3ebf8a7dd5d45f9a41e136e1b"), looks := false }, kinds := [], alts := [], laidByText := true, laidKinds := [.data, .pinned], laidTests := true, laidLooks := .later }
def LinesPercentsCardSaid : Prop := Claim7.holds Tryd.pinned (.plain (OpenSpec.ofChange linesPercentsSpec)) linesPercentsCard

/-- THE TIED CARD OF 'cracknellaw06.LinesParts'. -/
def linesPartsCard : Claim7 := { stood := { row := linesPartsRow, standIns := [], harness := (true, "55af29a21c43c436183f56c6ba56740a8a3228a3ebf8a7dd5d45f9a41e136e1b"), looks := false }, kinds := [], alts := [], laidByText := true, laidKinds := [.data, .pinned], laidTests := true, laidLooks := .later }
def LinesPartsCardSaid : Prop := Claim7.holds Tryd.pinned (.plain (OpenSpec.ofChange linesPartsSpec)) linesPartsCard

/-- THE SECOND FORM's CARD OF 'cracknellaw06.LinesSplits'. -/
def linesSplitsUptoCard : Claim7 := { stood := { row := linesSplitsUptoRow, standIns := [], harness := (true, "55af29a21c43c436183f56c6ba56740a8a3228a3ebf8a7dd5d45f9a41e136e1b"), looks := false }, kinds := [], alts := [], laidByText := true, laidKinds := [.data, .pinned], laidTests := true, laidLooks := .later }
def LinesSplitsUptoCardSaid : Prop := Claim7.holds Tryd.pinned (.plain (OpenSpec.upto linesSplitsSpec)) linesSplitsUptoCard

/-- THE SECOND FORM's CARD OF 'cracknellaw06.LinesJoins'. -/
def linesJoinsUptoCard : Claim7 := { stood := { row := linesJoinsUptoRow, standIns := [], harness := (true, "55af29a21c43c436183f56c6ba56740a8a3228a3ebf8a7dd5d45f9a41e136e1b"), looks := false }, kinds := [], alts := [], laidByText := true, laidKinds := [.data, .pinned], laidTests := true, laidLooks := .later }
def LinesJoinsUptoCardSaid : Prop := Claim7.holds Tryd.pinned (.plain (OpenSpec.upto linesJoinsSpec)) linesJoinsUptoCard

/-- THE SECOND FORM's CARD OF 'cracknellaw06.LinesTabs'. -/
def linesTabsUptoCard : Claim7 := { stood := { row := linesTabsUptoRow, standIns := [], harness := (true, "55af29a21c43c436183f56c6ba56740a8a3228a3ebf8a7dd5d45f9a41e136e1b"), looks := false }, kinds := [], alts := [], laidByText := true, laidKinds := [.data, .pinned], laidTests := true, laidLooks := .later }
def LinesTabsUptoCardSaid : Prop := Claim7.holds Tryd.pinned (.plain (OpenSpec.upto linesTabsSpec)) linesTabsUptoCard

/-- THE SECOND FORM's CARD OF 'cracknellaw06.LinesTabbed'. -/
def linesTabbedUptoCard : Claim7 := { stood := { row := linesTabbedUptoRow, standIns := [], harness := (true, "55af29a21c43c436183f56c6ba56740a8a3228a3ebf8a7dd5d45f9a41e136e1b"), looks := false }, kinds := [], alts := [], laidByText := true, laidKinds := [.data, .pinned], laidTests := true, laidLooks := .later }
def LinesTabbedUptoCardSaid : Prop := Claim7.holds Tryd.pinned (.plain (OpenSpec.upto linesTabbedSpec)) linesTabbedUptoCard

/-- THE SECOND FORM's CARD OF 'cracknellaw06.LinesEscapes'. -/
def linesEscapesUptoCard : Claim7 := { stood := { row := linesEscapesUptoRow, standIns := [], harness := (true, "55af29a21c43c436183f56c6ba56740a8a3228a3ebf8a7dd5d45f9a41e136e1b"), looks := false }, kinds := [], alts := [], laidByText := true, laidKinds := [.data, .pinned], laidTests := true, laidLooks := .later }
def LinesEscapesUptoCardSaid : Prop := Claim7.holds Tryd.pinned (.plain (OpenSpec.upto linesEscapesSpec)) linesEscapesUptoCard

/-- THE SECOND FORM's CARD OF 'cracknellaw06.LinesUnescapes'. -/
def linesUnescapesUptoCard : Claim7 := { stood := { row := linesUnescapesUptoRow, standIns := [], harness := (true, "55af29a21c43c436183f56c6ba56740a8a3228a3ebf8a7dd5d45f9a41e136e1b"), looks := false }, kinds := [], alts := [], laidByText := true, laidKinds := [.data, .pinned], laidTests := true, laidLooks := .later }
def LinesUnescapesUptoCardSaid : Prop := Claim7.holds Tryd.pinned (.plain (OpenSpec.upto linesUnescapesSpec)) linesUnescapesUptoCard

/-- THE SECOND FORM's CARD OF 'cracknellaw06.LinesPercents'. -/
def linesPercentsUptoCard : Claim7 := { stood := { row := linesPercentsUptoRow, standIns := [], harness := (true, "55af29a21c43c436183f56c6ba56740a8a3228a3ebf8a7dd5d45f9a41e136e1b"), looks := false }, kinds := [], alts := [], laidByText := true, laidKinds := [.data, .pinned], laidTests := true, laidLooks := .later }
def LinesPercentsUptoCardSaid : Prop := Claim7.holds Tryd.pinned (.plain (OpenSpec.upto linesPercentsSpec)) linesPercentsUptoCard

/-- THE SECOND FORM's CARD OF 'cracknellaw06.LinesParts'. -/
def linesPartsUptoCard : Claim7 := { stood := { row := linesPartsUptoRow, standIns := [], harness := (true, "55af29a21c43c436183f56c6ba56740a8a3228a3ebf8a7dd5d45f9a41e136e1b"), looks := false }, kinds := [], alts := [], laidByText := true, laidKinds := [.data, .pinned], laidTests := true, laidLooks := .later }
def LinesPartsUptoCardSaid : Prop := Claim7.holds Tryd.pinned (.plain (OpenSpec.upto linesPartsSpec)) linesPartsUptoCard
end Rows
end Go.Proofs.YtmcjabmkacfilaaDoor
