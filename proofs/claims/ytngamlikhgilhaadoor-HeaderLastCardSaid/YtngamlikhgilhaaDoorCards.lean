/-
  DERIVED. GIVEN WITH THE SEED: THE CARDS: each row of YtngamlikhgilhaaDoorRows.lean that lists a variable, with what it lists TIED to the program's text (the seventh form; the later family's looks); each row that meets fmt, with fmt's text TOLD by the authors' own Lean function (tested against real Go, not proved from fmt's source: count such statements apart). THE CARD IS WHAT COUNTS. Prove the row's statement (the work); the ties are given (YtngamlikhgilhaaDoorTie.lean); close each card by the builder's one call (the guide's Derived/Test/ToyasCard.lean, 'card_holds'). Laid BY PROGRAM, IN A SANDBOX (cutbox-door.mjs). By AI agents, Wed Nov 11 2026. No macro, syntax, notation, axiom, sorry.
-/
import Derived.Test.YtngamlikhgilhaaDoorRows
import GoSem.ClaimSeven
namespace Go.Proofs.YtngamlikhgilhaaDoor
namespace Rows

/-- THE TIED CARD OF 'cracknellaw16.HeaderLast'. -/
def headerLastCard : Claim7 := { stood := { row := headerLastRow, standIns := [], harness := (true, "c32bd4dc5fa3ef8500e7686919de22844ae7b4e2d8e2ac402c655ad36052729a"), looks := false }, kinds := [], alts := [], laidByText := true, laidKinds := [.data, .pinned], laidTests := true, laidLooks := .later }
def HeaderLastCardSaid : Prop := Claim7.holds Tryd.pinned (.plain (OpenSpec.ofChange headerLastSpec)) headerLastCard

/-- THE TIED CARD OF 'cracknellaw16.HeaderAges'. -/
def headerAgesCard : Claim7 := { stood := { row := headerAgesRow, standIns := [], harness := (true, "c32bd4dc5fa3ef8500e7686919de22844ae7b4e2d8e2ac402c655ad36052729a"), looks := false }, kinds := [], alts := [], laidByText := true, laidKinds := [.data, .pinned], laidTests := true, laidLooks := .later }
def HeaderAgesCardSaid : Prop := Claim7.holds Tryd.pinned (.plain (OpenSpec.ofChange headerAgesSpec)) headerAgesCard

/-- THE TIED CARD OF 'cracknellaw16.HeaderSpaced'. -/
def headerSpacedCard : Claim7 := { stood := { row := headerSpacedRow, standIns := [], harness := (true, "c32bd4dc5fa3ef8500e7686919de22844ae7b4e2d8e2ac402c655ad36052729a"), looks := false }, kinds := [], alts := [], laidByText := true, laidKinds := [.data, .pinned], laidTests := true, laidLooks := .later }
def HeaderSpacedCardSaid : Prop := Claim7.holds Tryd.pinned (.plain (OpenSpec.ofChange headerSpacedSpec)) headerSpacedCard

/-- THE SECOND FORM's CARD OF 'cracknellaw16.HeaderLast'. -/
def headerLastUptoCard : Claim7 := { stood := { row := headerLastUptoRow, standIns := [], harness := (true, "c32bd4dc5fa3ef8500e7686919de22844ae7b4e2d8e2ac402c655ad36052729a"), looks := false }, kinds := [], alts := [], laidByText := true, laidKinds := [.data, .pinned], laidTests := true, laidLooks := .later }
def HeaderLastUptoCardSaid : Prop := Claim7.holds Tryd.pinned (.plain (OpenSpec.upto headerLastSpec)) headerLastUptoCard

/-- THE SECOND FORM's CARD OF 'cracknellaw16.HeaderAges'. -/
def headerAgesUptoCard : Claim7 := { stood := { row := headerAgesUptoRow, standIns := [], harness := (true, "c32bd4dc5fa3ef8500e7686919de22844ae7b4e2d8e2ac402c655ad36052729a"), looks := false }, kinds := [], alts := [], laidByText := true, laidKinds := [.data, .pinned], laidTests := true, laidLooks := .later }
def HeaderAgesUptoCardSaid : Prop := Claim7.holds Tryd.pinned (.plain (OpenSpec.upto headerAgesSpec)) headerAgesUptoCard

/-- THE SECOND FORM's CARD OF 'cracknellaw16.HeaderSpaced'. -/
def headerSpacedUptoCard : Claim7 := { stood := { row := headerSpacedUptoRow, standIns := [], harness := (true, "c32bd4dc5fa3ef8500e7686919de22844ae7b4e2d8e2ac402c655ad36052729a"), looks := false }, kinds := [], alts := [], laidByText := true, laidKinds := [.data, .pinned], laidTests := true, laidLooks := .later }
def HeaderSpacedUptoCardSaid : Prop := Claim7.holds Tryd.pinned (.plain (OpenSpec.upto headerSpacedSpec)) headerSpacedUptoCard
end Rows
end Go.Proofs.YtngamlikhgilhaaDoor
