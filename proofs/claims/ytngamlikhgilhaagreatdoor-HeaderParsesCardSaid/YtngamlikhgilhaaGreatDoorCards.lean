/-
  DERIVED. GIVEN WITH THE SEED: THE CARDS: each row of YtngamlikhgilhaaGreatDoorRows.lean that lists a variable, with what it lists TIED to the program's text (the seventh form; the later family's looks); each row that meets fmt, with fmt's text TOLD by the authors' own Lean function (tested against real Go, not proved from fmt's source: count such statements apart). THE CARD IS WHAT COUNTS. Prove the row's statement (the work); the ties are given (YtngamlikhgilhaaGreatDoorTie.lean); close each card by the builder's one call (the guide's Derived/Test/ToyasCard.lean, 'card_holds'). Laid BY PROGRAM, IN A SANDBOX (cutbox-door.mjs). By AI agents, Wed Nov 11 2026. No macro, syntax, notation, axiom, sorry.
-/
import Derived.Test.YtngamlikhgilhaaGreatDoorRows
import GoSem.ClaimSeven
namespace Go.Proofs.YtngamlikhgilhaaGreatDoor
namespace Rows

/-- THE TIED CARD OF 'cracknellaw16.HeaderParses'. -/
def headerParsesCard : Claim7 := { stood := { row := headerParsesRow, standIns := [], harness := (true, "46d276c541e1fe620952caab20b903489a2f009405bf4e8d74b520183d2468fd"), looks := false }, kinds := [], alts := [], laidByText := true, laidKinds := [.data, .pinned], laidTests := true, laidLooks := .later }
def HeaderParsesCardSaid : Prop := Claim7.holds Tryz.pinned (.plain (OpenSpec.ofChange headerParsesSpec)) headerParsesCard

/-- THE TIED CARD OF 'cracknellaw16.HeaderPrints'. -/
def headerPrintsCard : Claim7 := { stood := { row := headerPrintsRow, standIns := [], harness := (true, "46d276c541e1fe620952caab20b903489a2f009405bf4e8d74b520183d2468fd"), looks := false }, kinds := [], alts := [], laidByText := true, laidKinds := [.data, .pinned], laidTests := true, laidLooks := .later }
def HeaderPrintsCardSaid : Prop := Claim7.holds Tryz.pinned (.plain (OpenSpec.ofChange headerPrintsSpec)) headerPrintsCard

/-- THE TIED CARD OF 'cracknellaw16.HeaderMore'. -/
def headerMoreCard : Claim7 := { stood := { row := headerMoreRow, standIns := [], harness := (true, "46d276c541e1fe620952caab20b903489a2f009405bf4e8d74b520183d2468fd"), looks := false }, kinds := [], alts := [], laidByText := true, laidKinds := [.data, .pinned], laidTests := true, laidLooks := .later }
def HeaderMoreCardSaid : Prop := Claim7.holds Tryz.pinned (.plain (OpenSpec.ofChange headerMoreSpec)) headerMoreCard

/-- THE TIED CARD OF 'cracknellaw16.HeaderApart'. -/
def headerApartCard : Claim7 := { stood := { row := headerApartRow, standIns := [], harness := (true, "46d276c541e1fe620952caab20b903489a2f009405bf4e8d74b520183d2468fd"), looks := false }, kinds := [], alts := [], laidByText := true, laidKinds := [.data, .pinned], laidTests := true, laidLooks := .later }
def HeaderApartCardSaid : Prop := Claim7.holds Tryz.pinned (.plain (OpenSpec.ofChange headerApartSpec)) headerApartCard

/-- THE SECOND FORM's CARD OF 'cracknellaw16.HeaderParses'. -/
def headerParsesUptoCard : Claim7 := { stood := { row := headerParsesUptoRow, standIns := [], harness := (true, "46d276c541e1fe620952caab20b903489a2f009405bf4e8d74b520183d2468fd"), looks := false }, kinds := [], alts := [], laidByText := true, laidKinds := [.data, .pinned], laidTests := true, laidLooks := .later }
def HeaderParsesUptoCardSaid : Prop := Claim7.holds Tryz.pinned (.plain (OpenSpec.upto headerParsesSpec)) headerParsesUptoCard

/-- THE SECOND FORM's CARD OF 'cracknellaw16.HeaderPrints'. -/
def headerPrintsUptoCard : Claim7 := { stood := { row := headerPrintsUptoRow, standIns := [], harness := (true, "46d276c541e1fe620952caab20b903489a2f009405bf4e8d74b520183d2468fd"), looks := false }, kinds := [], alts := [], laidByText := true, laidKinds := [.data, .pinned], laidTests := true, laidLooks := .later }
def HeaderPrintsUptoCardSaid : Prop := Claim7.holds Tryz.pinned (.plain (OpenSpec.upto headerPrintsSpec)) headerPrintsUptoCard

/-- THE SECOND FORM's CARD OF 'cracknellaw16.HeaderMore'. -/
def headerMoreUptoCard : Claim7 := { stood := { row := headerMoreUptoRow, standIns := [], harness := (true, "46d276c541e1fe620952caab20b903489a2f009405bf4e8d74b520183d2468fd"), looks := false }, kinds := [], alts := [], laidByText := true, laidKinds := [.data, .pinned], laidTests := true, laidLooks := .later }
def HeaderMoreUptoCardSaid : Prop := Claim7.holds Tryz.pinned (.plain (OpenSpec.upto headerMoreSpec)) headerMoreUptoCard

/-- THE SECOND FORM's CARD OF 'cracknellaw16.HeaderApart'. -/
def headerApartUptoCard : Claim7 := { stood := { row := headerApartUptoRow, standIns := [], harness := (true, "46d276c541e1fe620952caab20b903489a2f009405bf4e8d74b520183d2468fd"), looks := false }, kinds := [], alts := [], laidByText := true, laidKinds := [.data, .pinned], laidTests := true, laidLooks := .later }
def HeaderApartUptoCardSaid : Prop := Claim7.holds Tryz.pinned (.plain (OpenSpec.upto headerApartSpec)) headerApartUptoCard
end Rows
end Go.Proofs.YtngamlikhgilhaaGreatDoor
