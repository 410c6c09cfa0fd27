/-
  DERIVED. GIVEN WITH THE SEED: THE CARDS: each row of YtibgppghhpilpaaDoorRows.lean that lists a variable, with what it lists TIED to the program's text (the seventh form; the later family's looks); each row that meets fmt, with fmt's text TOLD by the authors' own Lean function (tested against real Go, not proved from fmt's source: count such statements apart). THE CARD IS WHAT COUNTS. Prove the row's statement (the work); the ties are given (YtibgppghhpilpaaDoorTie.lean); close each card by the builder's one call (the guide's Derived/Test/ToyasCard.lean, 'card_holds'). Laid BY PROGRAM, IN A SANDBOX (cutbox-door.mjs). By AI agents, Wed Nov 11 2026. No macro, syntax, notation, axiom, sorry.
-/
import Derived.Test.YtibgppghhpilpaaDoorRows
import GoSem.ClaimSeven
namespace Go.Proofs.YtibgppghhpilpaaDoor
namespace Rows

/-- THE TIED CARD OF 'cracknellaw01.AsciiLowers'. -/
def asciiLowersCard : Claim7 := { stood := { row := asciiLowersRow, standIns := [], harness := (true, "89bd4671cb6872686cfe66cdb6463da5cda44660df63e847c06f8d65295f1131"), looks := false }, kinds := [], alts := [], laidByText := true, laidKinds := [.data, .pinned], laidTests := true, laidLooks := .later }
def AsciiLowersCardSaid : Prop := Claim7.holds Tryd.pinned (.plain (OpenSpec.ofChange asciiLowersSpec)) asciiLowersCard

/-- THE TIED CARD OF 'cracknellaw01.AsciiSame'. -/
def asciiSameCard : Claim7 := { stood := { row := asciiSameRow, standIns := [], harness := (true, "89bd4671cb6872686cfe66cdb6463da5cda44660df63e847c06f8d65295f1131"), looks := false }, kinds := [], alts := [], laidByText := true, laidKinds := [.data, .pinned], laidTests := true, laidLooks := .later }
def AsciiSameCardSaid : Prop := Claim7.holds Tryd.pinned (.plain (OpenSpec.ofChange asciiSameSpec)) asciiSameCard

/-- THE TIED CARD OF 'cracknellaw01.AsciiClasses'. -/
def asciiClassesCard : Claim7 := { stood := { row := asciiClassesRow, standIns := [], harness := (true, "89bd4671cb6872686cfe66cdb6463da5cda44660df63e847c06f8d65295f1131"), looks := false }, kinds := [], alts := [], laidByText := true, laidKinds := [.data, .pinned], laidTests := true, laidLooks := .later }
def AsciiClassesCardSaid : Prop := Claim7.holds Tryd.pinned (.plain (OpenSpec.ofChange asciiClassesSpec)) asciiClassesCard

/-- THE TIED CARD OF 'cracknellaw01.AsciiTrims'. -/
def asciiTrimsCard : Claim7 := { stood := { row := asciiTrimsRow, standIns := [], harness := (true, "89bd4671cb6872686cfe66cdb6463da5cda44660df63e847c06f8d65295f1131"), looks := false }, kinds := [], alts := [], laidByText := true, laidKinds := [.data, .pinned], laidTests := true, laidLooks := .later }
def AsciiTrimsCardSaid : Prop := Claim7.holds Tryd.pinned (.plain (OpenSpec.ofChange asciiTrimsSpec)) asciiTrimsCard

/-- THE TIED CARD OF 'cracknellaw01.AsciiCuts'. -/
def asciiCutsCard : Claim7 := { stood := { row := asciiCutsRow, standIns := [], harness := (true, "89bd4671cb6872686cfe66cdb6463da5cda44660df63e847c06f8d65295f1131"), looks := false }, kinds := [], alts := [], laidByText := true, laidKinds := [.data, .pinned], laidTests := true, laidLooks := .later }
def AsciiCutsCardSaid : Prop := Claim7.holds Tryd.pinned (.plain (OpenSpec.ofChange asciiCutsSpec)) asciiCutsCard

/-- THE TIED CARD OF 'cracknellaw01.AsciiJoins'. -/
def asciiJoinsCard : Claim7 := { stood := { row := asciiJoinsRow, standIns := [], harness := (true, "89bd4671cb6872686cfe66cdb6463da5cda44660df63e847c06f8d65295f1131"), looks := false }, kinds := [], alts := [], laidByText := true, laidKinds := [.data, .pinned], laidTests := true, laidLooks := .later }
def AsciiJoinsCardSaid : Prop := Claim7.holds Tryd.pinned (.plain (OpenSpec.ofChange asciiJoinsSpec)) asciiJoinsCard

/-- THE SECOND FORM's CARD OF 'cracknellaw01.AsciiLowers'. -/
def asciiLowersUptoCard : Claim7 := { stood := { row := asciiLowersUptoRow, standIns := [], harness := (true, "89bd4671cb6872686cfe66cdb6463da5cda44660df63e847c06f8d65295f1131"), looks := false }, kinds := [], alts := [], laidByText := true, laidKinds := [.data, .pinned], laidTests := true, laidLooks := .later }
def AsciiLowersUptoCardSaid : Prop := Claim7.holds Tryd.pinned (.plain (OpenSpec.upto asciiLowersSpec)) asciiLowersUptoCard

/-- THE SECOND FORM's CARD OF 'cracknellaw01.AsciiSame'. -/
def asciiSameUptoCard : Claim7 := { stood := { row := asciiSameUptoRow, standIns := [], harness := (true, "89bd4671cb6872686cfe66cdb6463da5cda44660df63e847c06f8d65295f1131"), looks := false }, kinds := [], alts := [], laidByText := true, laidKinds := [.data, .pinned], laidTests := true, laidLooks := .later }
def AsciiSameUptoCardSaid : Prop := Claim7.holds Tryd.pinned (.plain (OpenSpec.upto asciiSameSpec)) asciiSameUptoCard

/-- THE SECOND FORM's CARD OF 'cracknellaw01.AsciiClasses'. -/
def asciiClassesUptoCard : Claim7 := { stood := { row := asciiClassesUptoRow, standIns := [], harness := (true, "89bd4671cb6872686cfe66cdb6463da5cda44660df63e847c06f8d65295f1131"), looks := false }, kinds := [], alts := [], laidByText := true, laidKinds := [.data, .pinned], laidTests := true, laidLooks := .later }
def AsciiClassesUptoCardSaid : Prop := Claim7.holds Tryd.pinned (.plain (OpenSpec.upto asciiClassesSpec)) asciiClassesUptoCard

/-- THE SECOND FORM's CARD OF 'cracknellaw01.AsciiTrims'. -/
def asciiTrimsUptoCard : Claim7 := { stood := { row := asciiTrimsUptoRow, standIns := [], harness := (true, "89bd4671cb6872686cfe66cdb6463da5cda44660df63e847c06f8d65295f1131"), looks := false }, kinds := [], alts := [], laidByText := true, laidKinds := [.data, .pinned], laidTests := true, laidLooks := .later }
def AsciiTrimsUptoCardSaid : Prop := Claim7.holds Tryd.pinned (.plain (OpenSpec.upto asciiTrimsSpec)) asciiTrimsUptoCard

/-- THE SECOND FORM's CARD OF 'cracknellaw01.AsciiCuts'. -/
def asciiCutsUptoCard : Claim7 := { stood := { row := asciiCutsUptoRow, standIns := [], harness := (true, "89bd4671cb6872686cfe66cdb6463da5cda44660df63e847c06f8d65295f1131"), looks := false }, kinds := [], alts := [], laidByText := true, laidKinds := [.data, .pinned], laidTests := true, laidLooks := .later }
def AsciiCutsUptoCardSaid : Prop := Claim7.holds Tryd.pinned (.plain (OpenSpec.upto asciiCutsSpec)) asciiCutsUptoCard

/-- THE SECOND FORM's CARD OF 'cracknellaw01.AsciiJoins'. -/
def asciiJoinsUptoCard : Claim7 := { stood := { row := asciiJoinsUptoRow, standIns := [], harness := (true, "89bd4671cb6872686cfe66cdb6463da5cda44660df63e847c06f8d65295f1131"), looks := false }, kinds := [], alts := [], laidByText := true, laidKinds := [.data, .pinned], laidTests := true, laidLooks := .later }
def AsciiJoinsUptoCardSaid : Prop := Claim7.holds Tryd.pinned (.plain (OpenSpec.upto asciiJoinsSpec)) asciiJoinsUptoCard
end Rows
end Go.Proofs.YtibgppghhpilpaaDoor
