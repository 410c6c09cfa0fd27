/-
  DERIVED. GIVEN WITH THE SEED: THE CARDS: each row of YtnjmhkehckhihaaDoorRows.lean that lists a variable, with what it lists TIED to the program's text (the seventh form; the later family's looks); each row that meets fmt, with fmt's text TOLD by the authors' own Lean function (tested against real Go, not proved from fmt's source: count such statements apart). THE CARD IS WHAT COUNTS. Prove the row's statement (the work); the ties are given (YtnjmhkehckhihaaDoorTie.lean); close each card by the builder's one call (the guide's Derived/Test/ToyasCard.lean, 'card_holds'). Laid BY PROGRAM, IN A SANDBOX (cutbox-door.mjs). By AI agents, Wed Nov 11 2026. No macro, syntax, notation, axiom, sorry.
-/
import Derived.Test.YtnjmhkehckhihaaDoorRows
import GoSem.ClaimSeven
namespace Go.Proofs.YtnjmhkehckhihaaDoor
namespace Rows

/-- THE TIED CARD OF 'cracknellaw12.PathDefaults'. -/
def pathDefaultsCard : Claim7 := { stood := { row := pathDefaultsRow, standIns := [], harness := (true, "f4c00e140ba7c276c03c4668e0d82556aa2656487ffc93979b0c63fb5fd686f2"), looks := false }, kinds := [], alts := [], laidByText := true, laidKinds := [.data, .pinned], laidTests := true, laidLooks := .later }
def PathDefaultsCardSaid : Prop := Claim7.holds Tryd.pinned (.plain (OpenSpec.ofChange pathDefaultsSpec)) pathDefaultsCard

/-- THE TIED CARD OF 'cracknellaw12.PathMatches'. -/
def pathMatchesCard : Claim7 := { stood := { row := pathMatchesRow, standIns := [], harness := (true, "f4c00e140ba7c276c03c4668e0d82556aa2656487ffc93979b0c63fb5fd686f2"), looks := false }, kinds := [], alts := [], laidByText := true, laidKinds := [.data, .pinned], laidTests := true, laidLooks := .later }
def PathMatchesCardSaid : Prop := Claim7.holds Tryd.pinned (.plain (OpenSpec.ofChange pathMatchesSpec)) pathMatchesCard

/-- THE TIED CARD OF 'cracknellaw12.PathTransitive'. -/
def pathTransitiveCard : Claim7 := { stood := { row := pathTransitiveRow, standIns := [], harness := (true, "f4c00e140ba7c276c03c4668e0d82556aa2656487ffc93979b0c63fb5fd686f2"), looks := false }, kinds := [], alts := [], laidByText := true, laidKinds := [.data, .pinned], laidTests := true, laidLooks := .later }
def PathTransitiveCardSaid : Prop := Claim7.holds Tryd.pinned (.plain (OpenSpec.ofChange pathTransitiveSpec)) pathTransitiveCard

/-- THE TIED CARD OF 'cracknellaw12.PathBelow'. -/
def pathBelowCard : Claim7 := { stood := { row := pathBelowRow, standIns := [], harness := (true, "f4c00e140ba7c276c03c4668e0d82556aa2656487ffc93979b0c63fb5fd686f2"), looks := false }, kinds := [], alts := [], laidByText := true, laidKinds := [.data, .pinned], laidTests := true, laidLooks := .later }
def PathBelowCardSaid : Prop := Claim7.holds Tryd.pinned (.plain (OpenSpec.ofChange pathBelowSpec)) pathBelowCard

/-- THE TIED CARD OF 'cracknellaw12.PathParses'. -/
def pathParsesCard : Claim7 := { stood := { row := pathParsesRow, standIns := [], harness := (true, "f4c00e140ba7c276c03c4668e0d82556aa2656487ffc93979b0c63fb5fd686f2"), looks := false }, kinds := [], alts := [], laidByText := true, laidKinds := [.data, .pinned], laidTests := true, laidLooks := .later }
def PathParsesCardSaid : Prop := Claim7.holds Tryd.pinned (.plain (OpenSpec.ofChange pathParsesSpec)) pathParsesCard

/-- THE TIED CARD OF 'cracknellaw12.PathTexts'. -/
def pathTextsCard : Claim7 := { stood := { row := pathTextsRow, standIns := [], harness := (true, "f4c00e140ba7c276c03c4668e0d82556aa2656487ffc93979b0c63fb5fd686f2"), looks := false }, kinds := [], alts := [], laidByText := true, laidKinds := [.data, .pinned], laidTests := true, laidLooks := .later }
def PathTextsCardSaid : Prop := Claim7.holds Tryd.pinned (.plain (OpenSpec.ofChange pathTextsSpec)) pathTextsCard

/-- THE SECOND FORM's CARD OF 'cracknellaw12.PathDefaults'. -/
def pathDefaultsUptoCard : Claim7 := { stood := { row := pathDefaultsUptoRow, standIns := [], harness := (true, "f4c00e140ba7c276c03c4668e0d82556aa2656487ffc93979b0c63fb5fd686f2"), looks := false }, kinds := [], alts := [], laidByText := true, laidKinds := [.data, .pinned], laidTests := true, laidLooks := .later }
def PathDefaultsUptoCardSaid : Prop := Claim7.holds Tryd.pinned (.plain (OpenSpec.upto pathDefaultsSpec)) pathDefaultsUptoCard

/-- THE SECOND FORM's CARD OF 'cracknellaw12.PathMatches'. -/
def pathMatchesUptoCard : Claim7 := { stood := { row := pathMatchesUptoRow, standIns := [], harness := (true, "f4c00e140ba7c276c03c4668e0d82556aa2656487ffc93979b0c63fb5fd686f2"), looks := false }, kinds := [], alts := [], laidByText := true, laidKinds := [.data, .pinned], laidTests := true, laidLooks := .later }
def PathMatchesUptoCardSaid : Prop := Claim7.holds Tryd.pinned (.plain (OpenSpec.upto pathMatchesSpec)) pathMatchesUptoCard

/-- THE SECOND FORM's CARD OF 'cracknellaw12.PathTransitive'. -/
def pathTransitiveUptoCard : Claim7 := { stood := { row := pathTransitiveUptoRow, standIns := [], harness := (true, "f4c00e140ba7c276c03c4668e0d82556aa2656487ffc93979b0c63fb5fd686f2"), looks := false }, kinds := [], alts := [], laidByText := true, laidKinds := [.data, .pinned], laidTests := true, laidLooks := .later }
def PathTransitiveUptoCardSaid : Prop := Claim7.holds Tryd.pinned (.plain (OpenSpec.upto pathTransitiveSpec)) pathTransitiveUptoCard

/-- THE SECOND FORM's CARD OF 'cracknellaw12.PathBelow'. -/
def pathBelowUptoCard : Claim7 := { stood := { row := pathBelowUptoRow, standIns := [], harness := (true, "f4c00e140ba7c276c03c4668e0d82556aa2656487ffc93979b0c63fb5fd686f2"), looks := false }, kinds := [], alts := [], laidByText := true, laidKinds := [.data, .pinned], laidTests := true, laidLooks := .later }
def PathBelowUptoCardSaid : Prop := Claim7.holds Tryd.pinned (.plain (OpenSpec.upto pathBelowSpec)) pathBelowUptoCard

/-- THE SECOND FORM's CARD OF 'cracknellaw12.PathParses'. -/
def pathParsesUptoCard : Claim7 := { stood := { row := pathParsesUptoRow, standIns := [], harness := (true, "f4c00e140ba7c276c03c4668e0d82556aa2656487ffc93979b0c63fb5fd686f2"), looks := false }, kinds := [], alts := [], laidByText := true, laidKinds := [.data, .pinned], laidTests := true, laidLooks := .later }
def PathParsesUptoCardSaid : Prop := Claim7.holds Tryd.pinned (.plain (OpenSpec.upto pathParsesSpec)) pathParsesUptoCard

/-- THE SECOND FORM's CARD OF 'cracknellaw12.PathTexts'. -/
def pathTextsUptoCard : Claim7 := { stood := { row := pathTextsUptoRow, standIns := [], harness := (true, "f4c00e140ba7c276c03c4668e0d82556aa2656487ffc93979b0c63fb5fd686f2"), looks := false }, kinds := [], alts := [], laidByText := true, laidKinds := [.data, .pinned], laidTests := true, laidLooks := .later }
def PathTextsUptoCardSaid : Prop := Claim7.holds Tryd.pinned (.plain (OpenSpec.upto pathTextsSpec)) pathTextsUptoCard
end Rows
end Go.Proofs.YtnjmhkehckhihaaDoor
