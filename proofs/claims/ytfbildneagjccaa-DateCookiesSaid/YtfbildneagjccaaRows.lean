/-
  No cell of these rows narrows 'for every input' (looked for: loops, veiled, ifaces, maps, wideKeys, modest, calm, conditions, laid).
  DERIVED. THE GIVEN ROWS OF THIS SEAT. 7 by the template 'for every input the law returns true; each argument reads behind the call as it read before'; 0 by the template 'total and deterministic' (their statements: YtfbildneagjccaaTotals.lean).
  GIVEN WITH THE SEED: the statements are not yours to turn. If you find one false, say at which input.
  Laid BY PROGRAM, IN A SANDBOX (cutbox-rows.mjs): the forced cells as the released guide's own fill.sh prints them over the translation a3113ef7305468f0… (all of the seat's roots in one cut). By AI agents, Wed Nov 11 2026. No macro, syntax, notation, axiom, sorry.
-/
import Derived.Test.YtfbildneagjccaaChecked
import GoSem.Claim
import GoSem.ClaimJoined
import GoSem.ClaimMapViews
import Derived.JoinedTies
import Derived.KernelRfl
namespace Go.Proofs.Ytfbildneagjccaa
/- THE CELL 'sum', in the pinned program and in every row, IS THE sha256 OF THE DUMP (.gsa) THAT YtfbildneagjccaaProg.lean LOADS. Nothing in Lean hashes anything: it is a label: what it is worth is what the hold of that sum in a sandbox is worth. -/
noncomputable def Try.pinned : Pinned := { name := "ytfbildneagjccaa", sum := "a3113ef7305468f08b56c3d5b06eef386883e6874d20eca923614ea482f7bca6", checked := Try.checked }
namespace Rows
def none {H : Type} : Left H := { results := [], args := [] }

/-- 'cracknellaw10.DateCookies': WHATEVER THE INPUT: true; the input reads as it did. -/
def dateCookiesSpec : ChangeSpec := { name := "dateCookies", fn := fun _ => fun
  | [d] => { results := [.lit (.bool true)], args := [d] }
  | _ => none }
def dateCookiesRow : OpenClaim := { program := "ytfbildneagjccaa", sum := "a3113ef7305468f08b56c3d5b06eef386883e6874d20eca923614ea482f7bca6", func := "cracknel/cracknellaw10.DateCookies", spec := "dateCookies", unfollowed := true, recurses := true, apart := false }
def DateCookiesSaid : Prop := dateCookiesRow.holds Try.pinned (OpenSpec.ofChange dateCookiesSpec)

/-- ITS FALSE NEIGHBOUR: 'it returns false'. Refute it at one input. -/
def dateCookiesWrong : ChangeSpec := { name := "dateCookies", fn := fun _ => fun
  | [d] => { results := [.lit (.bool false)], args := [d] }
  | _ => none }
def DateCookiesWrongFalsely : Prop := dateCookiesRow.holds Try.pinned (OpenSpec.ofChange dateCookiesWrong)

/-- 'cracknellaw10.DateImf': WHATEVER THE INPUT: true; the input reads as it did. -/
def dateImfSpec : ChangeSpec := { name := "dateImf", fn := fun _ => fun
  | [d] => { results := [.lit (.bool true)], args := [d] }
  | _ => none }
def dateImfRow : OpenClaim := { program := "ytfbildneagjccaa", sum := "a3113ef7305468f08b56c3d5b06eef386883e6874d20eca923614ea482f7bca6", func := "cracknel/cracknellaw10.DateImf", spec := "dateImf", unfollowed := true, recurses := true, apart := false }
def DateImfSaid : Prop := dateImfRow.holds Try.pinned (OpenSpec.ofChange dateImfSpec)

/-- ITS FALSE NEIGHBOUR: 'it returns false'. Refute it at one input. -/
def dateImfWrong : ChangeSpec := { name := "dateImf", fn := fun _ => fun
  | [d] => { results := [.lit (.bool false)], args := [d] }
  | _ => none }
def DateImfWrongFalsely : Prop := dateImfRow.holds Try.pinned (OpenSpec.ofChange dateImfWrong)

/-- 'cracknellaw10.DateIso': WHATEVER THE INPUT: true; the input reads as it did. -/
def dateIsoSpec : ChangeSpec := { name := "dateIso", fn := fun _ => fun
  | [d] => { results := [.lit (.bool true)], args := [d] }
  | _ => none }
def dateIsoRow : OpenClaim := { program := "ytfbildneagjccaa", sum := "a3113ef7305468f08b56c3d5b06eef386883e6874d20eca923614ea482f7bca6", func := "cracknel/cracknellaw10.DateIso", spec := "dateIso", unfollowed := true, recurses := true, apart := false }
def DateIsoSaid : Prop := dateIsoRow.holds Try.pinned (OpenSpec.ofChange dateIsoSpec)

/-- ITS FALSE NEIGHBOUR: 'it returns false'. Refute it at one input. -/
def dateIsoWrong : ChangeSpec := { name := "dateIso", fn := fun _ => fun
  | [d] => { results := [.lit (.bool false)], args := [d] }
  | _ => none }
def DateIsoWrongFalsely : Prop := dateIsoRow.holds Try.pinned (OpenSpec.ofChange dateIsoWrong)

/-- 'cracknellaw10.DateUniso': WHATEVER THE INPUT: true; the input reads as it did. -/
def dateUnisoSpec : ChangeSpec := { name := "dateUniso", fn := fun _ => fun
  | [d] => { results := [.lit (.bool true)], args := [d] }
  | _ => none }
def dateUnisoRow : OpenClaim := { program := "ytfbildneagjccaa", sum := "a3113ef7305468f08b56c3d5b06eef386883e6874d20eca923614ea482f7bca6", func := "cracknel/cracknellaw10.DateUniso", spec := "dateUniso", unfollowed := true, recurses := true, apart := false }
def DateUnisoSaid : Prop := dateUnisoRow.holds Try.pinned (OpenSpec.ofChange dateUnisoSpec)

/-- ITS FALSE NEIGHBOUR: 'it returns false'. Refute it at one input. -/
def dateUnisoWrong : ChangeSpec := { name := "dateUniso", fn := fun _ => fun
  | [d] => { results := [.lit (.bool false)], args := [d] }
  | _ => none }
def DateUnisoWrongFalsely : Prop := dateUnisoRow.holds Try.pinned (OpenSpec.ofChange dateUnisoWrong)

/-- 'cracknellaw10.DateCase': WHATEVER THE INPUT: true; the input reads as it did. -/
def dateCaseSpec : ChangeSpec := { name := "dateCase", fn := fun _ => fun
  | [d] => { results := [.lit (.bool true)], args := [d] }
  | _ => none }
def dateCaseRow : OpenClaim := { program := "ytfbildneagjccaa", sum := "a3113ef7305468f08b56c3d5b06eef386883e6874d20eca923614ea482f7bca6", func := "cracknel/cracknellaw10.DateCase", spec := "dateCase", unfollowed := true, recurses := true, apart := false }
def DateCaseSaid : Prop := dateCaseRow.holds Try.pinned (OpenSpec.ofChange dateCaseSpec)

/-- ITS FALSE NEIGHBOUR: 'it returns false'. Refute it at one input. -/
def dateCaseWrong : ChangeSpec := { name := "dateCase", fn := fun _ => fun
  | [d] => { results := [.lit (.bool false)], args := [d] }
  | _ => none }
def DateCaseWrongFalsely : Prop := dateCaseRow.holds Try.pinned (OpenSpec.ofChange dateCaseWrong)

/-- 'cracknellaw10.DateParted': WHATEVER THE INPUT: true; the input reads as it did. -/
def datePartedSpec : ChangeSpec := { name := "dateParted", fn := fun _ => fun
  | [d1, d2] => { results := [.lit (.bool true)], args := [d1, d2] }
  | _ => none }
def datePartedRow : OpenClaim := { program := "ytfbildneagjccaa", sum := "a3113ef7305468f08b56c3d5b06eef386883e6874d20eca923614ea482f7bca6", func := "cracknel/cracknellaw10.DateParted", spec := "dateParted", unfollowed := true, recurses := true, apart := false }
def DatePartedSaid : Prop := datePartedRow.holds Try.pinned (OpenSpec.ofChange datePartedSpec)

/-- ITS FALSE NEIGHBOUR: 'it returns false'. Refute it at one input. -/
def datePartedWrong : ChangeSpec := { name := "dateParted", fn := fun _ => fun
  | [d1, d2] => { results := [.lit (.bool false)], args := [d1, d2] }
  | _ => none }
def DatePartedWrongFalsely : Prop := datePartedRow.holds Try.pinned (OpenSpec.ofChange datePartedWrong)

/-- 'cracknellaw10.DateYears': WHATEVER THE INPUT: true; the input reads as it did. -/
def dateYearsSpec : ChangeSpec := { name := "dateYears", fn := fun _ => fun
  | [d] => { results := [.lit (.bool true)], args := [d] }
  | _ => none }
def dateYearsRow : OpenClaim := { program := "ytfbildneagjccaa", sum := "a3113ef7305468f08b56c3d5b06eef386883e6874d20eca923614ea482f7bca6", func := "cracknel/cracknellaw10.DateYears", spec := "dateYears", unfollowed := true, recurses := true, apart := false }
def DateYearsSaid : Prop := dateYearsRow.holds Try.pinned (OpenSpec.ofChange dateYearsSpec)

/-- ITS FALSE NEIGHBOUR: 'it returns false'. Refute it at one input. -/
def dateYearsWrong : ChangeSpec := { name := "dateYears", fn := fun _ => fun
  | [d] => { results := [.lit (.bool false)], args := [d] }
  | _ => none }
def DateYearsWrongFalsely : Prop := dateYearsRow.holds Try.pinned (OpenSpec.ofChange dateYearsWrong)

/- THE SECOND FORM. 'bulk': how many values and letters a reading holds, each counted each time it is reached (what is shared counts as often as it is met; a slice's spare places count too). A statement '..UptoSaid' is the law's where the arguments, and the package variables that the reading takes, are together of bulk at most 1048576: NARROWER than '..Said'. Prove '..Said' where nothing that the law and all that it calls make is longer than what came in: it says more and counts as full. Else prove '..UptoSaid'. A law counts once. -/
mutual
def uptoBulk {H : Type} : DataW H → Nat
  | .lit (.string bytes) => bytes.length + 1
  | .lit _ => 1
  | .nil => 1
  | .ptr d => uptoBulk d + 1
  | .slice elems spare => uptoBulkAll elems + uptoBulkAll spare + 1
  | .agg parts => uptoBulkAll parts + 1
  | .iface _ d => uptoBulk d + 1
  | .map entries => uptoBulkEntries entries + 1
  | .held _ => 1
def uptoBulkAll {H : Type} : List (DataW H) → Nat
  | [] => 0
  | d :: r => uptoBulk d + uptoBulkAll r
def uptoBulkEntries {H : Type} : List (Lit × DataW H) → Nat
  | [] => 0
  | x :: r => uptoBulkEntry x + uptoBulkEntries r
def uptoBulkEntry {H : Type} : Lit × DataW H → Nat
  | (.string bytes, d) => bytes.length + uptoBulk d + 1
  | (_, d) => uptoBulk d + 1
 end
def uptoSmall : (H : Type) → List (DataW H) → Bool := fun _ ds => decide (uptoBulkAll ds ≤ 1048576)
def OpenSpec.upto (s : _root_.Go.ChangeSpec) : _root_.Go.OpenSpec := { _root_.Go.OpenSpec.ofChange s with cond := some uptoSmall }

/-- 'cracknellaw10.DateCookies', WHERE WHAT IT READS IS OF BULK AT MOST 1048576: true; the input reads as it did. -/
def dateCookiesUptoRow : OpenClaim := { program := "ytfbildneagjccaa", sum := "a3113ef7305468f08b56c3d5b06eef386883e6874d20eca923614ea482f7bca6", func := "cracknel/cracknellaw10.DateCookies", spec := "dateCookies", unfollowed := true, recurses := true, apart := false, narrowed := true }
def DateCookiesUptoSaid : Prop := dateCookiesUptoRow.holds Try.pinned (OpenSpec.upto dateCookiesSpec)

/-- 'cracknellaw10.DateImf', WHERE WHAT IT READS IS OF BULK AT MOST 1048576: true; the input reads as it did. -/
def dateImfUptoRow : OpenClaim := { program := "ytfbildneagjccaa", sum := "a3113ef7305468f08b56c3d5b06eef386883e6874d20eca923614ea482f7bca6", func := "cracknel/cracknellaw10.DateImf", spec := "dateImf", unfollowed := true, recurses := true, apart := false, narrowed := true }
def DateImfUptoSaid : Prop := dateImfUptoRow.holds Try.pinned (OpenSpec.upto dateImfSpec)

/-- 'cracknellaw10.DateIso', WHERE WHAT IT READS IS OF BULK AT MOST 1048576: true; the input reads as it did. -/
def dateIsoUptoRow : OpenClaim := { program := "ytfbildneagjccaa", sum := "a3113ef7305468f08b56c3d5b06eef386883e6874d20eca923614ea482f7bca6", func := "cracknel/cracknellaw10.DateIso", spec := "dateIso", unfollowed := true, recurses := true, apart := false, narrowed := true }
def DateIsoUptoSaid : Prop := dateIsoUptoRow.holds Try.pinned (OpenSpec.upto dateIsoSpec)

/-- 'cracknellaw10.DateUniso', WHERE WHAT IT READS IS OF BULK AT MOST 1048576: true; the input reads as it did. -/
def dateUnisoUptoRow : OpenClaim := { program := "ytfbildneagjccaa", sum := "a3113ef7305468f08b56c3d5b06eef386883e6874d20eca923614ea482f7bca6", func := "cracknel/cracknellaw10.DateUniso", spec := "dateUniso", unfollowed := true, recurses := true, apart := false, narrowed := true }
def DateUnisoUptoSaid : Prop := dateUnisoUptoRow.holds Try.pinned (OpenSpec.upto dateUnisoSpec)

/-- 'cracknellaw10.DateCase', WHERE WHAT IT READS IS OF BULK AT MOST 1048576: true; the input reads as it did. -/
def dateCaseUptoRow : OpenClaim := { program := "ytfbildneagjccaa", sum := "a3113ef7305468f08b56c3d5b06eef386883e6874d20eca923614ea482f7bca6", func := "cracknel/cracknellaw10.DateCase", spec := "dateCase", unfollowed := true, recurses := true, apart := false, narrowed := true }
def DateCaseUptoSaid : Prop := dateCaseUptoRow.holds Try.pinned (OpenSpec.upto dateCaseSpec)

/-- 'cracknellaw10.DateParted', WHERE WHAT IT READS IS OF BULK AT MOST 1048576: true; the input reads as it did. -/
def datePartedUptoRow : OpenClaim := { program := "ytfbildneagjccaa", sum := "a3113ef7305468f08b56c3d5b06eef386883e6874d20eca923614ea482f7bca6", func := "cracknel/cracknellaw10.DateParted", spec := "dateParted", unfollowed := true, recurses := true, apart := false, narrowed := true }
def DatePartedUptoSaid : Prop := datePartedUptoRow.holds Try.pinned (OpenSpec.upto datePartedSpec)

/-- 'cracknellaw10.DateYears', WHERE WHAT IT READS IS OF BULK AT MOST 1048576: true; the input reads as it did. -/
def dateYearsUptoRow : OpenClaim := { program := "ytfbildneagjccaa", sum := "a3113ef7305468f08b56c3d5b06eef386883e6874d20eca923614ea482f7bca6", func := "cracknel/cracknellaw10.DateYears", spec := "dateYears", unfollowed := true, recurses := true, apart := false, narrowed := true }
def DateYearsUptoSaid : Prop := dateYearsUptoRow.holds Try.pinned (OpenSpec.upto dateYearsSpec)

end Rows
end Go.Proofs.Ytfbildneagjccaa
