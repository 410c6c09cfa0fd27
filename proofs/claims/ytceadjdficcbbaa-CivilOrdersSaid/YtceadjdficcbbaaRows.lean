/-
  No cell of these rows narrows 'for every input' (looked for: loops, veiled, ifaces, maps, wideKeys, modest, calm, conditions, laid).
  DERIVED. THE GIVEN ROWS OF THIS SEAT. 7 by the template 'for every input the law returns true; each argument reads behind the call as it read before'; 0 by the template 'total and deterministic' (their statements: YtceadjdficcbbaaTotals.lean).
  GIVEN WITH THE SEED: the statements are not yours to turn. If you find one false, say at which input.
  Laid BY PROGRAM, IN A SANDBOX (cutbox-rows.mjs): the forced cells as the released guide's own fill.sh prints them over the translation 0c8368c55debd248… (all of the seat's roots in one cut). By AI agents, Wed Nov 11 2026. No macro, syntax, notation, axiom, sorry.
-/
import Derived.Test.YtceadjdficcbbaaChecked
import GoSem.Claim
import GoSem.ClaimJoined
import GoSem.ClaimMapViews
import Derived.JoinedTies
import Derived.KernelRfl
namespace Go.Proofs.Ytceadjdficcbbaa
/- THE CELL 'sum', in the pinned program and in every row, IS THE sha256 OF THE DUMP (.gsa) THAT YtceadjdficcbbaaProg.lean LOADS. Nothing in Lean hashes anything: it is a label: what it is worth is what the hold of that sum in a sandbox is worth. -/
noncomputable def Try.pinned : Pinned := { name := "ytceadjdficcbbaa", sum := "0c8368c55debd2487332acb86d025f3ab5dbc4e7473c2c0913bf2b6423fd46ef", checked := Try.checked }
namespace Rows
def none {H : Type} : Left H := { results := [], args := [] }

/-- 'cracknellaw09.CivilDays': WHATEVER THE INPUT: true; the input reads as it did. -/
def civilDaysSpec : ChangeSpec := { name := "civilDays", fn := fun _ => fun
  | [d1, d2, d3] => { results := [.lit (.bool true)], args := [d1, d2, d3] }
  | _ => none }
def civilDaysRow : OpenClaim := { program := "ytceadjdficcbbaa", sum := "0c8368c55debd2487332acb86d025f3ab5dbc4e7473c2c0913bf2b6423fd46ef", func := "cracknel/cracknellaw09.CivilDays", spec := "civilDays", apart := false }
def CivilDaysSaid : Prop := civilDaysRow.holds Try.pinned (OpenSpec.ofChange civilDaysSpec)

/-- ITS FALSE NEIGHBOUR: 'it returns false'. Refute it at one input. -/
def civilDaysWrong : ChangeSpec := { name := "civilDays", fn := fun _ => fun
  | [d1, d2, d3] => { results := [.lit (.bool false)], args := [d1, d2, d3] }
  | _ => none }
def CivilDaysWrongFalsely : Prop := civilDaysRow.holds Try.pinned (OpenSpec.ofChange civilDaysWrong)

/-- 'cracknellaw09.CivilDates': WHATEVER THE INPUT: true; the input reads as it did. -/
def civilDatesSpec : ChangeSpec := { name := "civilDates", fn := fun _ => fun
  | [d] => { results := [.lit (.bool true)], args := [d] }
  | _ => none }
def civilDatesRow : OpenClaim := { program := "ytceadjdficcbbaa", sum := "0c8368c55debd2487332acb86d025f3ab5dbc4e7473c2c0913bf2b6423fd46ef", func := "cracknel/cracknellaw09.CivilDates", spec := "civilDates", apart := false }
def CivilDatesSaid : Prop := civilDatesRow.holds Try.pinned (OpenSpec.ofChange civilDatesSpec)

/-- ITS FALSE NEIGHBOUR: 'it returns false'. Refute it at one input. -/
def civilDatesWrong : ChangeSpec := { name := "civilDates", fn := fun _ => fun
  | [d] => { results := [.lit (.bool false)], args := [d] }
  | _ => none }
def CivilDatesWrongFalsely : Prop := civilDatesRow.holds Try.pinned (OpenSpec.ofChange civilDatesWrong)

/-- 'cracknellaw09.CivilNext': WHATEVER THE INPUT: true; the input reads as it did. -/
def civilNextSpec : ChangeSpec := { name := "civilNext", fn := fun _ => fun
  | [d] => { results := [.lit (.bool true)], args := [d] }
  | _ => none }
def civilNextRow : OpenClaim := { program := "ytceadjdficcbbaa", sum := "0c8368c55debd2487332acb86d025f3ab5dbc4e7473c2c0913bf2b6423fd46ef", func := "cracknel/cracknellaw09.CivilNext", spec := "civilNext", apart := false }
def CivilNextSaid : Prop := civilNextRow.holds Try.pinned (OpenSpec.ofChange civilNextSpec)

/-- ITS FALSE NEIGHBOUR: 'it returns false'. Refute it at one input. -/
def civilNextWrong : ChangeSpec := { name := "civilNext", fn := fun _ => fun
  | [d] => { results := [.lit (.bool false)], args := [d] }
  | _ => none }
def CivilNextWrongFalsely : Prop := civilNextRow.holds Try.pinned (OpenSpec.ofChange civilNextWrong)

/-- 'cracknellaw09.CivilWeekdays': WHATEVER THE INPUT: true; the input reads as it did. -/
def civilWeekdaysSpec : ChangeSpec := { name := "civilWeekdays", fn := fun _ => fun
  | [d] => { results := [.lit (.bool true)], args := [d] }
  | _ => none }
def civilWeekdaysRow : OpenClaim := { program := "ytceadjdficcbbaa", sum := "0c8368c55debd2487332acb86d025f3ab5dbc4e7473c2c0913bf2b6423fd46ef", func := "cracknel/cracknellaw09.CivilWeekdays", spec := "civilWeekdays", apart := false }
def CivilWeekdaysSaid : Prop := civilWeekdaysRow.holds Try.pinned (OpenSpec.ofChange civilWeekdaysSpec)

/-- ITS FALSE NEIGHBOUR: 'it returns false'. Refute it at one input. -/
def civilWeekdaysWrong : ChangeSpec := { name := "civilWeekdays", fn := fun _ => fun
  | [d] => { results := [.lit (.bool false)], args := [d] }
  | _ => none }
def CivilWeekdaysWrongFalsely : Prop := civilWeekdaysRow.holds Try.pinned (OpenSpec.ofChange civilWeekdaysWrong)

/-- 'cracknellaw09.CivilEpochs': WHATEVER THE INPUT: true; the input reads as it did. -/
def civilEpochsSpec : ChangeSpec := { name := "civilEpochs", fn := fun _ => fun
  | [d] => { results := [.lit (.bool true)], args := [d] }
  | _ => none }
def civilEpochsRow : OpenClaim := { program := "ytceadjdficcbbaa", sum := "0c8368c55debd2487332acb86d025f3ab5dbc4e7473c2c0913bf2b6423fd46ef", func := "cracknel/cracknellaw09.CivilEpochs", spec := "civilEpochs", apart := false }
def CivilEpochsSaid : Prop := civilEpochsRow.holds Try.pinned (OpenSpec.ofChange civilEpochsSpec)

/-- ITS FALSE NEIGHBOUR: 'it returns false'. Refute it at one input. -/
def civilEpochsWrong : ChangeSpec := { name := "civilEpochs", fn := fun _ => fun
  | [d] => { results := [.lit (.bool false)], args := [d] }
  | _ => none }
def CivilEpochsWrongFalsely : Prop := civilEpochsRow.holds Try.pinned (OpenSpec.ofChange civilEpochsWrong)

/-- 'cracknellaw09.CivilOf': WHATEVER THE INPUT: true; the input reads as it did. -/
def civilOfSpec : ChangeSpec := { name := "civilOf", fn := fun _ => fun
  | [d] => { results := [.lit (.bool true)], args := [d] }
  | _ => none }
def civilOfRow : OpenClaim := { program := "ytceadjdficcbbaa", sum := "0c8368c55debd2487332acb86d025f3ab5dbc4e7473c2c0913bf2b6423fd46ef", func := "cracknel/cracknellaw09.CivilOf", spec := "civilOf", apart := false }
def CivilOfSaid : Prop := civilOfRow.holds Try.pinned (OpenSpec.ofChange civilOfSpec)

/-- ITS FALSE NEIGHBOUR: 'it returns false'. Refute it at one input. -/
def civilOfWrong : ChangeSpec := { name := "civilOf", fn := fun _ => fun
  | [d] => { results := [.lit (.bool false)], args := [d] }
  | _ => none }
def CivilOfWrongFalsely : Prop := civilOfRow.holds Try.pinned (OpenSpec.ofChange civilOfWrong)

/-- 'cracknellaw09.CivilOrders': WHATEVER THE INPUT: true; the input reads as it did. -/
def civilOrdersSpec : ChangeSpec := { name := "civilOrders", fn := fun _ => fun
  | [d1, d2] => { results := [.lit (.bool true)], args := [d1, d2] }
  | _ => none }
def civilOrdersRow : OpenClaim := { program := "ytceadjdficcbbaa", sum := "0c8368c55debd2487332acb86d025f3ab5dbc4e7473c2c0913bf2b6423fd46ef", func := "cracknel/cracknellaw09.CivilOrders", spec := "civilOrders", apart := false }
def CivilOrdersSaid : Prop := civilOrdersRow.holds Try.pinned (OpenSpec.ofChange civilOrdersSpec)

/-- ITS FALSE NEIGHBOUR: 'it returns false'. Refute it at one input. -/
def civilOrdersWrong : ChangeSpec := { name := "civilOrders", fn := fun _ => fun
  | [d1, d2] => { results := [.lit (.bool false)], args := [d1, d2] }
  | _ => none }
def CivilOrdersWrongFalsely : Prop := civilOrdersRow.holds Try.pinned (OpenSpec.ofChange civilOrdersWrong)

/- THE SECOND FORM. 'bulk': how many values and letters a reading holds, each counted each time it is reached (what is shared counts as often as it is met; a slice's spare places count too). A statement '..UptoSaid' is the law's where the arguments, and the package variables that the reading takes, are together of bulk at most 1048576: NARROWER than '..Said'. Prove '..Said' where nothing that the law and all that it calls make is longer than what came in: it says more and counts as full. Else prove '..UptoSaid'. A law counts once. -/
mutual
def uptoBulk {H : Type} : DataW H → Nat
  | .lit (.string bytes) => bytes.length + 1
  | .lit _ => 1
  | .nil => 1
  | .ptr d => uptoBulk d + 1
  | .slice elems spare => uptoBulkAll elems + uptoBulkAll spare + 1
  | .agg parts => uptoBulkAll parts + 1
  | .iface _ d => uptoBulk d + 1
  | .map entries => uptoBulkEntries entries + 1
  | .held _ => 1
def uptoBulkAll {H : Type} : List (DataW H) → Nat
  | [] => 0
  | d :: r => uptoBulk d + uptoBulkAll r
def uptoBulkEntries {H : Type} : List (Lit × DataW H) → Nat
  | [] => 0
  | x :: r => uptoBulkEntry x + uptoBulkEntries r
def uptoBulkEntry {H : Type} : Lit × DataW H → Nat
  | (.string bytes, d) => bytes.length + uptoBulk d + 1
  | (_, d) => uptoBulk d + 1
 end
def uptoSmall : (H : Type) → List (DataW H) → Bool := fun _ ds => decide (uptoBulkAll ds ≤ 1048576)
def OpenSpec.upto (s : _root_.Go.ChangeSpec) : _root_.Go.OpenSpec := { _root_.Go.OpenSpec.ofChange s with cond := some uptoSmall }

/-- 'cracknellaw09.CivilDays', WHERE WHAT IT READS IS OF BULK AT MOST 1048576: true; the input reads as it did. -/
def civilDaysUptoRow : OpenClaim := { program := "ytceadjdficcbbaa", sum := "0c8368c55debd2487332acb86d025f3ab5dbc4e7473c2c0913bf2b6423fd46ef", func := "cracknel/cracknellaw09.CivilDays", spec := "civilDays", apart := false, narrowed := true }
def CivilDaysUptoSaid : Prop := civilDaysUptoRow.holds Try.pinned (OpenSpec.upto civilDaysSpec)

/-- 'cracknellaw09.CivilDates', WHERE WHAT IT READS IS OF BULK AT MOST 1048576: true; the input reads as it did. -/
def civilDatesUptoRow : OpenClaim := { program := "ytceadjdficcbbaa", sum := "0c8368c55debd2487332acb86d025f3ab5dbc4e7473c2c0913bf2b6423fd46ef", func := "cracknel/cracknellaw09.CivilDates", spec := "civilDates", apart := false, narrowed := true }
def CivilDatesUptoSaid : Prop := civilDatesUptoRow.holds Try.pinned (OpenSpec.upto civilDatesSpec)

/-- 'cracknellaw09.CivilNext', WHERE WHAT IT READS IS OF BULK AT MOST 1048576: true; the input reads as it did. -/
def civilNextUptoRow : OpenClaim := { program := "ytceadjdficcbbaa", sum := "0c8368c55debd2487332acb86d025f3ab5dbc4e7473c2c0913bf2b6423fd46ef", func := "cracknel/cracknellaw09.CivilNext", spec := "civilNext", apart := false, narrowed := true }
def CivilNextUptoSaid : Prop := civilNextUptoRow.holds Try.pinned (OpenSpec.upto civilNextSpec)

/-- 'cracknellaw09.CivilWeekdays', WHERE WHAT IT READS IS OF BULK AT MOST 1048576: true; the input reads as it did. -/
def civilWeekdaysUptoRow : OpenClaim := { program := "ytceadjdficcbbaa", sum := "0c8368c55debd2487332acb86d025f3ab5dbc4e7473c2c0913bf2b6423fd46ef", func := "cracknel/cracknellaw09.CivilWeekdays", spec := "civilWeekdays", apart := false, narrowed := true }
def CivilWeekdaysUptoSaid : Prop := civilWeekdaysUptoRow.holds Try.pinned (OpenSpec.upto civilWeekdaysSpec)

/-- 'cracknellaw09.CivilEpochs', WHERE WHAT IT READS IS OF BULK AT MOST 1048576: true; the input reads as it did. -/
def civilEpochsUptoRow : OpenClaim := { program := "ytceadjdficcbbaa", sum := "0c8368c55debd2487332acb86d025f3ab5dbc4e7473c2c0913bf2b6423fd46ef", func := "cracknel/cracknellaw09.CivilEpochs", spec := "civilEpochs", apart := false, narrowed := true }
def CivilEpochsUptoSaid : Prop := civilEpochsUptoRow.holds Try.pinned (OpenSpec.upto civilEpochsSpec)

/-- 'cracknellaw09.CivilOf', WHERE WHAT IT READS IS OF BULK AT MOST 1048576: true; the input reads as it did. -/
def civilOfUptoRow : OpenClaim := { program := "ytceadjdficcbbaa", sum := "0c8368c55debd2487332acb86d025f3ab5dbc4e7473c2c0913bf2b6423fd46ef", func := "cracknel/cracknellaw09.CivilOf", spec := "civilOf", apart := false, narrowed := true }
def CivilOfUptoSaid : Prop := civilOfUptoRow.holds Try.pinned (OpenSpec.upto civilOfSpec)

/-- 'cracknellaw09.CivilOrders', WHERE WHAT IT READS IS OF BULK AT MOST 1048576: true; the input reads as it did. -/
def civilOrdersUptoRow : OpenClaim := { program := "ytceadjdficcbbaa", sum := "0c8368c55debd2487332acb86d025f3ab5dbc4e7473c2c0913bf2b6423fd46ef", func := "cracknel/cracknellaw09.CivilOrders", spec := "civilOrders", apart := false, narrowed := true }
def CivilOrdersUptoSaid : Prop := civilOrdersUptoRow.holds Try.pinned (OpenSpec.upto civilOrdersSpec)

end Rows
end Go.Proofs.Ytceadjdficcbbaa
