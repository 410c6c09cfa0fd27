/- Regions that draw their order and hold calls that make memory: one walk of the text's order, in the class of the worlds that lie below. No program. -/
import Derived.Deep.QuietTactic
import Derived.BigQuiet
import Derived.Below
namespace Go.Proofs.YtngamlikhgilhaaDoor
open Go.RowKit

/-- A world that has kept all that there was. -/
structure BW (w : World) where
  W : World
  bel : Below w.heap.size w W
instance (w : World) : Nonempty (BW w) := ⟨⟨w, Below.refl _ _⟩⟩
theorem BW.cell {w : World} (x : BW w) (b o : Nat) (h : b < w.heap.size) : x.W.cell? ⟨b, o, none⟩ = w.cell? ⟨b, o, none⟩ := x.bel.cell (p := ⟨b, o, none⟩) h
theorem BW.frozen {w : World} (x : BW w) (b o : Nat) (h : b < w.heap.size) : x.W.frozen? ⟨b, o, none⟩ = w.frozen? ⟨b, o, none⟩ := x.bel.frozen (p := ⟨b, o, none⟩) h
theorem BW.call {w : World} {P : Program} {f : FuncId} {args : Array Value} {x : BW w} {v : Value}
    (h : Calls P f args x.W fun e w' => e = .returned v ∧ Below x.W.heap.size x.W w') : Calls P f args x.W fun e w' => e = .returned v ∧ ∃ y : BW w, w' = y.W :=
  h.mono fun _ _ ⟨he, hb⟩ => ⟨he, ⟨_, x.bel.trans (hb.mono x.bel.size)⟩, rfl⟩
theorem BW.same {w : World} {P : Program} {f : FuncId} {args : Array Value} {x : BW w} {v : Value}
    (h : Calls P f args x.W fun e w' => e = .returned v ∧ x.W = w') : Calls P f args x.W fun e w' => e = .returned v ∧ ∃ y : BW w, w' = y.W :=
  h.mono fun _ _ ⟨he, hw⟩ => ⟨he, x, hw.symm⟩
theorem BW.drawn {w : World} {P : Program} {f : FuncId} {args : Array Value} {x : BW w} {v : Value}
    (h : Calls P f args x.W fun e w' => e = .returned v ∧ ∃ n, w' = x.W.drewN n) : Calls P f args x.W fun e w' => e = .returned v ∧ ∃ y : BW w, w' = y.W :=
  h.mono fun _ _ ⟨he, n, hw⟩ => ⟨he, ⟨x.W.drewN n, ⟨x.bel.os, x.bel.tape, x.bel.output, x.bel.size, x.bel.block⟩⟩, hw⟩
theorem wp_region_class {P : Program} {id : Nat} {Q : Exit → Act → World → Prop} {a : Act} {w : World} {l : List Oper} (hm : P.follows .mixedOrders = true) (hB : Region.lexB .any l.toArray = true)
    (h : wpQuiet P l.toArray (fun w' => ∃ x : BW w, w' = x.W) (fun a' => ∀ w', (∃ x : BW w, w' = x.W) → Q .normal a' w') l a) : (Code.region id l.toArray true).wp P Q a w :=
  wp_region_quiet (C := fun w' => ∃ x : BW w, w' = x.W) hm hB ⟨⟨_, Below.drew (Below.refl _ _)⟩, rfl⟩ (by simpa using h)
end Go.Proofs.YtngamlikhgilhaaDoor
