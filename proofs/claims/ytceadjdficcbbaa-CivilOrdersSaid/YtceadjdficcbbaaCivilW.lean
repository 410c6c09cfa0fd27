/- A clock that came in, opened to its six numbers; the walks of the statements on clocks in the rows' own form. -/
import Derived.Test.YtceadjdficcbbaaCivilQ
import Derived.Deep.Fields
import Derived.ChangeSame
namespace Go.Proofs.Ytceadjdficcbbaa
open Go.RowKit Go.ChangeShapes Go.WideShapes Go.Deep

theorem int_field {H : Type} {enc : TypeId × Value → H} {w : World} {base : Nat} {spare : Nat → Bool} {held : Bool} {t : TypeId} {fuel : Nat} {c : Value} {x : Option (DataW H × List MemPlace)} {xs : List (DataW H × List MemPlace)} {i : Nat} (hi : i < xs.length)
    (ht : Try.prog.underlying t = some (.int .i64)) (h : DataW.trod enc Try.prog w base spare held fuel t [c] = x) (hx : x = xs[i]?) : ∃ n, c = .int .i64 n := by
  rw [hx, List.getElem?_eq_getElem hi] at h
  obtain ⟨n, e, _⟩ := DataW.trod_int ht h
  exact ⟨n, by simpa using e⟩

/-- The six numbers of a clock. -/
structure Six where
  y : Int
  m : Int
  d : Int
  h : Int
  n : Int
  s : Int
def Six.val (c : Six) : Value := .agg #[.int .i64 c.y, .int .i64 c.m, .int .i64 c.d, .int .i64 c.h, .int .i64 c.n, .int .i64 c.s]

theorem openClock {H : Type} {enc : TypeId × Value → H} {w : World} {r : Reach} {b0 base : Nat} {spare : Nat → Bool} {held : Bool} {v : Value} {d : DataW H} {p : List MemPlace}
    (hv : Value.okWide Try.prog w r b0 32 v) (h : DataW.Trod enc Try.prog w base spare held 32 v d p) : ∃ c : Six, v = c.val := by
  obtain ⟨cs, rfl, hsz⟩ := okWide_struct Try.underlying32 hv
  obtain ⟨l⟩ := cs
  have hC : Try.prog.cellsOf 32 = 6 := by kernel_rfl
  match l, hsz.trans hC with
  | [c0, c1, c2, c3, c4, c5], _ =>
    obtain ⟨fuel, hf⟩ := h
    obtain ⟨xs, n, _, _, _, hlen, hg⟩ := DataW.trod_struct Try.underlying32 hf
    have hl : xs.length = 6 := by simpa using hlen
    have k3 : Try.prog.cellsOf 3 = 1 := by kernel_rfl
    have g0 : DataW.trod enc Try.prog w base spare held n 3 [c0] = xs[0]? := by
      have := hg 0 _ rfl
      simpa [k3, Value.cells] using this
    have g1 : DataW.trod enc Try.prog w base spare held n 3 [c1] = xs[1]? := by
      have := hg 1 _ rfl
      simpa [k3, Value.cells] using this
    have g2 : DataW.trod enc Try.prog w base spare held n 3 [c2] = xs[2]? := by
      have := hg 2 _ rfl
      simpa [k3, Value.cells] using this
    have g3 : DataW.trod enc Try.prog w base spare held n 3 [c3] = xs[3]? := by
      have := hg 3 _ rfl
      simpa [k3, Value.cells] using this
    have g4 : DataW.trod enc Try.prog w base spare held n 3 [c4] = xs[4]? := by
      have := hg 4 _ rfl
      simpa [k3, Value.cells] using this
    have g5 : DataW.trod enc Try.prog w base spare held n 3 [c5] = xs[5]? := by
      have := hg 5 _ rfl
      simpa [k3, Value.cells] using this
    obtain ⟨a0, e0⟩ := int_field (c := c0) (by omega) Try.underlying3 g0 rfl
    obtain ⟨a1, e1⟩ := int_field (c := c1) (by omega) Try.underlying3 g1 rfl
    obtain ⟨a2, e2⟩ := int_field (c := c2) (by omega) Try.underlying3 g2 rfl
    obtain ⟨a3, e3⟩ := int_field (c := c3) (by omega) Try.underlying3 g3 rfl
    obtain ⟨a4, e4⟩ := int_field (c := c4) (by omega) Try.underlying3 g4 rfl
    obtain ⟨a5, e5⟩ := int_field (c := c5) (by omega) Try.underlying3 g5 rfl
    exact ⟨⟨a0, a1, a2, a3, a4, a5⟩, by rw [e0, e1, e2, e3, e4, e5]; rfl⟩

theorem civilEpochs_any (c : Six) (w : World) (_ : True) :
    Calls Try.prog 7 #[c.val] w fun e w' => e = .returned (.bool true) ∧ Below w.heap.size w w' := by
  by_cases hv : vclk c.y c.m c.d c.h c.n c.s
  · exact civilEpochs_yes _ _ _ _ _ _ w hv
  · exact civilEpochs_no _ _ _ _ _ _ w hv
theorem civilOrders_any (c c' : Six) (w : World) (_ : True) (_ : True) :
    Calls Try.prog 9 #[c.val, c'.val] w fun e w' => e = .returned (.bool true) ∧ Below w.heap.size w w' :=
  civilOrders_walk _ _ _ _ _ _ _ _ _ _ _ _ w
end Go.Proofs.Ytceadjdficcbbaa
