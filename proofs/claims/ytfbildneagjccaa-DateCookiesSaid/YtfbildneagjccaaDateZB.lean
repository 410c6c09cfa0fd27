/- What the reference's Cookie holds between two words; how many words a text has, and how long they are. -/
import Derived.Test.YtfbildneagjccaaDateZ
import Derived.StillTailTactics
namespace Go.Proofs.Ytfbildneagjccaa
open Go.RowKit

theorem wordsA_len : ∀ (l cur : List UInt8), (wordsA cur l).length ≤ l.length + 1 ∧ ∀ x ∈ wordsA cur l, x.length ≤ cur.length + l.length
  | [], cur => by
    unfold wordsA
    split
    · exact ⟨by simp, by simp⟩
    · exact ⟨by simp, by simp⟩
  | c :: l, cur => by
    have h1 := wordsA_len l []
    have h2 := wordsA_len l (cur ++ [c])
    unfold wordsA
    split
    · split
      · exact ⟨by simp only [List.length_cons]; omega, fun x hx => by have := h1.2 x hx; simp only [List.length_cons, List.length_nil] at *; omega⟩
      · refine ⟨by simp only [List.length_cons]; omega, fun x hx => ?_⟩
        rcases List.mem_cons.1 hx with rfl | hx
        · simp only [List.length_cons]; omega
        · have := h1.2 x hx
          simp only [List.length_cons, List.length_nil] at *
          omega
    · refine ⟨by simp only [List.length_cons]; omega, fun x hx => ?_⟩
      have := h2.2 x hx
      simp only [List.length_append, List.length_cons, List.length_nil] at *
      omega
theorem words_len (s : ByteArray) : (wordsS s).length ≤ s.size + 1 ∧ ∀ x ∈ wordsS s, x.size ≤ s.size := by
  have h := wordsA_len (bs s) []
  unfold wordsS
  refine ⟨by rw [List.length_map, size_bs]; exact h.1, fun x hx => ?_⟩
  obtain ⟨y, hy, rfl⟩ := List.mem_map.1 hx
  have := h.2 y hy
  rw [size_bs, bs_mk, size_bs]
  simpa using this
theorem RT.keep {B : Nat} {w w' : World} {v : Value} {q : List ByteArray} (h : RT B w v q) (hb : Below w.heap.size w w') : RT B w' v q := by
  obtain ⟨a, cp, rfl, hc, h⟩ := h
  refine ⟨a, cp, rfl, hc, ?_⟩
  rcases h with h | ⟨b, rfl, hB, h⟩
  · exact .inl h
  · exact .inr ⟨b, rfl, hB, fun i hi => (hb.cell (p := ⟨b, i, none⟩) (cell_ltD (h i hi))).trans (h i hi)⟩
theorem RT.sets {B b' o : Nat} {w : World} {v : Value} {q : List ByteArray} (h : RT B w v q) (hb : b' < B) (vs : List Value) : RT B (w.setCells b' o vs) v q := by
  obtain ⟨a, cp, rfl, hc, h⟩ := h
  refine ⟨a, cp, rfl, hc, ?_⟩
  rcases h with h | ⟨b, rfl, hB, h⟩
  · exact .inl h
  · refine .inr ⟨b, rfl, hB, fun i hi => ?_⟩
    rw [World.cell?_setCells_out b' vs o w ⟨b, i, none⟩ (fun h9 _ => by exfalso; have h8 : b = b' := h9; omega)]
    exact h i hi
theorem size_setCells (b : Nat) : ∀ (vs : List Value) (o : Nat) (w : World), (w.setCells b o vs).heap.size = w.heap.size
  | [], _, _ => rfl
  | v :: r, o, w => by rw [World.setCells, size_setCells b r, World.size_setCell]
/-- The struct's cells, and the words' row, behind k words. -/
structure CK (w W : World) (v : Value) (q : List ByteArray) (k : Nat) : Prop where
  rd : W.rangeAt w.heap.size 0 (fdL (foundL (q.take k)))
  wr : W.there w.heap.size 0 10
  row : RT (w.heap.size + 1) W v q
  bel : Below w.heap.size w W
  sz : w.heap.size + 1 ≤ W.heap.size
theorem CK.keep {w W W' : World} {v : Value} {q : List ByteArray} {k : Nat} (h : CK w W v q k) (hb : Below W.heap.size W W') : CK w W' v q k := by
  have := h.sz
  exact ⟨range_keep h.rd hb (by omega), there_keep h.wr hb (by omega), h.row.keep hb, Bsnoc h.bel hb, Nat.le_trans h.sz hb.size⟩
theorem CK.next {w W : World} {v : Value} {q : List ByteArray} {k : Nat} (h : CK w W v q k) (hk : k < q.length) : CK w (W.setCells w.heap.size 0 (fdL (nextF (foundL (q.take k)) q[k]))) v q (k + 1) := by
  refine ⟨?_, World.there_setCells h.wr _ _ _, h.row.sets (by omega) _, Below.setCells (Nat.le_refl _) _ _ _ h.bel, by rw [size_setCells]; exact h.sz⟩
  rw [List.take_add_one, List.getElem?_eq_getElem hk, Option.toList_some, foundL_snoc]
  exact World.rangeAt_setCells_same _ _ _ _ h.wr
theorem CK.at {w W : World} {v : Value} {q : List ByteArray} {k : Nat} (h : CK w W v q k) (hk : k < q.length) : ∃ b cp, v = .slice (some ⟨b, 0, none⟩) q.length cp ∧ q.length ≤ cp ∧ w.heap.size + 1 ≤ b ∧ W.cell? ⟨b, k, none⟩ = some (.string q[k]) := by
  obtain ⟨a, cp, rfl, hc, h⟩ := h.row
  rcases h with rfl | ⟨b, rfl, hB, h⟩
  · cases hk
  · exact ⟨b, cp, rfl, hc, hB, h k hk⟩
theorem still_load {ops : Array Oper} {rest : List Oper} {op : Oper} {a : Act} {W : World} {Q : Act → Prop} {b : Nat} {f : Fd} (h : W.rangeAt b 0 (fdL f)) (hw : ∀ y, Region.wanted op y = true) (x : Operand) (ho : op.op = .load 46 x)
    (hx : a.eval x = .pointer (some ⟨b, 0, none⟩)) (hk : wpStill Try.prog ops W Q rest (a.put op.dst (fdA f))) : wpStill Try.prog ops W Q (op :: rest) a := by
  rw [wpStill, if_pos (hw _)]
  unfold Oper.still execOp
  simp only [ho, hx, Instr.loadAt, Instr.sureAddr, Sem.run_bind, Sem.run_pure, Result.andThen_ok, loadF h]
  exact ⟨rfl, hk⟩
end Go.Proofs.Ytfbildneagjccaa
