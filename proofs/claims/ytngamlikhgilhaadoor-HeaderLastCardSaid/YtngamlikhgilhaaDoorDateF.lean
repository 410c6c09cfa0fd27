/- What Cookie holds between two words. -/
import Derived.Test.YtngamlikhgilhaaDoorDateE
import Derived.Test.YtngamlikhgilhaaDoorCivilC
import Derived.Deep.AppendLies
namespace Go.Proofs.YtngamlikhgilhaaDoor
open Go.RowKit

/-- The clock, what has been had, the readers: in three blocks of the call's own. -/
structure CkAt (w W : World) (f : Fd) : Prop where
  clk : ClkAt W w.heap.size f.y f.m f.d f.h f.n f.s
  h0 : W.cell? ⟨w.heap.size + 1, 0, none⟩ = some (.bool f.ht)
  h1 : W.cell? ⟨w.heap.size + 1, 1, none⟩ = some (.bool f.hd)
  h2 : W.cell? ⟨w.heap.size + 1, 2, none⟩ = some (.bool f.hm)
  h3 : W.cell? ⟨w.heap.size + 1, 3, none⟩ = some (.bool f.hy)
  hz : ∀ o, W.frozen? ⟨w.heap.size + 1, o, none⟩ = false
  k0 : W.cell? ⟨w.heap.size + 2, 0, none⟩ = some (.func (.func 24) #[] #[.pointer (some ⟨w.heap.size, 0, none⟩)])
  k1 : W.cell? ⟨w.heap.size + 2, 1, none⟩ = some (.func (.func 26) #[] #[.pointer (some ⟨w.heap.size, 0, none⟩)])
  k2 : W.cell? ⟨w.heap.size + 2, 2, none⟩ = some (.func (.func 28) #[] #[.pointer (some ⟨w.heap.size, 0, none⟩)])
  k3 : W.cell? ⟨w.heap.size + 2, 3, none⟩ = some (.func (.func 30) #[] #[.pointer (some ⟨w.heap.size, 0, none⟩)])
  bel : Below w.heap.size w W
  size : w.heap.size + 3 < W.heap.size
theorem CkAt.blocks {w W W' : World} {f : Fd} (h : CkAt w W f) (hb : ∀ i, i < 3 → W'.heap[w.heap.size + i]? = W.heap[w.heap.size + i]?) (bel : Below w.heap.size w W') (size : W.heap.size ≤ W'.heap.size) : CkAt w W' f := by
  have c0 : ∀ o, W'.cell? ⟨w.heap.size, o, none⟩ = W.cell? ⟨w.heap.size, o, none⟩ := fun o => World.cell?_of_block (hb 0 (by decide))
  have c1 : ∀ o, W'.cell? ⟨w.heap.size + 1, o, none⟩ = W.cell? ⟨w.heap.size + 1, o, none⟩ := fun o => World.cell?_of_block (hb 1 (by decide))
  have c2 : ∀ o, W'.cell? ⟨w.heap.size + 2, o, none⟩ = W.cell? ⟨w.heap.size + 2, o, none⟩ := fun o => World.cell?_of_block (hb 2 (by decide))
  have z0 : ∀ o, W'.frozen? ⟨w.heap.size, o, none⟩ = W.frozen? ⟨w.heap.size, o, none⟩ := fun o => World.frozen?_of_block (hb 0 (by decide))
  have z1 : ∀ o, W'.frozen? ⟨w.heap.size + 1, o, none⟩ = W.frozen? ⟨w.heap.size + 1, o, none⟩ := fun o => World.frozen?_of_block (hb 1 (by decide))
  have hc := h.clk
  exact ⟨⟨by rw [c0]; exact hc.c0, by rw [c0]; exact hc.c1, by rw [c0]; exact hc.c2, by rw [c0]; exact hc.c3, by rw [c0]; exact hc.c4, by rw [c0]; exact hc.c5, fun o => by rw [z0]; exact hc.fz o⟩,
    by rw [c1]; exact h.h0, by rw [c1]; exact h.h1, by rw [c1]; exact h.h2, by rw [c1]; exact h.h3, fun o => by rw [z1]; exact h.hz o,
    by rw [c2]; exact h.k0, by rw [c2]; exact h.k1, by rw [c2]; exact h.k2, by rw [c2]; exact h.k3, bel, Nat.lt_of_lt_of_le h.size size⟩
theorem CkAt.read {w W W' : World} {f : Fd} (h : CkAt w W f) (hg : W.grownBy W' (some w.heap.size)) {y m d hh n s : Int} (hc : ClkAt W' w.heap.size y m d hh n s) : CkAt w W' { f with y := y, m := m, d := d, h := hh, n := n, s := s } := by
  have hs := h.size
  have c1 : ∀ o, W'.cell? ⟨w.heap.size + 1, o, none⟩ = W.cell? ⟨w.heap.size + 1, o, none⟩ := fun o => hg.cell_far _ (by show w.heap.size + 1 < _; omega) (by show some (w.heap.size + 1) ≠ _; intro e; injection e with e; omega)
  have c2 : ∀ o, W'.cell? ⟨w.heap.size + 2, o, none⟩ = W.cell? ⟨w.heap.size + 2, o, none⟩ := fun o => hg.cell_far _ (by show w.heap.size + 2 < _; omega) (by show some (w.heap.size + 2) ≠ _; intro e; injection e with e; omega)
  have z1 : ∀ o, W'.frozen? ⟨w.heap.size + 1, o, none⟩ = W.frozen? ⟨w.heap.size + 1, o, none⟩ := fun o => hg.frozen_far _ (by show w.heap.size + 1 < _; omega) (by show some (w.heap.size + 1) ≠ _; intro e; injection e with e; omega)
  exact ⟨hc, by rw [c1]; exact h.h0, by rw [c1]; exact h.h1, by rw [c1]; exact h.h2, by rw [c1]; exact h.h3, fun o => by rw [z1]; exact h.hz o,
    by rw [c2]; exact h.k0, by rw [c2]; exact h.k1, by rw [c2]; exact h.k2, by rw [c2]; exact h.k3,
    h.bel.grown hg h.bel.size (fun k e => by cases e; exact Nat.le_refl _), Nat.lt_of_lt_of_le hs hg.size⟩
theorem ne_blk {b b' i j : Nat} (h : b ≠ b') : (⟨b, i, none⟩ : Addr) ≠ ⟨b', j, none⟩ := fun e => by injection e with e1; exact h e1
theorem ClkAt.far {W : World} {b b' o : Nat} {y m d h n s : Int} (hC : ClkAt W b y m d h n s) (v : Value) (hne : b' ≠ b) : ClkAt (W.setCell ⟨b', o, none⟩ v) b y m d h n s :=
  ⟨by rw [World.cell?_setCell_other _ _ _ _ (ne_blk hne)]; exact hC.c0, by rw [World.cell?_setCell_other _ _ _ _ (ne_blk hne)]; exact hC.c1, by rw [World.cell?_setCell_other _ _ _ _ (ne_blk hne)]; exact hC.c2,
   by rw [World.cell?_setCell_other _ _ _ _ (ne_blk hne)]; exact hC.c3, by rw [World.cell?_setCell_other _ _ _ _ (ne_blk hne)]; exact hC.c4, by rw [World.cell?_setCell_other _ _ _ _ (ne_blk hne)]; exact hC.c5, fun o => by rw [World.frozen?_setCell]; exact hC.fz o⟩
theorem CkAt.had0 {w W : World} {f : Fd} (h : CkAt w W f) : CkAt w (W.setCell ⟨w.heap.size + 1, 0, none⟩ (.bool true)) { f with ht := true } :=
  ⟨h.clk.far _ (by omega), World.cell?_setCell_same' _ _ _ (by rw [h.h0]; rfl), by rw [World.cell?_setCell_other _ _ _ _ (ne_off (by decide))]; exact h.h1, by rw [World.cell?_setCell_other _ _ _ _ (ne_off (by decide))]; exact h.h2, by rw [World.cell?_setCell_other _ _ _ _ (ne_off (by decide))]; exact h.h3, fun o => by rw [World.frozen?_setCell]; exact h.hz o, by rw [World.cell?_setCell_other _ _ _ _ (ne_blk (by omega))]; exact h.k0, by rw [World.cell?_setCell_other _ _ _ _ (ne_blk (by omega))]; exact h.k1, by rw [World.cell?_setCell_other _ _ _ _ (ne_blk (by omega))]; exact h.k2, by rw [World.cell?_setCell_other _ _ _ _ (ne_blk (by omega))]; exact h.k3, h.bel.setCell (by show w.heap.size ≤ w.heap.size + 1; omega) _, by rw [World.size_setCell]; exact h.size⟩
theorem CkAt.had1 {w W : World} {f : Fd} (h : CkAt w W f) : CkAt w (W.setCell ⟨w.heap.size + 1, 1, none⟩ (.bool true)) { f with hd := true } :=
  ⟨h.clk.far _ (by omega), by rw [World.cell?_setCell_other _ _ _ _ (ne_off (by decide))]; exact h.h0, World.cell?_setCell_same' _ _ _ (by rw [h.h1]; rfl), by rw [World.cell?_setCell_other _ _ _ _ (ne_off (by decide))]; exact h.h2, by rw [World.cell?_setCell_other _ _ _ _ (ne_off (by decide))]; exact h.h3, fun o => by rw [World.frozen?_setCell]; exact h.hz o, by rw [World.cell?_setCell_other _ _ _ _ (ne_blk (by omega))]; exact h.k0, by rw [World.cell?_setCell_other _ _ _ _ (ne_blk (by omega))]; exact h.k1, by rw [World.cell?_setCell_other _ _ _ _ (ne_blk (by omega))]; exact h.k2, by rw [World.cell?_setCell_other _ _ _ _ (ne_blk (by omega))]; exact h.k3, h.bel.setCell (by show w.heap.size ≤ w.heap.size + 1; omega) _, by rw [World.size_setCell]; exact h.size⟩
theorem CkAt.had2 {w W : World} {f : Fd} (h : CkAt w W f) : CkAt w (W.setCell ⟨w.heap.size + 1, 2, none⟩ (.bool true)) { f with hm := true } :=
  ⟨h.clk.far _ (by omega), by rw [World.cell?_setCell_other _ _ _ _ (ne_off (by decide))]; exact h.h0, by rw [World.cell?_setCell_other _ _ _ _ (ne_off (by decide))]; exact h.h1, World.cell?_setCell_same' _ _ _ (by rw [h.h2]; rfl), by rw [World.cell?_setCell_other _ _ _ _ (ne_off (by decide))]; exact h.h3, fun o => by rw [World.frozen?_setCell]; exact h.hz o, by rw [World.cell?_setCell_other _ _ _ _ (ne_blk (by omega))]; exact h.k0, by rw [World.cell?_setCell_other _ _ _ _ (ne_blk (by omega))]; exact h.k1, by rw [World.cell?_setCell_other _ _ _ _ (ne_blk (by omega))]; exact h.k2, by rw [World.cell?_setCell_other _ _ _ _ (ne_blk (by omega))]; exact h.k3, h.bel.setCell (by show w.heap.size ≤ w.heap.size + 1; omega) _, by rw [World.size_setCell]; exact h.size⟩
theorem CkAt.had3 {w W : World} {f : Fd} (h : CkAt w W f) : CkAt w (W.setCell ⟨w.heap.size + 1, 3, none⟩ (.bool true)) { f with hy := true } :=
  ⟨h.clk.far _ (by omega), by rw [World.cell?_setCell_other _ _ _ _ (ne_off (by decide))]; exact h.h0, by rw [World.cell?_setCell_other _ _ _ _ (ne_off (by decide))]; exact h.h1, by rw [World.cell?_setCell_other _ _ _ _ (ne_off (by decide))]; exact h.h2, World.cell?_setCell_same' _ _ _ (by rw [h.h3]; rfl), fun o => by rw [World.frozen?_setCell]; exact h.hz o, by rw [World.cell?_setCell_other _ _ _ _ (ne_blk (by omega))]; exact h.k0, by rw [World.cell?_setCell_other _ _ _ _ (ne_blk (by omega))]; exact h.k1, by rw [World.cell?_setCell_other _ _ _ _ (ne_blk (by omega))]; exact h.k2, by rw [World.cell?_setCell_other _ _ _ _ (ne_blk (by omega))]; exact h.k3, h.bel.setCell (by show w.heap.size ≤ w.heap.size + 1; omega) _, by rw [World.size_setCell]; exact h.size⟩
theorem CkAt.own (w : World) (g : List Wd → Fd) (B : Nat) (hB : w.heap.size ≤ B) : OwnFrom B (fun (pre : List Wd) W => CkAt w W (g pre)) := by
  intro pre W W' row h hg hr
  have hs := h.size
  have hb : ∀ b, b < W.heap.size → (∃ v, W.cell? ⟨b, 0, none⟩ = some v) → W'.heap[b]? = W.heap[b]? := by
    rintro b hlt ⟨v, hv⟩
    obtain ⟨o, ho, hc⟩ := cells_of_cell hv
    exact grownBy_keeps_cells hg (fun r e => (hr r e).2) ho hc
  refine h.blocks ?_ (h.bel.grown hg h.bel.size (fun k e => Nat.le_trans hB (hr k e).1)) hg.size
  intro i hi
  have : i = 0 ∨ i = 1 ∨ i = 2 := by omega
  rcases this with rfl | rfl | rfl
  · exact hb _ (by omega) ⟨_, h.clk.c0⟩
  · exact hb _ (by omega) ⟨_, h.h0⟩
  · exact hb _ (by omega) ⟨_, h.k0⟩
theorem next_0 {f : Fd} {x : ByteArray}  (h0 : f.ht = false ∧ timeB x = true) : nextF f x = { f with ht := true, h := numV x, n := numV (time2 x), s := numV (time2 (time2 x)) } := by
  unfold nextF
  rw [if_pos h0]
theorem next_1 {f : Fd} {x : ByteArray} (h0 : ¬ (f.ht = false ∧ timeB x = true)) (h1 : f.hd = false ∧ oneTwo x = true) : nextF f x = { f with hd := true, d := numV x } := by
  unfold nextF
  rw [if_neg h0, if_pos h1]
theorem next_2 {f : Fd} {x : ByteArray} (h0 : ¬ (f.ht = false ∧ timeB x = true)) (h1 : ¬ (f.hd = false ∧ oneTwo x = true)) (h2 : f.hm = false ∧ 0 < monthN x) : nextF f x = { f with hm := true, m := monthN x } := by
  unfold nextF
  rw [if_neg h0, if_neg h1, if_pos h2]
theorem next_3 {f : Fd} {x : ByteArray} (h0 : ¬ (f.ht = false ∧ timeB x = true)) (h1 : ¬ (f.hd = false ∧ oneTwo x = true)) (h2 : ¬ (f.hm = false ∧ 0 < monthN x)) (h3 : f.hy = false ∧ twoFour x = true) : nextF f x = { f with hy := true, y := numV x } := by
  unfold nextF
  rw [if_neg h0, if_neg h1, if_neg h2, if_pos h3]
theorem next_4 {f : Fd} {x : ByteArray} (h0 : ¬ (f.ht = false ∧ timeB x = true)) (h1 : ¬ (f.hd = false ∧ oneTwo x = true)) (h2 : ¬ (f.hm = false ∧ 0 < monthN x)) (h3 : ¬ (f.hy = false ∧ twoFour x = true)) : nextF f x = f := by
  unfold nextF
  rw [if_neg h0, if_neg h1, if_neg h2, if_neg h3]
theorem CkAt.acc0 {w W W2 : World} {f : Fd} {x : ByteArray} (h : CkAt w W f) (hg : W.grownBy W2 (some w.heap.size)) (hc : ClkAt W2 w.heap.size f.y f.m f.d (numV x) (numV (time2 x)) (numV (time2 (time2 x)))) (hn : nextF f x = { f with ht := true, h := numV x, n := numV (time2 x), s := numV (time2 (time2 x)) }) : CkAt w (W2.setCell ⟨w.heap.size + 1, 0, none⟩ (.bool true)) (nextF f x) := by
  rw [hn]
  have h3 := (h.read hg hc).had0
  dsimp only at h3
  exact h3
theorem CkAt.acc1 {w W W2 : World} {f : Fd} {x : ByteArray} (h : CkAt w W f) (hg : W.grownBy W2 (some w.heap.size)) (hc : ClkAt W2 w.heap.size f.y f.m (numV x) f.h f.n f.s) (hn : nextF f x = { f with hd := true, d := numV x }) : CkAt w (W2.setCell ⟨w.heap.size + 1, 1, none⟩ (.bool true)) (nextF f x) := by
  rw [hn]
  have h3 := (h.read hg hc).had1
  dsimp only at h3
  exact h3
theorem CkAt.acc2 {w W W2 : World} {f : Fd} {x : ByteArray} (h : CkAt w W f) (hg : W.grownBy W2 (some w.heap.size)) (hc : ClkAt W2 w.heap.size f.y (monthN x) f.d f.h f.n f.s) (hn : nextF f x = { f with hm := true, m := monthN x }) : CkAt w (W2.setCell ⟨w.heap.size + 1, 2, none⟩ (.bool true)) (nextF f x) := by
  rw [hn]
  have h3 := (h.read hg hc).had2
  dsimp only at h3
  exact h3
theorem CkAt.acc3 {w W W2 : World} {f : Fd} {x : ByteArray} (h : CkAt w W f) (hg : W.grownBy W2 (some w.heap.size)) (hc : ClkAt W2 w.heap.size (numV x) f.m f.d f.h f.n f.s) (hn : nextF f x = { f with hy := true, y := numV x }) : CkAt w (W2.setCell ⟨w.heap.size + 1, 3, none⟩ (.bool true)) (nextF f x) := by
  rw [hn]
  have h3 := (h.read hg hc).had3
  dsimp only at h3
  exact h3
theorem CkAt.rej {w W W2 : World} {f : Fd} (h : CkAt w W f) (hg : W.grownBy W2 (some w.heap.size)) (hc : ClkAt W2 w.heap.size f.y f.m f.d f.h f.n f.s) : CkAt w W2 f := h.read hg hc
/-- Where the words' text lies, and what a round keeps. -/
def KpB (Bs : Nat) (A B : World) : Prop := B.cell? ⟨Bs, 0, none⟩ = A.cell? ⟨Bs, 0, none⟩
theorem words_stops (n : Nat) (hn : 1 ≤ n) (Bs : Nat) (s : ByteArray) (hs : s.size ≤ 9223372036854775806) (w : World) (hB : Bs < w.heap.size) (hc : w.cell? ⟨Bs, 0, none⟩ = some (.string s)) :
    SeqStopsK Fence.wide n Tryd.prog 49 #[.pointer (some ⟨Bs, 0, none⟩)] (fun x : Wd => #[.string x.1]) (KpB Bs) (fun ys => ys.map (·.1) = wordsS s) (fun _ => True) (s.size + 1) w := fun l J Jx W hW _ _ hY h0 =>
  words1_in n hn l Bs s hs J Jx hY W ((hW.cell (p := ⟨Bs, 0, none⟩) hB).trans hc) h0
instance (y m d h n s : Int) : Decidable (vclk y m d h n s) := by unfold vclk vld; infer_instance
/-- What the words of a date tell. -/
def fdV (f : Fd) : Value := if f.allB = true ∧ 1601 ≤ cent f.y ∧ vclk (cent f.y) f.m f.d f.h f.n f.s then .tuple #[.int .i64 (secs (cent f.y) f.m f.d f.h f.n f.s), .bool true] else .tuple #[.int .i64 0, .bool false]
def cookieV (s : ByteArray) : Value := fdV (foundL (wordsS s))
end Go.Proofs.YtngamlikhgilhaaDoor
