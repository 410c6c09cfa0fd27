/- Ten cells of a struct by value: what lies there, what is written, what stays. -/
import Derived.Test.YtfbildneagjccaaDateX
import Derived.Test.YtfbildneagjccaaDateF
import Derived.Deep.MidRow
namespace Go.Proofs.Ytfbildneagjccaa
open Go.RowKit

def fdL (f : Fd) : List Value := [.bool f.ht, .bool f.hd, .bool f.hm, .bool f.hy, .int .i64 f.y, .int .i64 f.m, .int .i64 f.d, .int .i64 f.h, .int .i64 f.n, .int .i64 f.s]
def fdA (f : Fd) : Value := .agg (fdL f).toArray
theorem fdL_one (f : Fd) : (fdL f).toArray.all (·.oneCell') = true := all_oneCell_toArray (fun v hv => by
  simp only [fdL, List.mem_cons, List.not_mem_nil, or_false] at hv
  rcases hv with rfl | rfl | rfl | rfl | rfl | rfl | rfl | rfl | rfl | rfl <;> rfl)
theorem range_keep {w w' : World} {b o N : Nat} {cs : List Value} (h : w.rangeAt b o cs) (hb : Below N w w') (hN : b < N) : w'.rangeAt b o cs := fun j v hv => (hb.cell (p := ⟨b, o + j, none⟩) hN).trans (h j v hv)
theorem there_keep {w w' : World} {b o N n : Nat} (h : w.there b o n) (hb : Below N w w') (hN : b < N) : w'.there b o n := fun j hj => by
  rw [hb.cell (p := ⟨b, o + j, none⟩) hN, hb.frozen (p := ⟨b, o + j, none⟩) hN]
  exact h j hj
theorem range_set {w : World} {b : Nat} {cs : List Value} (h : w.rangeAt b 0 cs) (j : Nat) (v : Value) : (w.setCell ⟨b, j, none⟩ v).rangeAt b 0 (cs.set j v) := fun i x hx => by
  rw [Nat.zero_add]
  by_cases e : j = i
  · subst e
    have hj : j < cs.length := by
      have := (List.getElem?_eq_some_iff.1 hx).1
      simpa using this
    rw [List.getElem?_set_self hj] at hx
    cases hx
    have h1 := h j _ (List.getElem?_eq_getElem hj)
    rw [Nat.zero_add] at h1
    exact World.cell?_setCell_same _ _ _ h1
  · rw [List.getElem?_set_ne e] at hx
    rw [World.cell?_setCell_other _ _ _ _ (by intro h9; injection h9 with _ h8 _; exact e h8)]
    have h1 := h i x hx
    rwa [Nat.zero_add] at h1
theorem range_set_apart {w : World} {b b' o : Nat} {cs : List Value} (h : w.rangeAt b o cs) (hn : b' ≠ b) (j : Nat) (v : Value) : (w.setCell ⟨b', j, none⟩ v).rangeAt b o cs := fun i x hx => by
  rw [World.cell?_setCell_other _ _ _ _ (by intro h9; injection h9 with h8; exact hn h8)]
  exact h i x hx
theorem there_set {w : World} {b o n : Nat} (h : w.there b o n) (a : Addr) (v : Value) : (w.setCell a v).there b o n := fun j hj => by
  refine ⟨?_, by rw [World.frozen?_setCell]; exact (h j hj).2⟩
  obtain ⟨u, hu⟩ := Option.isSome_iff_exists.1 (h j hj).1
  by_cases e : a = ⟨b, o + j, none⟩
  · subst e; rw [World.cell?_setCell_same _ _ _ hu]; rfl
  · rw [World.cell?_setCell_other _ _ _ _ e, hu]; rfl
theorem Below.setCells {n b : Nat} {w : World} (hb : n ≤ b) : ∀ (vs : List Value) (o : Nat) (W : World), Below n w W → Below n w (W.setCells b o vs)
  | [], _, _, h => h
  | v :: r, o, W, h => by
    rw [World.setCells]
    exact Below.setCells hb r (o + 1) _ (h.setCell hb v)
theorem cellNew (w : World) (cs : List Value) (t : TypeId) (j : Nat) : (w.alloc (.cells cs.toArray t)).cell? ⟨w.heap.size, j, none⟩ = cs[j]? := by
  rw [World.cell?_alloc_new]
  simp
theorem range_new (w : World) (cs : List Value) (t : TypeId) : (w.alloc (.cells cs.toArray t)).rangeAt w.heap.size 0 cs := fun j v hv => by rw [Nat.zero_add, cellNew]; exact hv
theorem there_new (w : World) (cs : List Value) (t : TypeId) : (w.alloc (.cells cs.toArray t)).there w.heap.size 0 cs.length := fun j hj => by
  rw [Nat.zero_add, cellNew, List.getElem?_eq_getElem hj]
  exact ⟨rfl, by go_simp⟩
theorem range_at {w : World} {b : Nat} {f : Fd} (h : w.rangeAt b 0 (fdL f)) : w.cell? ⟨b, 0, none⟩ = some (.bool f.ht) ∧ w.cell? ⟨b, 1, none⟩ = some (.bool f.hd) ∧ w.cell? ⟨b, 2, none⟩ = some (.bool f.hm) ∧ w.cell? ⟨b, 3, none⟩ = some (.bool f.hy) ∧ w.cell? ⟨b, 4, none⟩ = some (.int .i64 f.y) ∧
   w.cell? ⟨b, 5, none⟩ = some (.int .i64 f.m) ∧ w.cell? ⟨b, 6, none⟩ = some (.int .i64 f.d) ∧ w.cell? ⟨b, 7, none⟩ = some (.int .i64 f.h) ∧ w.cell? ⟨b, 8, none⟩ = some (.int .i64 f.n) ∧ w.cell? ⟨b, 9, none⟩ = some (.int .i64 f.s) :=
  ⟨h 0 _ rfl, h 1 _ rfl, h 2 _ rfl, h 3 _ rfl, h 4 _ rfl, h 5 _ rfl, h 6 _ rfl, h 7 _ rfl, h 8 _ rfl, h 9 _ rfl⟩
theorem there_at {w : World} {b : Nat} (h : w.there b 0 10) : w.frozen? ⟨b, 0, none⟩ = false ∧ w.frozen? ⟨b, 1, none⟩ = false ∧ w.frozen? ⟨b, 2, none⟩ = false ∧ w.frozen? ⟨b, 3, none⟩ = false ∧ w.frozen? ⟨b, 4, none⟩ = false ∧
   w.frozen? ⟨b, 5, none⟩ = false ∧ w.frozen? ⟨b, 6, none⟩ = false ∧ w.frozen? ⟨b, 7, none⟩ = false ∧ w.frozen? ⟨b, 8, none⟩ = false ∧ w.frozen? ⟨b, 9, none⟩ = false :=
  ⟨(h 0 (by decide)).2, (h 1 (by decide)).2, (h 2 (by decide)).2, (h 3 (by decide)).2, (h 4 (by decide)).2, (h 5 (by decide)).2, (h 6 (by decide)).2, (h 7 (by decide)).2, (h 8 (by decide)).2, (h 9 (by decide)).2⟩
/-- Two rows of ten cells: the given one, to be read; the result's, to be written. -/
structure FF (w W : World) (f : Fd) : Prop where
  rd : W.rangeAt w.heap.size 0 (fdL f)
  wr : W.there w.heap.size 0 10
  res : W.there (w.heap.size + 1) 0 10
  bel : Below w.heap.size w W
  sz : w.heap.size + 2 ≤ W.heap.size
theorem FF.set {w W : World} {f g : Fd} (h : FF w W f) (j : Nat) (v : Value) (hg : (fdL f).set j v = fdL g) : FF w (W.setCell ⟨w.heap.size, j, none⟩ v) g :=
  ⟨hg ▸ range_set h.rd j v, there_set h.wr _ _, there_set h.res _ _, h.bel.setCell (Nat.le_refl _) _, by rw [World.size_setCell]; exact h.sz⟩
theorem FF.keep {w W W' : World} {f : Fd} (h : FF w W f) (hb : Below W.heap.size W W') : FF w W' f := by
  have := h.sz
  exact ⟨range_keep h.rd hb (by omega), there_keep h.wr hb (by omega), there_keep h.res hb (by omega), Bsnoc h.bel hb, Nat.le_trans h.sz hb.size⟩
theorem FF.new (w : World) (f g : Fd) (t : TypeId) : FF w ((w.alloc (.cells (fdL f).toArray t)).alloc (.cells (fdL g).toArray t)) f := by
  have b0 := (Below.refl w.heap.size w).alloc (Nat.le_refl _) (.cells (fdL f).toArray t)
  have s0 : (w.alloc (.cells (fdL f).toArray t)).heap.size = w.heap.size + 1 := World.size_alloc ..
  have b1 := (Below.refl (w.heap.size + 1) (w.alloc (.cells (fdL f).toArray t))).alloc (by rw [s0]; exact Nat.le_refl _) (.cells (fdL g).toArray t)
  have t1 := there_new (w.alloc (.cells (fdL f).toArray t)) (fdL g) t
  rw [s0] at t1
  exact ⟨range_keep (range_new w (fdL f) _) b1 (by omega), there_keep (there_new w (fdL f) _) b1 (by omega), t1, b0.alloc (by rw [s0]; omega) _, by rw [World.size_alloc, s0]; exact Nat.le_refl _⟩
theorem loadF {W : World} {b : Nat} {f : Fd} (h : W.rangeAt b 0 (fdL f)) : (loadVar 46 ⟨b, 0, none⟩).run Try.prog W = .ok (fdA f) W := by
  have hu : (Try.prog.underlying 46).elim false TypeDesc.isRow = true := by kernel_rfl
  cases h1 : Try.prog.underlying 46 with
  | none => rw [h1] at hu; cases hu
  | some d =>
    rw [h1] at hu
    exact run_loadVar_mid W b 0 _ (fdL f) d h h1 hu (by kernel_rfl)
theorem storeF {W : World} {b : Nat} (f : Fd) (h : W.there b 0 10) : (storeVar 46 ⟨b, 0, none⟩ (fdA f)).run Try.prog W = .ok () (W.setCells b 0 (fdL f)) :=
  run_storeVar_mid W b 0 _ (fdL f).toArray h (by kernel_rfl) (fdL_one f)
theorem loadOpF {ops : Array Oper} {rest : List Oper} {op : Oper} {a : Act} {W : World} {Q : Exit → Act → World → Prop} {b : Nat} {f : Fd} (h : W.rangeAt b 0 (fdL f)) (hgd : op.guard = none) (x : Operand) (ho : op.op = .load 46 x)
    (hx : a.eval x = .pointer (some ⟨b, 0, none⟩)) (hk : wpList Try.prog ops Q rest (a.put op.dst (fdA f)) W) : wpList Try.prog ops Q (op :: rest) a W := by
  have hu : (Try.prog.underlying 46).elim false TypeDesc.isRow = true := by kernel_rfl
  cases h1 : Try.prog.underlying 46 with
  | none => rw [h1] at hu; cases hu
  | some d =>
    rw [h1] at hu
    exact wpList_load_mid hgd _ x ho b 0 hx (fdL f) d h h1 hu (by kernel_rfl) hk
theorem storeOpF {ops : Array Oper} {rest : List Oper} {op : Oper} {a : Act} {W : World} {Q : Exit → Act → World → Prop} {b : Nat} {f : Fd} (h : W.there b 0 10) (hgd : op.guard = none) (x y : Operand) (ho : op.op = .store 46 x y)
    (hx : a.eval x = .pointer (some ⟨b, 0, none⟩)) (hy : a.eval y = fdA f) (hk : wpList Try.prog ops Q rest (a.put op.dst undef) (W.setCells b 0 (fdL f))) : wpList Try.prog ops Q (op :: rest) a W :=
  wpList_store_mid hgd _ x y ho b 0 (fdL f).toArray hx hy h (by kernel_rfl) (fdL_one f) hk
end Go.Proofs.Ytfbildneagjccaa
