/- Headers: plain laws: blanks more are of no account. -/
import Derived.Test.YtngamlikhgilhaaDoorHdrP
namespace Go.Proofs.YtngamlikhgilhaaDoor
open Go.RowKit

theorem cutL_app {a : List UInt8} (h : ∀ x ∈ a, x ≠ 61) (l : List UInt8) : cutL 61 (a ++ l) = (a ++ (cutL 61 l).1, (cutL 61 l).2) := by
  induction a with
  | nil => rfl
  | cons x a ih =>
    rw [List.cons_append, cutL, if_neg (h x (List.mem_cons_self ..)), ih (fun y hy => h y (List.mem_cons_of_mem _ hy))]
    rfl
theorem cutL_snoc {b : List UInt8} (h : ∀ x ∈ b, x ≠ 61) (l : List UInt8) : cutL 61 (l ++ b) = if (cutL 61 l).2.2 = true then ((cutL 61 l).1, (cutL 61 l).2.1 ++ b, true) else ((cutL 61 l).1 ++ b, [], false) := by
  induction l with
  | nil =>
    rw [if_neg (by decide), List.nil_append]
    have := cutL_app h []
    rw [List.append_nil] at this
    rw [this]
    show (b ++ [], _) = ([] ++ b, _)
    rw [List.append_nil, List.nil_append]
    rfl
  | cons x l ih =>
    rw [List.cons_append, cutL]
    by_cases hx : x = 61
    · rw [if_pos hx, cutL, if_pos hx]
      rfl
    · rw [if_neg hx, ih, cutL, if_neg hx]
      by_cases h2 : (cutL 61 l).2.2 = true
      · rw [if_pos h2, if_pos h2]
      · rw [if_neg h2, if_neg h2]
        rfl
def BlkL (a : List UInt8) : Prop := ∀ x ∈ a, blk x = true
theorem BlkL.ne {a : List UInt8} (h : BlkL a) : ∀ x ∈ a, x ≠ 61 := fun x hx h9 => by
  have := h x hx
  rw [h9] at this
  exact absurd this (by decide)
/-- The same, with blanks around it. -/
def RelB (x y : List UInt8) : Prop := ∃ a b, BlkL a ∧ BlkL b ∧ y = a ++ x ++ b
theorem RelB.same {x y : List UInt8} (h : RelB x y) : hasS (mk y) = hasS (mk x) ∧ nameS (mk y) = nameS (mk x) ∧ valueS (mk y) = valueS (mk x) := by
  obtain ⟨a, b, ha, hb, rfl⟩ := h
  unfold hasS nameS valueS trimS
  rw [bs_mk, bs_mk, bs_mk, bs_mk, bs_mk, bs_mk, List.append_assoc, cutL_app ha.ne, cutL_snoc hb.ne]
  have e0 : BlkL [] := fun x hx => by cases hx
  by_cases h2 : (cutL 61 x).2.2 = true
  · rw [if_pos h2, h2]
    refine ⟨rfl, ?_, ?_⟩
    · have := trimL_more a (cutL 61 x).1 [] ha e0
      rw [List.append_nil] at this
      exact congrArg mk this
    · have := trimL_more [] (cutL 61 x).2.1 b e0 hb
      rw [List.nil_append] at this
      exact congrArg mk this
  · rw [if_neg h2]
    have h3 : (cutL 61 x).2.2 = false := by simpa using h2
    refine ⟨h3.symm, ?_, ?_⟩
    · have := trimL_more a (cutL 61 x).1 b ha hb
      rw [List.append_assoc] at this
      exact congrArg mk this
    · rw [cutL_nil h3]
theorem RelB.step {x y : List UInt8} (h : RelB x y) (now : Int) (p : Hd × Int) : stepH now p y = stepH now p x := by
  unfold stepH
  rw [h.same.2.1, h.same.2.2]
inductive RelL : List (List UInt8) → List (List UInt8) → Prop
  | nil : RelL [] []
  | cons {x y : List UInt8} {l m : List (List UInt8)} : RelB x y → RelL l m → RelL (x :: l) (y :: m)
theorem RelL.fold {l m : List (List UInt8)} (h : RelL l m) (now : Int) (p : Hd × Int) : m.foldl (stepH now) p = l.foldl (stepH now) p := by
  induction h generalizing p with
  | nil => rfl
  | cons h1 _ ih => rw [List.foldl_cons, List.foldl_cons, h1.step, ih]
theorem RelL.par {s t : List UInt8} (h : RelL (segs s) (segs t)) (now : Int) : parP t now = parP s now := by
  unfold parP
  have h0 := segs_ne s
  generalize segs s = l at *
  generalize segs t = m at *
  cases h with
  | nil => exact absurd rfl h0
  | cons h1 h2 =>
    rw [List.headD_cons, List.headD_cons, List.tail_cons, List.tail_cons, h1.same.1, h1.same.2.1, h1.same.2.2]
    split
    · rw [h2.fold]
    · rfl
/-- A byte, with blanks around it if it parts. -/
def sp1 (c : UInt8) : List UInt8 := if c = 59 then [9, 32, 59, 32] else [c]
def spL (l : List UInt8) : List UInt8 := l.flatMap sp1
theorem spL_cons (x : UInt8) (l : List UInt8) : spL (x :: l) = sp1 x ++ spL l := rfl
theorem spL_snoc (l : List UInt8) (c : UInt8) : spL (l ++ [c]) = spL l ++ sp1 c := by
  unfold spL
  rw [List.flatMap_append]
  simp
theorem spL_len (l : List UInt8) : (spL l).length ≤ 4 * l.length := by
  induction l with
  | nil => exact Nat.le_refl _
  | cons x l ih =>
    rw [spL_cons, List.length_append, List.length_cons]
    have : (sp1 x).length ≤ 4 := by unfold sp1; split <;> simp
    omega
theorem sp_segs (l : List UInt8) : ∃ h0 t0 b t1, segs l = h0 :: t0 ∧ segs (spL l ++ [32]) = (h0 ++ b) :: t1 ∧ BlkL b ∧ RelL t0 t1 := by
  induction l with
  | nil => exact ⟨[], [], [32], [], rfl, rfl, by unfold BlkL; decide, .nil⟩
  | cons x l ih =>
    obtain ⟨h0, t0, b, t1, e1, e2, e3, e4⟩ := ih
    by_cases hx : x = 59
    · subst hx
      refine ⟨[], h0 :: t0, [9, 32], (32 :: (h0 ++ b)) :: t1, ?_, ?_, ?_, ?_⟩
      · rw [segs_cons, if_pos rfl, e1]
      · rw [spL_cons]
        show segs (9 :: 32 :: 59 :: 32 :: (spL l ++ [32])) = _
        rw [segs_cons, if_neg (by decide), segs_cons, if_neg (by decide), segs_cons, if_pos rfl, segs_cons, if_neg (by decide), e2]
        rfl
      · unfold BlkL; decide
      · exact .cons ⟨[32], b, by unfold BlkL; decide, e3, rfl⟩ e4
    · refine ⟨x :: h0, t0, b, t1, ?_, ?_, e3, e4⟩
      · rw [segs_cons, if_neg hx, e1]
        rfl
      · rw [spL_cons, show sp1 x = [x] from if_neg hx]
        show segs (x :: (spL l ++ [32])) = _
        rw [segs_cons, if_neg hx, e2]
        rfl
theorem par_spaced (s t : ByteArray) (now : Int) (h : bs t = 32 :: 9 :: (spL (bs s) ++ [32])) : parH t now = parH s now := by
  rw [par_P, par_P, h]
  obtain ⟨h0, t0, b, t1, e1, e2, e3, e4⟩ := sp_segs (bs s)
  have : RelL (segs (bs s)) (segs (32 :: 9 :: (spL (bs s) ++ [32]))) := by
    rw [segs_cons, if_neg (by decide), segs_cons, if_neg (by decide), e1, e2]
    exact .cons ⟨[32, 9], b, by unfold BlkL; decide, e3, rfl⟩ e4
  rw [this.par]
end Go.Proofs.YtngamlikhgilhaaDoor
