/- Taking bytes off both ends of a list: plain facts. -/
import Derived.Test.YtngamlikhgilhaaDoorBytes
namespace Go.Proofs.YtngamlikhgilhaaDoor

/-- Off the end. -/
def rdw (p : UInt8 → Bool) (l : List UInt8) : List UInt8 := (l.reverse.dropWhile p).reverse
theorem rdw_nil (p : UInt8 → Bool) : rdw p [] = [] := rfl
theorem rdw_snoc_yes (p : UInt8 → Bool) (l : List UInt8) (x : UInt8) (h : p x = true) : rdw p (l ++ [x]) = rdw p l := by
  simp [rdw, h]
theorem rdw_snoc_no (p : UInt8 → Bool) (l : List UInt8) (x : UInt8) (h : p x = false) : rdw p (l ++ [x]) = l ++ [x] := by
  simp [rdw, h]
theorem rdw_cons (p : UInt8 → Bool) (x : UInt8) (l : List UInt8) : rdw p (x :: l) = if rdw p l = [] then (if p x then [] else [x]) else x :: rdw p l := by
  unfold rdw
  rw [List.reverse_cons, List.dropWhile_append]
  cases h : (List.dropWhile p l.reverse)
  · simp [List.dropWhile_cons]
    cases p x <;> simp
  · simp
theorem dw_rdw (p : UInt8 → Bool) (l : List UInt8) : (rdw p l).dropWhile p = rdw p (l.dropWhile p) := by
  induction l with
  | nil => rfl
  | cons x l ih =>
    rw [rdw_cons]
    cases hx : p x
    · rw [List.dropWhile_cons_of_neg (by simp [hx]), rdw_cons]
      by_cases h : rdw p l = []
      · simp [h, hx]
      · simp [h, hx]
    · rw [List.dropWhile_cons_of_pos hx, ← ih]
      by_cases h : rdw p l = []
      · simp [h]
      · simp [h, hx]
theorem rdw_append_yes (p : UInt8 → Bool) (l m : List UInt8) (h : ∀ x ∈ m, p x = true) : rdw p (l ++ m) = rdw p l := by
  unfold rdw
  rw [List.reverse_append, List.dropWhile_append_of_pos (by simpa using h)]
theorem dw_append_yes (p : UInt8 → Bool) (l m : List UInt8) (h : ∀ x ∈ l, p x = true) : (l ++ m).dropWhile p = m.dropWhile p := List.dropWhile_append_of_pos h
theorem dw_dw (p : UInt8 → Bool) (l : List UInt8) : (l.dropWhile p).dropWhile p = l.dropWhile p := by
  induction l with
  | nil => rfl
  | cons x l ih =>
    cases hx : p x
    · rw [List.dropWhile_cons_of_neg (by simp [hx]), List.dropWhile_cons_of_neg (by simp [hx])]
    · rw [List.dropWhile_cons_of_pos hx, ih]
theorem rdw_rdw (p : UInt8 → Bool) (l : List UInt8) : rdw p (rdw p l) = rdw p l := by
  unfold rdw
  rw [List.reverse_reverse, dw_dw]

/-- A blank. -/
def blk (c : UInt8) : Bool := c == 32 || c == 9
/-- A text without the blanks at its ends. -/
def trimL (l : List UInt8) : List UInt8 := (rdw blk l).dropWhile blk
def trimS (s : ByteArray) : ByteArray := mk (trimL (bs s))
theorem trimL_trimL (l : List UInt8) : trimL (trimL l) = trimL l := by
  unfold trimL
  rw [← dw_rdw, rdw_rdw, dw_dw]
theorem trimL_more (a l b : List UInt8) (ha : ∀ x ∈ a, blk x = true) (hb : ∀ x ∈ b, blk x = true) : trimL (a ++ l ++ b) = trimL l := by
  unfold trimL
  rw [rdw_append_yes _ _ _ hb, dw_rdw, dw_append_yes _ _ _ ha, ← dw_rdw]
theorem trimL_len (l : List UInt8) : (trimL l).length ≤ l.length := by
  unfold trimL rdw
  have h1 := (List.dropWhile_sublist (l := (l.reverse.dropWhile blk).reverse) blk).length_le
  have h2 := (List.dropWhile_sublist (l := l.reverse) blk).length_le
  simp at h1 h2
  omega
end Go.Proofs.YtngamlikhgilhaaDoor
