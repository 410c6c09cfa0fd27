/- Numbers printed in digits, with and without zeros ahead: plain laws. No program. -/
import Derived.Test.YtngamlikhgilhaaDoorDecM
namespace Go.Proofs.YtngamlikhgilhaaDoor

/-- A number's digits. -/
def digL (n : Nat) : List UInt8 := if h : n < 10 then [UInt8.ofNat (48 + n)] else digL (n / 10) ++ [UInt8.ofNat (48 + n % 10)]
termination_by n
theorem digL_lt {n : Nat} (h : n < 10) : digL n = [UInt8.ofNat (48 + n)] := by rw [digL]; exact dif_pos h
theorem digL_ge {n : Nat} (h : 10 ≤ n) : digL n = digL (n / 10) ++ [UInt8.ofNat (48 + n % 10)] := by rw [digL]; exact dif_neg (by omega)
theorem digL_pos (n : Nat) : 0 < (digL n).length := by
  by_cases h : n < 10
  · rw [digL_lt h]; exact Nat.zero_lt_one
  · rw [digL_ge (by omega), List.length_append]; exact Nat.lt_of_lt_of_le Nat.zero_lt_one (Nat.le_add_left _ _)
theorem digL_len (w n : Nat) (hw : 0 < w) (h : n < 10 ^ w) : (digL n).length ≤ w := by
  induction w generalizing n with
  | zero => omega
  | succ w ih =>
    by_cases h1 : n < 10
    · rw [digL_lt h1]; simp
    · rw [digL_ge (by omega), List.length_append]
      have : 0 < w := by
        cases w with
        | zero => simp at h; omega
        | succ w => omega
      have := ih (n / 10) this (by rw [Nat.pow_succ] at h; omega)
      simp
      omega
theorem fixL_zero (w : Nat) : fixL w 0 = List.replicate w 48 := by
  induction w with
  | zero => rfl
  | succ w ih =>
    unfold fixL
    rw [show 0 / 10 = 0 from rfl, ih, List.replicate_succ']
    rfl
theorem fixL_pad (w n : Nat) (h : (digL n).length ≤ w) : fixL w n = List.replicate (w - (digL n).length) 48 ++ digL n := by
  induction w generalizing n with
  | zero => have := digL_pos n; omega
  | succ w ih =>
    unfold fixL
    by_cases h1 : n < 10
    · rw [digL_lt h1, show n / 10 = 0 by omega, fixL_zero, show n % 10 = n by omega]
      simp
    · have h2 := digL_ge (n := n) (by omega)
      have h3 : (digL n).length = (digL (n / 10)).length + 1 := by rw [h2, List.length_append]; rfl
      rw [ih (n / 10) (by omega), h2, ← List.append_assoc]
      congr 2
      rw [← h2, h3]
      simp
/-- A number as a text. -/
def prtS (n : Nat) : ByteArray := mk (digL n)
theorem prt_size (n : Nat) : (prtS n).size = (digL n).length := size_mk _
/-- Zeros ahead of a text. -/
def padS (k : Nat) (s : ByteArray) : ByteArray := mk (List.replicate k 48 ++ bs s)
theorem padS_zero (s : ByteArray) : padS 0 s = s := rfl
theorem padS_succ (k : Nat) (s : ByteArray) : (⟨#[48]⟩ : ByteArray) ++ padS k s = padS (k + 1) s := by
  apply bs_inj
  rw [bs_append]
  rfl
theorem padS_size (k : Nat) (s : ByteArray) : (padS k s).size = k + s.size := by
  unfold padS
  rw [size_mk, List.length_append, List.length_replicate, size_bs]
theorem fixS_pad (w n : Nat) (h : (digL n).length ≤ w) : fixS w n = padS (w - (digL n).length) (prtS n) := by
  unfold fixS padS prtS
  rw [fixL_pad w n h, bs_mk]
end Go.Proofs.YtngamlikhgilhaaDoor
