/- Numbers in digits: plain laws. No program. -/
import Derived.Test.YtngamlikhgilhaaDoorBytes
namespace Go.Proofs.YtngamlikhgilhaaDoor

/-- Is a byte a digit? -/
def digB (c : Int) : Bool := decide (48 ≤ c) && decide (c ≤ 57)
theorem dig_iff {c : Int} : digB c = true ↔ 48 ≤ c ∧ c ≤ 57 := by simp [digB]
theorem dig_no {c : Int} : digB c = false ↔ c < 48 ∨ 57 < c := by
  rw [← Bool.not_eq_true, dig_iff]; omega
/-- What digits tell. -/
def decV (l : List UInt8) : Int := l.foldl (fun n c => 10 * n + ((c.toNat : Int) - 48)) 0
theorem decV_nil : decV [] = 0 := rfl
theorem decV_snoc (l : List UInt8) (c : UInt8) : decV (l ++ [c]) = 10 * decV l + ((c.toNat : Int) - 48) := by
  unfold decV
  rw [List.foldl_append]
  rfl
def allD (l : List UInt8) : Bool := l.all fun c => digB (c.toNat : Int)
theorem decV_acc (l : List UInt8) (n : Int) (h0 : 0 ≤ n) (h : allD l = true) : 0 ≤ l.foldl (fun n c => 10 * n + ((c.toNat : Int) - 48)) n ∧ l.foldl (fun n c => 10 * n + ((c.toNat : Int) - 48)) n < (n + 1) * 10 ^ l.length := by
  induction l generalizing n with
  | nil => simp only [List.foldl_nil, List.length_nil, Int.pow_zero, Int.mul_one]; omega
  | cons c l ih =>
    unfold allD at h ih
    rw [List.all_cons, Bool.and_eq_true] at h
    have h1 := dig_iff.1 h.1
    have h2 := ih (10 * n + ((c.toNat : Int) - 48)) (by omega) h.2
    rw [List.foldl_cons]
    refine ⟨h2.1, Int.lt_of_lt_of_le h2.2 ?_⟩
    rw [List.length_cons, Int.pow_succ, Int.mul_comm (10 ^ l.length) 10, ← Int.mul_assoc]
    exact Int.mul_le_mul_of_nonneg_right (by omega) (Int.pow_nonneg (by decide))
theorem decV_bd (l : List UInt8) (h : allD l = true) : 0 ≤ decV l ∧ decV l < 10 ^ l.length := by
  have := decV_acc l 0 (by decide) h
  rw [Int.zero_add, Int.one_mul] at this
  exact this
theorem ten18 (n : Nat) (h : n ≤ 18) : (10 : Int) ^ n ≤ 1000000000000000000 := by
  have h1 : (10 : Int) ^ 18 = 1000000000000000000 := by decide
  rw [← h1]
  exact_mod_cast Nat.pow_le_pow_right (by decide : 0 < 10) h
theorem decV_18 (l : List UInt8) (h : allD l = true) (hl : l.length ≤ 18) : 0 ≤ decV l ∧ decV l < 1000000000000000000 := by
  have := decV_bd l h
  have := ten18 _ hl
  omega
theorem decV_17 (l : List UInt8) (h : allD l = true) (hl : l.length ≤ 17) : 0 ≤ decV l ∧ decV l < 100000000000000000 := by
  have h0 := decV_bd l h
  have h1 : (10 : Int) ^ 17 = 100000000000000000 := by decide
  have h2 : (10 : Int) ^ l.length ≤ 10 ^ 17 := by exact_mod_cast Nat.pow_le_pow_right (by decide : 0 < 10) hl
  omega
/-- The number of a text of digits. -/
def unfO (s : ByteArray) : Option Int := if 1 ≤ s.size ∧ s.size ≤ 18 ∧ allD (bs s) = true then some (decV (bs s)) else none
theorem unf_size {s : ByteArray} (h : s.size < 1 ∨ 18 < s.size) : unfO s = none := if_neg (by omega)
theorem unf_no {s : ByteArray} (h : allD (bs s) = false) : unfO s = none := if_neg (by rw [h]; simp)
theorem unf_yes {s : ByteArray} (h1 : 1 ≤ s.size) (h2 : s.size ≤ 18) (h : allD (bs s) = true) : unfO s = some (decV (bs s)) := if_pos ⟨h1, h2, h⟩
theorem take_snoc (s : ByteArray) (k : Nat) (h : k < s.size) : (bs s).take (k + 1) = (bs s).take k ++ [s[k]] := by
  rw [List.take_succ_eq_append_getElem (by rw [← size_bs]; exact h)]
  rfl
theorem allD_snoc (s : ByteArray) (k : Nat) (h : k < s.size) : allD ((bs s).take (k + 1)) = (allD ((bs s).take k) && digB ((s[k]).toNat : Int)) := by
  rw [take_snoc s k h]
  unfold allD
  rw [List.all_append]
  simp
theorem allD_at (s : ByteArray) (k : Nat) (h : k < s.size) (hb : digB ((s[k]).toNat : Int) = false) : allD (bs s) = false := by
  unfold allD
  rw [List.all_eq_false]
  exact ⟨s[k], by exact List.getElem_mem (l := bs s) (by rw [← size_bs]; exact h), by rw [hb]; simp⟩

/-- So many digits of a number. -/
def fixL : Nat → Nat → List UInt8
  | 0, _ => []
  | w + 1, n => fixL w (n / 10) ++ [UInt8.ofNat (48 + n % 10)]
theorem fixL_len (w n : Nat) : (fixL w n).length = w := by
  induction w generalizing n with
  | zero => rfl
  | succ w ih => unfold fixL; rw [List.length_append, ih]; rfl
theorem dig_of (n : Nat) : (UInt8.ofNat (48 + n % 10)).toNat = 48 + n % 10 := by
  rw [UInt8.toNat_ofNat']
  omega
theorem fixL_dig (w n : Nat) : allD (fixL w n) = true := by
  induction w generalizing n with
  | zero => rfl
  | succ w ih =>
    unfold fixL allD
    rw [List.all_append, Bool.and_eq_true]
    refine ⟨ih _, ?_⟩
    simp only [List.all_cons, List.all_nil, Bool.and_true, dig_of]
    rw [dig_iff]
    omega
theorem fixL_val (w n : Nat) (h : n < 10 ^ w) : decV (fixL w n) = n := by
  induction w generalizing n with
  | zero => have : n = 0 := by simpa using h
            subst this; rfl
  | succ w ih =>
    unfold fixL
    rw [decV_snoc, ih (n / 10) (by rw [Nat.pow_succ] at h; omega), dig_of]
    omega
def fixS (w n : Nat) : ByteArray := mk (fixL w n)
theorem fixS_size (w n : Nat) : (fixS w n).size = w := by unfold fixS; rw [size_mk, fixL_len]
end Go.Proofs.YtngamlikhgilhaaDoor
