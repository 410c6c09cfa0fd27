/- Cookies' dates: words, numbers, times, months; what a row of words tells. Plain definitions and laws. -/
import Derived.Test.YtngamlikhgilhaaDoorDecM
import Derived.Test.YtngamlikhgilhaaDoorLower
namespace Go.Proofs.YtngamlikhgilhaaDoor

/-- Does a byte part words? -/
def partsB (c : Int) : Bool := c == 9 || (decide (32 ≤ c) && decide (c ≤ 47)) || (decide (59 ≤ c) && decide (c ≤ 64)) || (decide (91 ≤ c) && decide (c ≤ 96)) || (decide (123 ≤ c) && decide (c ≤ 126))
/-- The words behind what there is of one. -/
def wordsA (cur : List UInt8) : List UInt8 → List (List UInt8)
  | [] => if cur = [] then [] else [cur]
  | c :: l => if partsB (c.toNat : Int) = true then (if cur = [] then wordsA [] l else cur :: wordsA [] l) else wordsA (cur ++ [c]) l
def wordsS (s : ByteArray) : List ByteArray := (wordsA [] (bs s)).map mk
/-- How many digits a text begins with. -/
def ndig (w : ByteArray) : Nat := (bs w).findIdx fun c => !digB (c.toNat : Int)
theorem ndig_le (w : ByteArray) : ndig w ≤ w.size := by rw [size_bs]; exact List.findIdx_le_length
theorem ndig_all (w : ByteArray) (k : Nat) (h : k ≤ ndig w) : allD ((bs w).take k) = true := by
  unfold allD
  rw [List.all_eq_true]
  intro x hx
  obtain ⟨i, hi, rfl⟩ := List.getElem_of_mem hx
  have hi2 : i < (bs w).length := by rw [List.length_take] at hi; omega
  have hi3 : i < ndig w := by rw [List.length_take] at hi; omega
  have := List.not_of_lt_findIdx (p := fun c : UInt8 => !digB (c.toNat : Int)) hi3
  rw [List.getElem_take]
  simpa using this
theorem ndig_at (w : ByteArray) (h : ndig w < w.size) : digB (((w[ndig w]'h).toNat : Nat) : Int) = false := by
  have h2 : ndig w < (bs w).length := by rw [← size_bs]; exact h
  have := List.findIdx_getElem (p := fun c : UInt8 => !digB (c.toNat : Int)) (w := h2)
  exact (Bool.not_eq_true' _).mp this
theorem ndig_before (w : ByteArray) (k : Nat) (h : k < ndig w) (h2 : k < w.size) : digB (((w[k]'h2).toNat : Nat) : Int) = true := by
  have := List.not_of_lt_findIdx (p := fun c : UInt8 => !digB (c.toNat : Int)) h
  have h3 : (!digB (((w[k]'h2).toNat : Nat) : Int)) = false := this
  exact (Bool.not_eq_false' _).mp h3
/-- The number of the digits that a text begins with. -/
def numV (w : ByteArray) : Int := decV ((bs w).take (ndig w))
theorem unf_num (w : ByteArray) (h1 : 1 ≤ ndig w) (h2 : ndig w ≤ 18) : unfO (w.extract 0 (ndig w)) = some (numV w) := by
  have hle := ndig_le w
  have e : bs (w.extract 0 (ndig w)) = (bs w).take (ndig w) := by rw [bs_extract, List.drop_zero]
  have hz : (w.extract 0 (ndig w)).size = ndig w := by rw [ByteArray.size_extract]; omega
  rw [unf_yes (by omega) (by omega) (by rw [e]; exact ndig_all w _ (Nat.le_refl _)), e]
  rfl
theorem numV_bd (w : ByteArray) (h : ndig w ≤ 4) : 0 ≤ numV w ∧ numV w ≤ 9999 := by
  have h1 := decV_bd ((bs w).take (ndig w)) (ndig_all w _ (Nat.le_refl _))
  have h2 : (10 : Int) ^ ((bs w).take (ndig w)).length ≤ 10 ^ 4 := by
    exact_mod_cast Nat.pow_le_pow_right (by decide : 0 < 10) (by rw [List.length_take]; omega)
  have h3 : (10 : Int) ^ 4 = 10000 := by decide
  unfold numV
  omega
theorem numV_bd2 (w : ByteArray) (h : ndig w ≤ 2) : 0 ≤ numV w ∧ numV w ≤ 99 := by
  have h1 := decV_bd ((bs w).take (ndig w)) (ndig_all w _ (Nat.le_refl _))
  have h2 : (10 : Int) ^ ((bs w).take (ndig w)).length ≤ 10 ^ 2 := by
    exact_mod_cast Nat.pow_le_pow_right (by decide : 0 < 10) (by rw [List.length_take]; omega)
  have h3 : (10 : Int) ^ 2 = 100 := by decide
  unfold numV
  omega
/-- What is behind a text's digits. -/
def afterD (w : ByteArray) : ByteArray := w.extract (ndig w) w.size
/-- Does a text begin with a colon? -/
def colonB (w : ByteArray) : Bool := (bs w).head? == some 58
def tailS (w : ByteArray) : ByteArray := w.extract 1 w.size
def oneTwo (w : ByteArray) : Bool := decide (1 ≤ ndig w) && decide (ndig w ≤ 2)
def twoFour (w : ByteArray) : Bool := decide (2 ≤ ndig w) && decide (ndig w ≤ 4)
/-- The words of a time. -/
def time2 (w : ByteArray) : ByteArray := tailS (afterD w)
def timeB (w : ByteArray) : Bool := oneTwo w && colonB (afterD w) && (oneTwo (time2 w) && colonB (afterD (time2 w)) && oneTwo (time2 (time2 w)))
/-- The months' names. -/
def monTab : List (List UInt8) := [[106, 97, 110], [102, 101, 98], [109, 97, 114], [97, 112, 114], [109, 97, 121], [106, 117, 110], [106, 117, 108], [97, 117, 103], [115, 101, 112], [111, 99, 116], [110, 111, 118], [100, 101, 99]]
def mon3 (w : ByteArray) : List UInt8 := bs (lowS (w.extract 0 3))
/-- The month of a word; 0: it is none. -/
def monthN (w : ByteArray) : Nat := if w.size < 3 then 0 else if monTab.findIdx (fun t => t == mon3 w) < 12 then monTab.findIdx (fun t => t == mon3 w) + 1 else 0
theorem monthN_le (w : ByteArray) : monthN w ≤ 12 := by unfold monthN; split <;> (try split) <;> omega
/-- What was found so far. -/
structure Fd where
  ht : Bool
  hd : Bool
  hm : Bool
  hy : Bool
  y : Int
  m : Int
  d : Int
  h : Int
  n : Int
  s : Int
def f0 : Fd := ⟨false, false, false, false, 0, 0, 0, 0, 0, 0⟩
def nextF (f : Fd) (w : ByteArray) : Fd :=
  if f.ht = false ∧ timeB w = true then { f with ht := true, h := numV w, n := numV (time2 w), s := numV (time2 (time2 w)) }
  else if f.hd = false ∧ oneTwo w = true then { f with hd := true, d := numV w }
  else if f.hm = false ∧ 0 < monthN w then { f with hm := true, m := monthN w }
  else if f.hy = false ∧ twoFour w = true then { f with hy := true, y := numV w }
  else f
def foundL (l : List ByteArray) : Fd := l.foldl nextF f0
theorem foundL_snoc (l : List ByteArray) (w : ByteArray) : foundL (l ++ [w]) = nextF (foundL l) w := by unfold foundL; rw [List.foldl_append]; rfl
theorem foundL_nil : foundL [] = f0 := rfl
/-- The numbers found are small. -/
structure FdOk (f : Fd) : Prop where
  y0 : 0 ≤ f.y
  y1 : f.y ≤ 9999
  m0 : 0 ≤ f.m
  m1 : f.m ≤ 12
theorem f0_ok : FdOk f0 := ⟨by decide, by decide, by decide, by decide⟩
theorem oneTwo_iff (w : ByteArray) : oneTwo w = true ↔ 1 ≤ ndig w ∧ ndig w ≤ 2 := by simp [oneTwo]
theorem twoFour_iff (w : ByteArray) : twoFour w = true ↔ 2 ≤ ndig w ∧ ndig w ≤ 4 := by simp [twoFour]
theorem nextF_ok {f : Fd} (h : FdOk f) (w : ByteArray) : FdOk (nextF f w) := by
  unfold nextF
  split
  · exact ⟨h.y0, h.y1, h.m0, h.m1⟩
  · split
    · exact ⟨h.y0, h.y1, h.m0, h.m1⟩
    · split
      · have := monthN_le w
        exact ⟨h.y0, h.y1, by show (0 : Int) ≤ (monthN w : Int); omega, by show (monthN w : Int) ≤ 12; omega⟩
      · split
        · rename_i h4
          have := numV_bd w ((twoFour_iff w).1 h4.2).2
          exact ⟨this.1, this.2, h.m0, h.m1⟩
        · exact h
theorem foundL_ok (l : List ByteArray) : FdOk (foundL l) := by
  have : ∀ (l : List ByteArray) (f : Fd), FdOk f → FdOk (l.foldl nextF f) := by
    intro l
    induction l with
    | nil => intro f h; exact h
    | cons w l ih => intro f h; exact ih _ (nextF_ok h w)
  exact this l f0 f0_ok
/-- Of which century a year is. -/
def cent (y : Int) : Int := if 70 ≤ y ∧ y ≤ 99 then y + 1900 else if y ≤ 69 then y + 2000 else y
/-- Has all been found? -/
def Fd.allB (f : Fd) : Bool := f.ht && f.hd && f.hm && f.hy
end Go.Proofs.YtngamlikhgilhaaDoor
