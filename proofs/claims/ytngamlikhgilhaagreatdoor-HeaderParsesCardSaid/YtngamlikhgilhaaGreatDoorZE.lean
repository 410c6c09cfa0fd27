/- Cookies' dates: words, numbers, times, months; what a row of words tells. Plain definitions and laws. -/
import Derived.Test.YtngamlikhgilhaaGreatDoorZD
import Derived.Test.YtngamlikhgilhaaGreatDoorZA
import Derived.Deep.QuietTactic
import Derived.BigQuiet
import Derived.RegionTactic
import Derived.ChangeAlike
import Derived.BigRegion
import Derived.Maps.AppendAt
import Derived.RangeFuncNested
import Derived.RangeFuncBound
import Derived.RangeFuncCalls
import Derived.RangeFuncLeaves
import Derived.OwnWalkIn
import Derived.TacticsInMore
import Derived.LoopNIn
import Derived.LoopIn
import Derived.Test.YtngamlikhgilhaaGreatDoorZC
import Derived.Deep.AppendLies
namespace Go.Proofs.YtngamlikhgilhaaGreatDoor

/-- Does a byte part words? -/
def partsB (c : Int) : Bool := c == 9 || (decide (32 ≤ c) && decide (c ≤ 47)) || (decide (59 ≤ c) && decide (c ≤ 64)) || (decide (91 ≤ c) && decide (c ≤ 96)) || (decide (123 ≤ c) && decide (c ≤ 126))
/-- The words behind what there is of one. -/
def wordsA (cur : List UInt8) : List UInt8 → List (List UInt8)
  | [] => if cur = [] then [] else [cur]
  | c :: l => if partsB (c.toNat : Int) = true then (if cur = [] then wordsA [] l else cur :: wordsA [] l) else wordsA (cur ++ [c]) l
def wordsS (s : ByteArray) : List ByteArray := (wordsA [] (bs s)).map mk
/-- How many digits a text begins with. -/
def ndig (w : ByteArray) : Nat := (bs w).findIdx fun c => !digB (c.toNat : Int)
theorem ndig_le (w : ByteArray) : ndig w ≤ w.size := by rw [size_bs]; exact List.findIdx_le_length
theorem ndig_all (w : ByteArray) (k : Nat) (h : k ≤ ndig w) : allD ((bs w).take k) = true := by
  unfold allD
  rw [List.all_eq_true]
  intro x hx
  obtain ⟨i, hi, rfl⟩ := List.getElem_of_mem hx
  have hi2 : i < (bs w).length := by rw [List.length_take] at hi; omega
  have hi3 : i < ndig w := by rw [List.length_take] at hi; omega
  have := List.not_of_lt_findIdx (p := fun c : UInt8 => !digB (c.toNat : Int)) hi3
  rw [List.getElem_take]
  simpa using this
theorem ndig_at (w : ByteArray) (h : ndig w < w.size) : digB (((w[ndig w]'h).toNat : Nat) : Int) = false := by
  have h2 : ndig w < (bs w).length := by rw [← size_bs]; exact h
  have := List.findIdx_getElem (p := fun c : UInt8 => !digB (c.toNat : Int)) (w := h2)
  exact (Bool.not_eq_true' _).mp this
theorem ndig_before (w : ByteArray) (k : Nat) (h : k < ndig w) (h2 : k < w.size) : digB (((w[k]'h2).toNat : Nat) : Int) = true := by
  have := List.not_of_lt_findIdx (p := fun c : UInt8 => !digB (c.toNat : Int)) h
  have h3 : (!digB (((w[k]'h2).toNat : Nat) : Int)) = false := this
  exact (Bool.not_eq_false' _).mp h3
/-- The number of the digits that a text begins with. -/
def numV (w : ByteArray) : Int := decV ((bs w).take (ndig w))
theorem unf_num (w : ByteArray) (h1 : 1 ≤ ndig w) (h2 : ndig w ≤ 18) : unfO (w.extract 0 (ndig w)) = some (numV w) := by
  have hle := ndig_le w
  have e : bs (w.extract 0 (ndig w)) = (bs w).take (ndig w) := by rw [bs_extract, List.drop_zero]
  have hz : (w.extract 0 (ndig w)).size = ndig w := by rw [ByteArray.size_extract]; omega
  rw [unf_yes (by omega) (by omega) (by rw [e]; exact ndig_all w _ (Nat.le_refl _)), e]
  rfl
theorem numV_bd (w : ByteArray) (h : ndig w ≤ 4) : 0 ≤ numV w ∧ numV w ≤ 9999 := by
  have h1 := decV_bd ((bs w).take (ndig w)) (ndig_all w _ (Nat.le_refl _))
  have h2 : (10 : Int) ^ ((bs w).take (ndig w)).length ≤ 10 ^ 4 := by
    exact_mod_cast Nat.pow_le_pow_right (by decide : 0 < 10) (by rw [List.length_take]; omega)
  have h3 : (10 : Int) ^ 4 = 10000 := by decide
  unfold numV
  omega
theorem numV_bd2 (w : ByteArray) (h : ndig w ≤ 2) : 0 ≤ numV w ∧ numV w ≤ 99 := by
  have h1 := decV_bd ((bs w).take (ndig w)) (ndig_all w _ (Nat.le_refl _))
  have h2 : (10 : Int) ^ ((bs w).take (ndig w)).length ≤ 10 ^ 2 := by
    exact_mod_cast Nat.pow_le_pow_right (by decide : 0 < 10) (by rw [List.length_take]; omega)
  have h3 : (10 : Int) ^ 2 = 100 := by decide
  unfold numV
  omega
/-- What is behind a text's digits. -/
def afterD (w : ByteArray) : ByteArray := w.extract (ndig w) w.size
/-- Does a text begin with a colon? -/
def colonB (w : ByteArray) : Bool := (bs w).head? == some 58
def tailS (w : ByteArray) : ByteArray := w.extract 1 w.size
def oneTwo (w : ByteArray) : Bool := decide (1 ≤ ndig w) && decide (ndig w ≤ 2)
def twoFour (w : ByteArray) : Bool := decide (2 ≤ ndig w) && decide (ndig w ≤ 4)
/-- The words of a time. -/
def time2 (w : ByteArray) : ByteArray := tailS (afterD w)
def timeB (w : ByteArray) : Bool := oneTwo w && colonB (afterD w) && (oneTwo (time2 w) && colonB (afterD (time2 w)) && oneTwo (time2 (time2 w)))
/-- The months' names. -/
def monTab : List (List UInt8) := [[106, 97, 110], [102, 101, 98], [109, 97, 114], [97, 112, 114], [109, 97, 121], [106, 117, 110], [106, 117, 108], [97, 117, 103], [115, 101, 112], [111, 99, 116], [110, 111, 118], [100, 101, 99]]
def mon3 (w : ByteArray) : List UInt8 := bs (lowS (w.extract 0 3))
/-- The month of a word; 0: it is none. -/
def monthN (w : ByteArray) : Nat := if w.size < 3 then 0 else if monTab.findIdx (fun t => t == mon3 w) < 12 then monTab.findIdx (fun t => t == mon3 w) + 1 else 0
theorem monthN_le (w : ByteArray) : monthN w ≤ 12 := by unfold monthN; split <;> (try split) <;> omega
/-- What was found so far. -/
structure Fd where
  ht : Bool
  hd : Bool
  hm : Bool
  hy : Bool
  y : Int
  m : Int
  d : Int
  h : Int
  n : Int
  s : Int
def f0 : Fd := ⟨false, false, false, false, 0, 0, 0, 0, 0, 0⟩
def nextF (f : Fd) (w : ByteArray) : Fd :=
  if f.ht = false ∧ timeB w = true then { f with ht := true, h := numV w, n := numV (time2 w), s := numV (time2 (time2 w)) }
  else if f.hd = false ∧ oneTwo w = true then { f with hd := true, d := numV w }
  else if f.hm = false ∧ 0 < monthN w then { f with hm := true, m := monthN w }
  else if f.hy = false ∧ twoFour w = true then { f with hy := true, y := numV w }
  else f
def foundL (l : List ByteArray) : Fd := l.foldl nextF f0
theorem foundL_snoc (l : List ByteArray) (w : ByteArray) : foundL (l ++ [w]) = nextF (foundL l) w := by unfold foundL; rw [List.foldl_append]; rfl
theorem foundL_nil : foundL [] = f0 := rfl
/-- The numbers found are small. -/
structure FdOk (f : Fd) : Prop where
  y0 : 0 ≤ f.y
  y1 : f.y ≤ 9999
  m0 : 0 ≤ f.m
  m1 : f.m ≤ 12
theorem f0_ok : FdOk f0 := ⟨by decide, by decide, by decide, by decide⟩
theorem oneTwo_iff (w : ByteArray) : oneTwo w = true ↔ 1 ≤ ndig w ∧ ndig w ≤ 2 := by simp [oneTwo]
theorem twoFour_iff (w : ByteArray) : twoFour w = true ↔ 2 ≤ ndig w ∧ ndig w ≤ 4 := by simp [twoFour]
theorem nextF_ok {f : Fd} (h : FdOk f) (w : ByteArray) : FdOk (nextF f w) := by
  unfold nextF
  split
  · exact ⟨h.y0, h.y1, h.m0, h.m1⟩
  · split
    · exact ⟨h.y0, h.y1, h.m0, h.m1⟩
    · split
      · have := monthN_le w
        exact ⟨h.y0, h.y1, by show (0 : Int) ≤ (monthN w : Int); omega, by show (monthN w : Int) ≤ 12; omega⟩
      · split
        · rename_i h4
          have := numV_bd w ((twoFour_iff w).1 h4.2).2
          exact ⟨this.1, this.2, h.m0, h.m1⟩
        · exact h
theorem foundL_ok (l : List ByteArray) : FdOk (foundL l) := by
  have : ∀ (l : List ByteArray) (f : Fd), FdOk f → FdOk (l.foldl nextF f) := by
    intro l
    induction l with
    | nil => intro f h; exact h
    | cons w l ih => intro f h; exact ih _ (nextF_ok h w)
  exact this l f0 f0_ok
/-- Of which century a year is. -/
def cent (y : Int) : Int := if 70 ≤ y ∧ y ≤ 99 then y + 1900 else if y ≤ 69 then y + 2000 else y
/-- Has all been found? -/
def Fd.allB (f : Fd) : Bool := f.ht && f.hd && f.hm && f.hy
end Go.Proofs.YtngamlikhgilhaaGreatDoor
/- Contracts: which bytes part words; numbers and months at the beginning of a word. -/
namespace Go.Proofs.YtngamlikhgilhaaGreatDoor
open Go.RowKit

theorem parts_eq {c : Int} {b : Bool} (h : partsB c = b) : Ending.returned (.bool b) = .returned (.bool (partsB c)) := by rw [h]
set_option maxRecDepth 100000 in
theorem parts_any (c : Int) (w : World) : Calls Tryz.prog 90 #[.int .u8 c] w fun e w' => e = .returned (.bool (partsB c)) ∧ w = w' := by
  by_cases h9 : c = 9
  · subst h9
    go_enter Tryz.func90, Tryz.ntmps90
    go_wp2_with fail
    go_ret
    exact ⟨parts_eq (by decide), rfl⟩
  · have h9' : (c == 9) = false := beq_eq_false_iff_ne.2 h9
    have hi : (c < 32) ∨ (32 ≤ c ∧ c ≤ 47) ∨ (48 ≤ c ∧ c ≤ 58) ∨ (59 ≤ c ∧ c ≤ 64) ∨ (65 ≤ c ∧ c ≤ 90) ∨ (91 ≤ c ∧ c ≤ 96) ∨ (97 ≤ c ∧ c ≤ 122) ∨ (123 ≤ c ∧ c ≤ 126) ∨ (127 ≤ c) := by omega
    clear h9
    rcases hi with hi | hi | hi | hi | hi | hi | hi | hi | hi
    · have HV := Lib.hid (show partsB c = false by unfold partsB; rw [h9']; simp; omega)
      have q32 : decide (32 ≤ c) = false := by simp; omega
      have q59 : decide (59 ≤ c) = false := by simp; omega
      have q91 : decide (91 ≤ c) = false := by simp; omega
      have q123 : decide (123 ≤ c) = false := by simp; omega
      have q47 : decide (c ≤ 47) = true := by simp; omega
      have q64 : decide (c ≤ 64) = true := by simp; omega
      have q96 : decide (c ≤ 96) = true := by simp; omega
      have q126 : decide (c ≤ 126) = true := by simp; omega
      clear hi
      go_enter Tryz.func90, Tryz.ntmps90
      go_wp2_with fail
      go_ret
      exact ⟨parts_eq HV.out, rfl⟩
    · have HV := Lib.hid (show partsB c = true by unfold partsB; rw [h9']; simp; omega)
      have q32 : decide (32 ≤ c) = true := by simp; omega
      have q59 : decide (59 ≤ c) = false := by simp; omega
      have q91 : decide (91 ≤ c) = false := by simp; omega
      have q123 : decide (123 ≤ c) = false := by simp; omega
      have q47 : decide (c ≤ 47) = true := by simp; omega
      have q64 : decide (c ≤ 64) = true := by simp; omega
      have q96 : decide (c ≤ 96) = true := by simp; omega
      have q126 : decide (c ≤ 126) = true := by simp; omega
      clear hi
      go_enter Tryz.func90, Tryz.ntmps90
      go_wp2_with fail
      go_ret
      exact ⟨parts_eq HV.out, rfl⟩
    · have HV := Lib.hid (show partsB c = false by unfold partsB; rw [h9']; simp; omega)
      have q32 : decide (32 ≤ c) = true := by simp; omega
      have q59 : decide (59 ≤ c) = false := by simp; omega
      have q91 : decide (91 ≤ c) = false := by simp; omega
      have q123 : decide (123 ≤ c) = false := by simp; omega
      have q47 : decide (c ≤ 47) = false := by simp; omega
      have q64 : decide (c ≤ 64) = true := by simp; omega
      have q96 : decide (c ≤ 96) = true := by simp; omega
      have q126 : decide (c ≤ 126) = true := by simp; omega
      clear hi
      go_enter Tryz.func90, Tryz.ntmps90
      go_wp2_with fail
      go_ret
      exact ⟨parts_eq HV.out, rfl⟩
    · have HV := Lib.hid (show partsB c = true by unfold partsB; rw [h9']; simp; omega)
      have q32 : decide (32 ≤ c) = true := by simp; omega
      have q59 : decide (59 ≤ c) = true := by simp; omega
      have q91 : decide (91 ≤ c) = false := by simp; omega
      have q123 : decide (123 ≤ c) = false := by simp; omega
      have q47 : decide (c ≤ 47) = false := by simp; omega
      have q64 : decide (c ≤ 64) = true := by simp; omega
      have q96 : decide (c ≤ 96) = true := by simp; omega
      have q126 : decide (c ≤ 126) = true := by simp; omega
      clear hi
      go_enter Tryz.func90, Tryz.ntmps90
      go_wp2_with fail
      go_ret
      exact ⟨parts_eq HV.out, rfl⟩
    · have HV := Lib.hid (show partsB c = false by unfold partsB; rw [h9']; simp; omega)
      have q32 : decide (32 ≤ c) = true := by simp; omega
      have q59 : decide (59 ≤ c) = true := by simp; omega
      have q91 : decide (91 ≤ c) = false := by simp; omega
      have q123 : decide (123 ≤ c) = false := by simp; omega
      have q47 : decide (c ≤ 47) = false := by simp; omega
      have q64 : decide (c ≤ 64) = false := by simp; omega
      have q96 : decide (c ≤ 96) = true := by simp; omega
      have q126 : decide (c ≤ 126) = true := by simp; omega
      clear hi
      go_enter Tryz.func90, Tryz.ntmps90
      go_wp2_with fail
      go_ret
      exact ⟨parts_eq HV.out, rfl⟩
    · have HV := Lib.hid (show partsB c = true by unfold partsB; rw [h9']; simp; omega)
      have q32 : decide (32 ≤ c) = true := by simp; omega
      have q59 : decide (59 ≤ c) = true := by simp; omega
      have q91 : decide (91 ≤ c) = true := by simp; omega
      have q123 : decide (123 ≤ c) = false := by simp; omega
      have q47 : decide (c ≤ 47) = false := by simp; omega
      have q64 : decide (c ≤ 64) = false := by simp; omega
      have q96 : decide (c ≤ 96) = true := by simp; omega
      have q126 : decide (c ≤ 126) = true := by simp; omega
      clear hi
      go_enter Tryz.func90, Tryz.ntmps90
      go_wp2_with fail
      go_ret
      exact ⟨parts_eq HV.out, rfl⟩
    · have HV := Lib.hid (show partsB c = false by unfold partsB; rw [h9']; simp; omega)
      have q32 : decide (32 ≤ c) = true := by simp; omega
      have q59 : decide (59 ≤ c) = true := by simp; omega
      have q91 : decide (91 ≤ c) = true := by simp; omega
      have q123 : decide (123 ≤ c) = false := by simp; omega
      have q47 : decide (c ≤ 47) = false := by simp; omega
      have q64 : decide (c ≤ 64) = false := by simp; omega
      have q96 : decide (c ≤ 96) = false := by simp; omega
      have q126 : decide (c ≤ 126) = true := by simp; omega
      clear hi
      go_enter Tryz.func90, Tryz.ntmps90
      go_wp2_with fail
      go_ret
      exact ⟨parts_eq HV.out, rfl⟩
    · have HV := Lib.hid (show partsB c = true by unfold partsB; rw [h9']; simp; omega)
      have q32 : decide (32 ≤ c) = true := by simp; omega
      have q59 : decide (59 ≤ c) = true := by simp; omega
      have q91 : decide (91 ≤ c) = true := by simp; omega
      have q123 : decide (123 ≤ c) = true := by simp; omega
      have q47 : decide (c ≤ 47) = false := by simp; omega
      have q64 : decide (c ≤ 64) = false := by simp; omega
      have q96 : decide (c ≤ 96) = false := by simp; omega
      have q126 : decide (c ≤ 126) = true := by simp; omega
      clear hi
      go_enter Tryz.func90, Tryz.ntmps90
      go_wp2_with fail
      go_ret
      exact ⟨parts_eq HV.out, rfl⟩
    · have HV := Lib.hid (show partsB c = false by unfold partsB; rw [h9']; simp; omega)
      have q32 : decide (32 ≤ c) = true := by simp; omega
      have q59 : decide (59 ≤ c) = true := by simp; omega
      have q91 : decide (91 ≤ c) = true := by simp; omega
      have q123 : decide (123 ≤ c) = true := by simp; omega
      have q47 : decide (c ≤ 47) = false := by simp; omega
      have q64 : decide (c ≤ 64) = false := by simp; omega
      have q96 : decide (c ≤ 96) = false := by simp; omega
      have q126 : decide (c ≤ 126) = false := by simp; omega
      clear hi
      go_enter Tryz.func90, Tryz.ntmps90
      go_wp2_with fail
      go_ret
      exact ⟨parts_eq HV.out, rfl⟩
set_option maxRecDepth 100000 in
theorem rparts_any (c : Int) (w : World) : Calls Tryz.prog 118 #[.int .u8 c] w fun e w' => e = .returned (.bool (partsB c)) ∧ w = w' := by
  by_cases h9 : c = 9
  · subst h9
    go_enter Tryz.func118, Tryz.ntmps118
    go_wp2_with fail
    go_ret
    exact ⟨parts_eq (by decide), rfl⟩
  · have h9' : (c == 9) = false := beq_eq_false_iff_ne.2 h9
    have hi : (c < 32) ∨ (32 ≤ c ∧ c ≤ 47) ∨ (48 ≤ c ∧ c ≤ 58) ∨ (59 ≤ c ∧ c ≤ 64) ∨ (65 ≤ c ∧ c ≤ 90) ∨ (91 ≤ c ∧ c ≤ 96) ∨ (97 ≤ c ∧ c ≤ 122) ∨ (123 ≤ c ∧ c ≤ 126) ∨ (127 ≤ c) := by omega
    clear h9
    rcases hi with hi | hi | hi | hi | hi | hi | hi | hi | hi
    · have HV := Lib.hid (show partsB c = false by unfold partsB; rw [h9']; simp; omega)
      have q32 : decide (32 ≤ c) = false := by simp; omega
      have q59 : decide (59 ≤ c) = false := by simp; omega
      have q91 : decide (91 ≤ c) = false := by simp; omega
      have q123 : decide (123 ≤ c) = false := by simp; omega
      have q47 : decide (c ≤ 47) = true := by simp; omega
      have q64 : decide (c ≤ 64) = true := by simp; omega
      have q96 : decide (c ≤ 96) = true := by simp; omega
      have q126 : decide (c ≤ 126) = true := by simp; omega
      clear hi
      go_enter Tryz.func118, Tryz.ntmps118
      go_wp2_with fail
      go_ret
      exact ⟨parts_eq HV.out, rfl⟩
    · have HV := Lib.hid (show partsB c = true by unfold partsB; rw [h9']; simp; omega)
      have q32 : decide (32 ≤ c) = true := by simp; omega
      have q59 : decide (59 ≤ c) = false := by simp; omega
      have q91 : decide (91 ≤ c) = false := by simp; omega
      have q123 : decide (123 ≤ c) = false := by simp; omega
      have q47 : decide (c ≤ 47) = true := by simp; omega
      have q64 : decide (c ≤ 64) = true := by simp; omega
      have q96 : decide (c ≤ 96) = true := by simp; omega
      have q126 : decide (c ≤ 126) = true := by simp; omega
      clear hi
      go_enter Tryz.func118, Tryz.ntmps118
      go_wp2_with fail
      go_ret
      exact ⟨parts_eq HV.out, rfl⟩
    · have HV := Lib.hid (show partsB c = false by unfold partsB; rw [h9']; simp; omega)
      have q32 : decide (32 ≤ c) = true := by simp; omega
      have q59 : decide (59 ≤ c) = false := by simp; omega
      have q91 : decide (91 ≤ c) = false := by simp; omega
      have q123 : decide (123 ≤ c) = false := by simp; omega
      have q47 : decide (c ≤ 47) = false := by simp; omega
      have q64 : decide (c ≤ 64) = true := by simp; omega
      have q96 : decide (c ≤ 96) = true := by simp; omega
      have q126 : decide (c ≤ 126) = true := by simp; omega
      clear hi
      go_enter Tryz.func118, Tryz.ntmps118
      go_wp2_with fail
      go_ret
      exact ⟨parts_eq HV.out, rfl⟩
    · have HV := Lib.hid (show partsB c = true by unfold partsB; rw [h9']; simp; omega)
      have q32 : decide (32 ≤ c) = true := by simp; omega
      have q59 : decide (59 ≤ c) = true := by simp; omega
      have q91 : decide (91 ≤ c) = false := by simp; omega
      have q123 : decide (123 ≤ c) = false := by simp; omega
      have q47 : decide (c ≤ 47) = false := by simp; omega
      have q64 : decide (c ≤ 64) = true := by simp; omega
      have q96 : decide (c ≤ 96) = true := by simp; omega
      have q126 : decide (c ≤ 126) = true := by simp; omega
      clear hi
      go_enter Tryz.func118, Tryz.ntmps118
      go_wp2_with fail
      go_ret
      exact ⟨parts_eq HV.out, rfl⟩
    · have HV := Lib.hid (show partsB c = false by unfold partsB; rw [h9']; simp; omega)
      have q32 : decide (32 ≤ c) = true := by simp; omega
      have q59 : decide (59 ≤ c) = true := by simp; omega
      have q91 : decide (91 ≤ c) = false := by simp; omega
      have q123 : decide (123 ≤ c) = false := by simp; omega
      have q47 : decide (c ≤ 47) = false := by simp; omega
      have q64 : decide (c ≤ 64) = false := by simp; omega
      have q96 : decide (c ≤ 96) = true := by simp; omega
      have q126 : decide (c ≤ 126) = true := by simp; omega
      clear hi
      go_enter Tryz.func118, Tryz.ntmps118
      go_wp2_with fail
      go_ret
      exact ⟨parts_eq HV.out, rfl⟩
    · have HV := Lib.hid (show partsB c = true by unfold partsB; rw [h9']; simp; omega)
      have q32 : decide (32 ≤ c) = true := by simp; omega
      have q59 : decide (59 ≤ c) = true := by simp; omega
      have q91 : decide (91 ≤ c) = true := by simp; omega
      have q123 : decide (123 ≤ c) = false := by simp; omega
      have q47 : decide (c ≤ 47) = false := by simp; omega
      have q64 : decide (c ≤ 64) = false := by simp; omega
      have q96 : decide (c ≤ 96) = true := by simp; omega
      have q126 : decide (c ≤ 126) = true := by simp; omega
      clear hi
      go_enter Tryz.func118, Tryz.ntmps118
      go_wp2_with fail
      go_ret
      exact ⟨parts_eq HV.out, rfl⟩
    · have HV := Lib.hid (show partsB c = false by unfold partsB; rw [h9']; simp; omega)
      have q32 : decide (32 ≤ c) = true := by simp; omega
      have q59 : decide (59 ≤ c) = true := by simp; omega
      have q91 : decide (91 ≤ c) = true := by simp; omega
      have q123 : decide (123 ≤ c) = false := by simp; omega
      have q47 : decide (c ≤ 47) = false := by simp; omega
      have q64 : decide (c ≤ 64) = false := by simp; omega
      have q96 : decide (c ≤ 96) = false := by simp; omega
      have q126 : decide (c ≤ 126) = true := by simp; omega
      clear hi
      go_enter Tryz.func118, Tryz.ntmps118
      go_wp2_with fail
      go_ret
      exact ⟨parts_eq HV.out, rfl⟩
    · have HV := Lib.hid (show partsB c = true by unfold partsB; rw [h9']; simp; omega)
      have q32 : decide (32 ≤ c) = true := by simp; omega
      have q59 : decide (59 ≤ c) = true := by simp; omega
      have q91 : decide (91 ≤ c) = true := by simp; omega
      have q123 : decide (123 ≤ c) = true := by simp; omega
      have q47 : decide (c ≤ 47) = false := by simp; omega
      have q64 : decide (c ≤ 64) = false := by simp; omega
      have q96 : decide (c ≤ 96) = false := by simp; omega
      have q126 : decide (c ≤ 126) = true := by simp; omega
      clear hi
      go_enter Tryz.func118, Tryz.ntmps118
      go_wp2_with fail
      go_ret
      exact ⟨parts_eq HV.out, rfl⟩
    · have HV := Lib.hid (show partsB c = false by unfold partsB; rw [h9']; simp; omega)
      have q32 : decide (32 ≤ c) = true := by simp; omega
      have q59 : decide (59 ≤ c) = true := by simp; omega
      have q91 : decide (91 ≤ c) = true := by simp; omega
      have q123 : decide (123 ≤ c) = true := by simp; omega
      have q47 : decide (c ≤ 47) = false := by simp; omega
      have q64 : decide (c ≤ 64) = false := by simp; omega
      have q96 : decide (c ≤ 96) = false := by simp; omega
      have q126 : decide (c ≤ 126) = false := by simp; omega
      clear hi
      go_enter Tryz.func118, Tryz.ntmps118
      go_wp2_with fail
      go_ret
      exact ⟨parts_eq HV.out, rfl⟩
def NumP1 (s : ByteArray) (w : World) (e : Ending) (w' : World) : Prop := e = .returned (if oneTwo s = true then .tuple #[.int .i64 (numV s), .string (afterD s), .bool true] else .tuple #[.int .i64 0, .string ⟨#[]⟩, .bool false]) ∧ ∃ n, w' = w.drewN n
set_option maxHeartbeats 1000000 in
set_option maxRecDepth 100000 in
theorem number_1 (s : ByteArray) (w : World) (hs : s.size ≤ 9223372036854775807) : Calls Tryz.prog 50 #[.string s, .int .i64 1, .int .i64 2] w (NumP1 s w) := by
  have hle := ndig_le s
  have HB := Lib.hid (ndig_before s)
  have HA := Lib.hid (ndig_at s)
  have HU := Lib.hid (unf_num s)
  have HNO := Lib.hid (show ¬ (1 ≤ ndig s ∧ ndig s ≤ 2) → NumP1 s w (.returned (.tuple #[.int .i64 0, .string ⟨#[]⟩, .bool false])) w from fun h => ⟨by rw [if_neg (fun h2 => h ((oneTwo_iff s).1 h2))], 0, rfl⟩)
  have HYES := Lib.hid (show (1 ≤ ndig s ∧ ndig s ≤ 2) → ∀ k, NumP1 s w (.returned (.tuple #[.int .i64 (numV s), .string (s.extract (ndig s) s.size), .bool true])) (w.drewN k) from fun h k => ⟨by rw [if_pos ((oneTwo_iff s).2 h)]; rfl, k, rfl⟩)
  generalize hm : ndig s = m at hle HB HA HU HNO HYES
  clear hm
  go_enter Tryz.func50, Tryz.ntmps50
  go_wp2_with fail
  go_loop [9] (fun i => ∃ k : Nat, k ≤ m ∧ i = .int .i64 k) (fun i => s.size - (intOf i).toNat)
  case atStart => exact ⟨0, Nat.zero_le _, rfl⟩
  case round =>
    obtain ⟨k, hk, rfl⟩ := hrel
    by_cases hlt : k < m
    · have hks : k < s.size := by omega
      obtain ⟨d1, d2⟩ := dig_iff.1 (HB.out k hlt hks)
      go_wp2_with fail
      go_round
      case rel => exact ⟨k + 1, by omega, by go_num⟩
      case measure => simp [intOf]; omega
    · obtain rfl : k = m := by omega
      have hx : (¬ k < s.size) ∨ (∃ h : k < s.size, ((s[k]'h).toNat : Int) < 48) ∨ (∃ h : k < s.size, 48 ≤ ((s[k]'h).toNat : Int) ∧ 57 < ((s[k]'h).toNat : Int)) := by
        by_cases h : k < s.size
        · have h2 := dig_no.1 (HA.out h)
          rcases h2 with h2 | h2
          · exact .inr (.inl ⟨h, h2⟩)
          · exact .inr (.inr ⟨h, by omega, h2⟩)
        · exact .inl h
      clear hlt hk
      by_cases hn : 1 ≤ k ∧ k ≤ 2
      · have HU2 := Lib.hid (HU.out (by omega) (by omega))
        have HY := Lib.hid (HYES.out hn)
        obtain ⟨n1, n2⟩ := hn
        have hz : (s.extract 0 k).size ≤ 9223372036854775807 := by rw [ByteArray.size_extract]; omega
        have hq1 : ¬ ((k : Int) < 1) := by omega
        have hq2 : ¬ (2 < (k : Int)) := by omega
        have hq3 : ((k : Int) ≤ (s.size : Int)) := by omega
        rcases hx with hx | ⟨hks, hx⟩ | ⟨hks, hx, hx2⟩
        all_goals
          go_wp2_with fail
          refine (unfixed_any (s.extract 0 k) _ hz).mono ?_
          rintro e w1 ⟨rfl, rfl⟩
          rw [HU2.out, show unfV (some (numV s)) = .tuple #[.int .i64 (numV s), .bool true] from rfl]
          go_wp2_with fail
          go_quiet (fail)
          go_wp2_with fail
          try rw [Exit.noGoto_ret]
          refine bodyPost_ret (results_tmp3 rfl _ _ _) rfl ?_
          exact HY.out _
      · have HN := Lib.hid (HNO.out hn)
        have hn2 : (k < 1) ∨ (¬ (k < 1) ∧ 2 < k) := by omega
        clear hn
        rcases hx with hx | ⟨hks, hx⟩ | ⟨hks, hx, hx2⟩
        all_goals
          rcases hn2 with hn2 | ⟨hn2, hn3⟩
          all_goals
            go_wp2_with fail
            refine bodyPost_ret (results_tmp3 rfl _ _ _) rfl ?_
            exact HN.out
def NumP2 (s : ByteArray) (w : World) (e : Ending) (w' : World) : Prop := e = .returned (if twoFour s = true then .tuple #[.int .i64 (numV s), .string (afterD s), .bool true] else .tuple #[.int .i64 0, .string ⟨#[]⟩, .bool false]) ∧ ∃ n, w' = w.drewN n
set_option maxHeartbeats 1000000 in
set_option maxRecDepth 100000 in
theorem number_2 (s : ByteArray) (w : World) (hs : s.size ≤ 9223372036854775807) : Calls Tryz.prog 50 #[.string s, .int .i64 2, .int .i64 4] w (NumP2 s w) := by
  have hle := ndig_le s
  have HB := Lib.hid (ndig_before s)
  have HA := Lib.hid (ndig_at s)
  have HU := Lib.hid (unf_num s)
  have HNO := Lib.hid (show ¬ (2 ≤ ndig s ∧ ndig s ≤ 4) → NumP2 s w (.returned (.tuple #[.int .i64 0, .string ⟨#[]⟩, .bool false])) w from fun h => ⟨by rw [if_neg (fun h2 => h ((twoFour_iff s).1 h2))], 0, rfl⟩)
  have HYES := Lib.hid (show (2 ≤ ndig s ∧ ndig s ≤ 4) → ∀ k, NumP2 s w (.returned (.tuple #[.int .i64 (numV s), .string (s.extract (ndig s) s.size), .bool true])) (w.drewN k) from fun h k => ⟨by rw [if_pos ((twoFour_iff s).2 h)]; rfl, k, rfl⟩)
  generalize hm : ndig s = m at hle HB HA HU HNO HYES
  clear hm
  go_enter Tryz.func50, Tryz.ntmps50
  go_wp2_with fail
  go_loop [9] (fun i => ∃ k : Nat, k ≤ m ∧ i = .int .i64 k) (fun i => s.size - (intOf i).toNat)
  case atStart => exact ⟨0, Nat.zero_le _, rfl⟩
  case round =>
    obtain ⟨k, hk, rfl⟩ := hrel
    by_cases hlt : k < m
    · have hks : k < s.size := by omega
      obtain ⟨d1, d2⟩ := dig_iff.1 (HB.out k hlt hks)
      go_wp2_with fail
      go_round
      case rel => exact ⟨k + 1, by omega, by go_num⟩
      case measure => simp [intOf]; omega
    · obtain rfl : k = m := by omega
      have hx : (¬ k < s.size) ∨ (∃ h : k < s.size, ((s[k]'h).toNat : Int) < 48) ∨ (∃ h : k < s.size, 48 ≤ ((s[k]'h).toNat : Int) ∧ 57 < ((s[k]'h).toNat : Int)) := by
        by_cases h : k < s.size
        · have h2 := dig_no.1 (HA.out h)
          rcases h2 with h2 | h2
          · exact .inr (.inl ⟨h, h2⟩)
          · exact .inr (.inr ⟨h, by omega, h2⟩)
        · exact .inl h
      clear hlt hk
      by_cases hn : 2 ≤ k ∧ k ≤ 4
      · have HU2 := Lib.hid (HU.out (by omega) (by omega))
        have HY := Lib.hid (HYES.out hn)
        obtain ⟨n1, n2⟩ := hn
        have hz : (s.extract 0 k).size ≤ 9223372036854775807 := by rw [ByteArray.size_extract]; omega
        have hq1 : ¬ ((k : Int) < 2) := by omega
        have hq2 : ¬ (4 < (k : Int)) := by omega
        have hq3 : ((k : Int) ≤ (s.size : Int)) := by omega
        rcases hx with hx | ⟨hks, hx⟩ | ⟨hks, hx, hx2⟩
        all_goals
          go_wp2_with fail
          refine (unfixed_any (s.extract 0 k) _ hz).mono ?_
          rintro e w1 ⟨rfl, rfl⟩
          rw [HU2.out, show unfV (some (numV s)) = .tuple #[.int .i64 (numV s), .bool true] from rfl]
          go_wp2_with fail
          go_quiet (fail)
          go_wp2_with fail
          try rw [Exit.noGoto_ret]
          refine bodyPost_ret (results_tmp3 rfl _ _ _) rfl ?_
          exact HY.out _
      · have HN := Lib.hid (HNO.out hn)
        have hn2 : (k < 2) ∨ (¬ (k < 2) ∧ 4 < k) := by omega
        clear hn
        rcases hx with hx | ⟨hks, hx⟩ | ⟨hks, hx, hx2⟩
        all_goals
          rcases hn2 with hn2 | ⟨hn2, hn3⟩
          all_goals
            go_wp2_with fail
            refine bodyPost_ret (results_tmp3 rfl _ _ _) rfl ?_
            exact HN.out
end Go.Proofs.YtngamlikhgilhaaGreatDoor
/- Contracts: a word that is a time. -/
namespace Go.Proofs.YtngamlikhgilhaaGreatDoor
open Go.RowKit

theorem toL (s : ByteArray) : s.toList = bs s := ByteArray.toList_eq s
theorem colon_one (s : ByteArray) (h : 1 ≤ s.size) : colonB s = ((s.extract 0 1).toList == [58]) := by
  unfold colonB
  rw [toL, bs_extract, List.drop_zero]
  rw [size_bs] at h
  cases e : bs s with
  | nil => rw [e] at h; simp at h
  | cons x l => simp
theorem colon_none (s : ByteArray) (h : s.size < 1) : colonB s = false := by
  rw [size_bs] at h
  unfold colonB
  rw [show bs s = [] from List.eq_nil_of_length_eq_zero (by omega)]
  rfl
set_option maxRecDepth 100000 in
theorem colon_lite (s : ByteArray) (w : World) (_ : s.size ≤ 9223372036854775807) : Calls Tryz.prog 61 #[.string s, .string ⟨#[58]⟩] w fun e w' => e = .returned (.bool (colonB s)) ∧ w = w' := by
  by_cases h : 1 ≤ s.size
  · have HV := Lib.hid (colon_one s h)
    have h2 : (1 : Int) ≤ (s.size : Int) := by omega
    cases hb : ((s.extract 0 1).toList == [58])
    all_goals
      go_enter Tryz.func61, Tryz.ntmps61
      go_wp2_with fail
      go_ret
      exact ⟨ret_bool (HV.out.trans hb).symm, rfl⟩
  · have HV := Lib.hid (colon_none s (by omega))
    have h2 : decide ((1 : Int) ≤ (s.size : Int)) = false := by simp; omega
    clear h
    go_enter Tryz.func61, Tryz.ntmps61
    go_wp2_with fail
    go_ret
    exact ⟨ret_bool HV.out.symm, rfl⟩
set_option maxRecDepth 100000 in
theorem colon_any (s : ByteArray) (w : World) (hs : s.size ≤ 9223372036854775807) : Calls Tryz.prog 23 #[.string s, .string ⟨#[58]⟩] w fun e w' => e = .returned (.bool (colonB s)) ∧ w = w' := by
  go_enter Tryz.func23, Tryz.ntmps23
  go_wp2_with fail
  refine (colon_lite s _ hs).mono ?_
  rintro e w1 ⟨rfl, rfl⟩
  go_wp2_with fail
  go_ret
  exact ⟨rfl, rfl⟩
/-- What a clock's cells hold. -/
structure ClkAt (W : World) (b : Nat) (y m d h n s : Int) : Prop where
  c0 : W.cell? ⟨b, 0, none⟩ = some (.int .i64 y)
  c1 : W.cell? ⟨b, 1, none⟩ = some (.int .i64 m)
  c2 : W.cell? ⟨b, 2, none⟩ = some (.int .i64 d)
  c3 : W.cell? ⟨b, 3, none⟩ = some (.int .i64 h)
  c4 : W.cell? ⟨b, 4, none⟩ = some (.int .i64 n)
  c5 : W.cell? ⟨b, 5, none⟩ = some (.int .i64 s)
  fz : ∀ o, W.frozen? ⟨b, o, none⟩ = false
def TimeP (s : ByteArray) (b : Nat) (y m d h n sc : Int) (w : World) (e : Ending) (w' : World) : Prop :=
  (timeB s = true ∧ e = .returned (.bool true) ∧ ClkAt w' b y m d (numV s) (numV (time2 s)) (numV (time2 (time2 s))) ∧ w.grownBy w' (some b)) ∨
  (timeB s = false ∧ e = .returned (.bool false) ∧ ClkAt w' b y m d h n sc ∧ w.grownBy w' (some b))
theorem after_size (s : ByteArray) : (afterD s).size ≤ s.size := by unfold afterD; rw [ByteArray.size_extract]; omega
theorem tail_size (s : ByteArray) : (tailS s).size ≤ s.size := by unfold tailS; rw [ByteArray.size_extract]; omega
theorem colon_size {s : ByteArray} (h : colonB s = true) : 1 ≤ s.size := by
  rcases Nat.lt_or_ge s.size 1 with h2 | h2
  · rw [colon_none s h2] at h; cases h
  · exact h2
theorem ne_off {b i j : Nat} (h : i ≠ j) : (⟨b, i, none⟩ : Addr) ≠ ⟨b, j, none⟩ := fun e => by injection e with _ e2; exact h e2
theorem ClkAt.s0 {W : World} {b : Nat} {y m d h n s : Int} (hC : ClkAt W b y m d h n s) (v : Int) : ClkAt (W.setCell ⟨b, 0, none⟩ (.int .i64 v)) b v m d h n s :=
  ⟨World.cell?_setCell_same' _ _ _ (by rw [hC.c0]; rfl), by rw [World.cell?_setCell_other _ _ _ _ (ne_off (by decide)), hC.c1], by rw [World.cell?_setCell_other _ _ _ _ (ne_off (by decide)), hC.c2], by rw [World.cell?_setCell_other _ _ _ _ (ne_off (by decide)), hC.c3], by rw [World.cell?_setCell_other _ _ _ _ (ne_off (by decide)), hC.c4], by rw [World.cell?_setCell_other _ _ _ _ (ne_off (by decide)), hC.c5], fun o => by rw [World.frozen?_setCell]; exact hC.fz o⟩
theorem ClkAt.s1 {W : World} {b : Nat} {y m d h n s : Int} (hC : ClkAt W b y m d h n s) (v : Int) : ClkAt (W.setCell ⟨b, 1, none⟩ (.int .i64 v)) b y v d h n s :=
  ⟨by rw [World.cell?_setCell_other _ _ _ _ (ne_off (by decide)), hC.c0], World.cell?_setCell_same' _ _ _ (by rw [hC.c1]; rfl), by rw [World.cell?_setCell_other _ _ _ _ (ne_off (by decide)), hC.c2], by rw [World.cell?_setCell_other _ _ _ _ (ne_off (by decide)), hC.c3], by rw [World.cell?_setCell_other _ _ _ _ (ne_off (by decide)), hC.c4], by rw [World.cell?_setCell_other _ _ _ _ (ne_off (by decide)), hC.c5], fun o => by rw [World.frozen?_setCell]; exact hC.fz o⟩
theorem ClkAt.s2 {W : World} {b : Nat} {y m d h n s : Int} (hC : ClkAt W b y m d h n s) (v : Int) : ClkAt (W.setCell ⟨b, 2, none⟩ (.int .i64 v)) b y m v h n s :=
  ⟨by rw [World.cell?_setCell_other _ _ _ _ (ne_off (by decide)), hC.c0], by rw [World.cell?_setCell_other _ _ _ _ (ne_off (by decide)), hC.c1], World.cell?_setCell_same' _ _ _ (by rw [hC.c2]; rfl), by rw [World.cell?_setCell_other _ _ _ _ (ne_off (by decide)), hC.c3], by rw [World.cell?_setCell_other _ _ _ _ (ne_off (by decide)), hC.c4], by rw [World.cell?_setCell_other _ _ _ _ (ne_off (by decide)), hC.c5], fun o => by rw [World.frozen?_setCell]; exact hC.fz o⟩
theorem ClkAt.s3 {W : World} {b : Nat} {y m d h n s : Int} (hC : ClkAt W b y m d h n s) (v : Int) : ClkAt (W.setCell ⟨b, 3, none⟩ (.int .i64 v)) b y m d v n s :=
  ⟨by rw [World.cell?_setCell_other _ _ _ _ (ne_off (by decide)), hC.c0], by rw [World.cell?_setCell_other _ _ _ _ (ne_off (by decide)), hC.c1], by rw [World.cell?_setCell_other _ _ _ _ (ne_off (by decide)), hC.c2], World.cell?_setCell_same' _ _ _ (by rw [hC.c3]; rfl), by rw [World.cell?_setCell_other _ _ _ _ (ne_off (by decide)), hC.c4], by rw [World.cell?_setCell_other _ _ _ _ (ne_off (by decide)), hC.c5], fun o => by rw [World.frozen?_setCell]; exact hC.fz o⟩
theorem ClkAt.s4 {W : World} {b : Nat} {y m d h n s : Int} (hC : ClkAt W b y m d h n s) (v : Int) : ClkAt (W.setCell ⟨b, 4, none⟩ (.int .i64 v)) b y m d h v s :=
  ⟨by rw [World.cell?_setCell_other _ _ _ _ (ne_off (by decide)), hC.c0], by rw [World.cell?_setCell_other _ _ _ _ (ne_off (by decide)), hC.c1], by rw [World.cell?_setCell_other _ _ _ _ (ne_off (by decide)), hC.c2], by rw [World.cell?_setCell_other _ _ _ _ (ne_off (by decide)), hC.c3], World.cell?_setCell_same' _ _ _ (by rw [hC.c4]; rfl), by rw [World.cell?_setCell_other _ _ _ _ (ne_off (by decide)), hC.c5], fun o => by rw [World.frozen?_setCell]; exact hC.fz o⟩
theorem ClkAt.s5 {W : World} {b : Nat} {y m d h n s : Int} (hC : ClkAt W b y m d h n s) (v : Int) : ClkAt (W.setCell ⟨b, 5, none⟩ (.int .i64 v)) b y m d h n v :=
  ⟨by rw [World.cell?_setCell_other _ _ _ _ (ne_off (by decide)), hC.c0], by rw [World.cell?_setCell_other _ _ _ _ (ne_off (by decide)), hC.c1], by rw [World.cell?_setCell_other _ _ _ _ (ne_off (by decide)), hC.c2], by rw [World.cell?_setCell_other _ _ _ _ (ne_off (by decide)), hC.c3], by rw [World.cell?_setCell_other _ _ _ _ (ne_off (by decide)), hC.c4], World.cell?_setCell_same' _ _ _ (by rw [hC.c5]; rfl), fun o => by rw [World.frozen?_setCell]; exact hC.fz o⟩
theorem ClkAt.drew {W : World} {b : Nat} {y m d h n s : Int} (hC : ClkAt W b y m d h n s) : ClkAt W.drew b y m d h n s := ⟨hC.c0, hC.c1, hC.c2, hC.c3, hC.c4, hC.c5, hC.fz⟩
theorem ClkAt.drewN {W : World} {b : Nat} {y m d h n s : Int} (hC : ClkAt W b y m d h n s) (k : Nat) : ClkAt (W.drewN k) b y m d h n s := ⟨hC.c0, hC.c1, hC.c2, hC.c3, hC.c4, hC.c5, hC.fz⟩
theorem ClkAt.below {W W' : World} {b : Nat} {y m d h n s : Int} (hC : ClkAt W b y m d h n s) (hb : b < W.heap.size) (bel : Below W.heap.size W W') : ClkAt W' b y m d h n s := by
  have hc : ∀ o, W'.cell? ⟨b, o, none⟩ = W.cell? ⟨b, o, none⟩ := fun o => bel.cell (p := ⟨b, o, none⟩) hb
  have hf : ∀ o, W'.frozen? ⟨b, o, none⟩ = W.frozen? ⟨b, o, none⟩ := fun o => bel.frozen (p := ⟨b, o, none⟩) hb
  exact ⟨by rw [hc]; exact hC.c0, by rw [hc]; exact hC.c1, by rw [hc]; exact hC.c2, by rw [hc]; exact hC.c3, by rw [hc]; exact hC.c4, by rw [hc]; exact hC.c5, fun o => by rw [hf]; exact hC.fz o⟩
theorem GB_set (W : World) (b o : Nat) (v : Value) : W.grownBy (W.setCell ⟨b, o, none⟩ v) (some b) :=
  ⟨rfl, rfl, rfl, by rw [World.size_setCell]; exact Nat.le_refl _, fun k _ hk => Below.heap_setCell _ _ _ k (fun e => hk (by rw [e]))⟩
theorem GB_drew (W : World) (r : Option Nat) : W.grownBy W.drew r := ⟨rfl, rfl, rfl, Nat.le_refl _, fun _ _ _ => rfl⟩
theorem GB_drewN (W : World) (k : Nat) (r : Option Nat) : W.grownBy (W.drewN k) r := ⟨rfl, rfl, rfl, Nat.le_refl _, fun _ _ _ => rfl⟩
theorem GB_below {W W' : World} (h : Below W.heap.size W W') (r : Option Nat) : W.grownBy W' r := ⟨h.os, h.tape, h.output, h.size, fun k hk _ => h.block k hk⟩
/-- The three numbers at hand, in a block of the call's own. -/
structure NB (w wr : World) (x y z : Int) : Prop where
  bel : Below w.heap.size w wr
  size : w.heap.size < wr.heap.size
  c0 : wr.cell? ⟨w.heap.size, 0, none⟩ = some (.int .i64 x)
  c1 : wr.cell? ⟨w.heap.size, 1, none⟩ = some (.int .i64 y)
  c2 : wr.cell? ⟨w.heap.size, 2, none⟩ = some (.int .i64 z)
  fz : ∀ o, wr.frozen? ⟨w.heap.size, o, none⟩ = false
theorem NB.drew {w wr : World} {x y z : Int} (h : NB w wr x y z) (k : Nat) : NB w (wr.drewN k) x y z :=
  ⟨⟨h.bel.os, h.bel.tape, h.bel.output, h.bel.size, h.bel.block⟩, h.size, h.c0, h.c1, h.c2, h.fz⟩
theorem NB.s0 {w wr : World} {x y z : Int} (h : NB w wr x y z) (v : Int) : NB w (wr.setCell ⟨w.heap.size, 0, none⟩ (.int .i64 v)) v y z :=
  ⟨h.bel.setCell (Nat.le_refl _) _, by rw [World.size_setCell]; exact h.size, World.cell?_setCell_same' _ _ _ (by rw [h.c0]; rfl), by rw [World.cell?_setCell_other _ _ _ _ (ne_off (by decide)), h.c1], by rw [World.cell?_setCell_other _ _ _ _ (ne_off (by decide)), h.c2], fun o => by rw [World.frozen?_setCell]; exact h.fz o⟩
theorem NB.s1 {w wr : World} {x y z : Int} (h : NB w wr x y z) (v : Int) : NB w (wr.setCell ⟨w.heap.size, 1, none⟩ (.int .i64 v)) x v z :=
  ⟨h.bel.setCell (Nat.le_refl _) _, by rw [World.size_setCell]; exact h.size, by rw [World.cell?_setCell_other _ _ _ _ (ne_off (by decide)), h.c0], World.cell?_setCell_same' _ _ _ (by rw [h.c1]; rfl), by rw [World.cell?_setCell_other _ _ _ _ (ne_off (by decide)), h.c2], fun o => by rw [World.frozen?_setCell]; exact h.fz o⟩
theorem NB.s2 {w wr : World} {x y z : Int} (h : NB w wr x y z) (v : Int) : NB w (wr.setCell ⟨w.heap.size, 2, none⟩ (.int .i64 v)) x y v :=
  ⟨h.bel.setCell (Nat.le_refl _) _, by rw [World.size_setCell]; exact h.size, by rw [World.cell?_setCell_other _ _ _ _ (ne_off (by decide)), h.c0], by rw [World.cell?_setCell_other _ _ _ _ (ne_off (by decide)), h.c1], World.cell?_setCell_same' _ _ _ (by rw [h.c2]; rfl), fun o => by rw [World.frozen?_setCell]; exact h.fz o⟩
theorem num_yes {s : ByteArray} {w w' : World} {e : Ending} (h1 : oneTwo s = true) (h : NumP1 s w e w') : e = .returned (.tuple #[.int .i64 (numV s), .string (afterD s), .bool true]) ∧ ∃ n, w' = w.drewN n := by
  unfold NumP1 at h; rw [if_pos h1] at h; exact h
theorem num_no {s : ByteArray} {w w' : World} {e : Ending} (h1 : oneTwo s = false) (h : NumP1 s w e w') : e = .returned (.tuple #[.int .i64 0, .string ⟨#[]⟩, .bool false]) ∧ ∃ n, w' = w.drewN n := by
  unfold NumP1 at h; rw [if_neg (by rw [h1]; simp)] at h; exact h
def TS (s : ByteArray) (w : World) (t i : Value) (wr : World) : Prop :=
  (t = .string s ∧ i = .int .i64 0 ∧ NB w wr 0 0 0) ∨
  (t = .string (time2 s) ∧ i = .int .i64 1 ∧ NB w wr (numV s) 0 0 ∧ (oneTwo s && colonB (afterD s)) = true) ∨
  (t = .string (time2 (time2 s)) ∧ i = .int .i64 2 ∧ NB w wr (numV s) (numV (time2 s)) 0 ∧ (oneTwo s && colonB (afterD s)) = true ∧ (oneTwo (time2 s) && colonB (afterD (time2 s))) = true) ∨
  (t = .string (time2 (time2 s)) ∧ i = .int .i64 3 ∧ NB w wr (numV s) (numV (time2 s)) (numV (time2 (time2 s))) ∧ timeB s = true)
theorem time_f1 {s : ByteArray} (h : (oneTwo s && colonB (afterD s)) = false) : timeB s = false := by unfold timeB; rw [h]; rfl
theorem time_f2 {s : ByteArray} (h : (oneTwo (time2 s) && colonB (afterD (time2 s))) = false) : timeB s = false := by unfold timeB; rw [h]; simp
theorem time_f3 {s : ByteArray} (h : oneTwo (time2 (time2 s)) = false) : timeB s = false := by unfold timeB; rw [h]; simp
theorem time_t {s : ByteArray} (h1 : (oneTwo s && colonB (afterD s)) = true) (h2 : (oneTwo (time2 s) && colonB (afterD (time2 s))) = true) (h3 : oneTwo (time2 (time2 s)) = true) : timeB s = true := by unfold timeB; rw [h1, h2, h3]; rfl
theorem TimeP_no {s : ByteArray} {b : Nat} {y m d h n sc : Int} {w w' : World} (hC : ClkAt w b y m d h n sc) (hb : b < w.heap.size) (ht : timeB s = false) (bel : Below w.heap.size w w') : TimeP s b y m d h n sc w (.returned (.bool false)) w' := by
  have hc : ∀ o, w'.cell? ⟨b, o, none⟩ = w.cell? ⟨b, o, none⟩ := fun o => bel.cell (p := ⟨b, o, none⟩) hb
  have hf : ∀ o, w'.frozen? ⟨b, o, none⟩ = w.frozen? ⟨b, o, none⟩ := fun o => bel.frozen (p := ⟨b, o, none⟩) hb
  exact .inr ⟨ht, rfl, ⟨by rw [hc]; exact hC.c0, by rw [hc]; exact hC.c1, by rw [hc]; exact hC.c2, by rw [hc]; exact hC.c3, by rw [hc]; exact hC.c4, by rw [hc]; exact hC.c5, fun o => by rw [hf]; exact hC.fz o⟩,
    ⟨bel.os, bel.tape, bel.output, bel.size, fun k hk _ => bel.block k hk⟩⟩
set_option maxHeartbeats 4000000 in
set_option maxRecDepth 100000 in
theorem time_any (s : ByteArray) (b : Nat) (y m d h n sc : Int) (w : World) (hs : s.size ≤ 9223372036854775807) (hC : ClkAt w b y m d h n sc) (hb : b < w.heap.size) :
    Calls Tryz.prog 48 #[.string s, .pointer (some ⟨b, 0, none⟩)] w (TimeP s b y m d h n sc w) := by
  have z1 : (afterD s).size ≤ 9223372036854775807 := Nat.le_trans (after_size s) hs
  have z2 : (time2 s).size ≤ 9223372036854775807 := Nat.le_trans (tail_size _) z1
  have z3 : (afterD (time2 s)).size ≤ 9223372036854775807 := Nat.le_trans (after_size _) z2
  have z4 : (time2 (time2 s)).size ≤ 9223372036854775807 := Nat.le_trans (tail_size _) z3
  have HC := Lib.hid hC
  clear hC
  go_enter Tryz.func48, Tryz.ntmps48
  go_wp2_with fail
  go_loopw [0, 10] (fun t i wr => TS s w t i wr) (fun _ i _ => (3 - intOf i).toNat)
  case atStart => exact .inl ⟨rfl, rfl, (Below.refl _ _).alloc (Nat.le_refl _) _, by simp, by go_simp, by go_simp, by go_simp, fun o => by go_simp⟩
  case round =>
    rcases hrel with ⟨rfl, rfl, hN⟩ | ⟨rfl, rfl, hN, ht1⟩ | ⟨rfl, rfl, hN, ht1, ht2⟩ | ⟨rfl, rfl, hN, ht⟩
    · cases h1 : oneTwo s
      · have HF := Lib.hid (@time_f1 s (by rw [h1]; rfl))
        have hq : oneTwo s = false := h1
        have HQ := Lib.hid hq
        have HNN := Lib.hid hN
        clear h1 hq hN
        go_wp2_with fail
        refine (number_1 s _ hs).mono ?_
        intro e w1 hn
        obtain ⟨rfl, k, rfl⟩ := num_no HQ.out hn
        clear hn
        go_wp2_with fail
        go_ret
        exact TimeP_no HC.out hb HF.out (HNN.out.drew k).bel
      · cases h2 : colonB (afterD s)
        · have HF := Lib.hid (@time_f1 s (by rw [h2]; simp))
          have HQ := Lib.hid h1
          have HC2 := Lib.hid h2
          have HNN := Lib.hid hN
          clear h1 h2 hN
          go_wp2_with fail
          refine (number_1 s _ hs).mono ?_
          intro e w1 hn
          obtain ⟨rfl, k, rfl⟩ := num_yes HQ.out hn
          clear hn
          go_wp2_with fail
          refine (colon_any (afterD s) _ z1).mono ?_
          rintro e w2 ⟨rfl, rfl⟩
          rw [HC2.out]
          go_wp2_with fail
          go_ret
          exact TimeP_no HC.out hb HF.out (HNN.out.drew k).bel
        · have hp := colon_size h2
          have hp2 : (1 : Int) ≤ ((afterD s).size : Int) := by omega
          have HO := Lib.hid (show (oneTwo s && colonB (afterD s)) = true by rw [h1, h2]; rfl)
          have HQ := Lib.hid h1
          have HC2 := Lib.hid h2
          clear h1 h2
          go_wp2_with fail
          refine (number_1 s _ hs).mono ?_
          intro e w1 hn
          obtain ⟨rfl, k, rfl⟩ := num_yes HQ.out hn
          clear hn
          have hN1 := hN.drew k
          obtain ⟨g1, g2, g3, g4, g5, g6⟩ := hN1
          have HNN := Lib.hid (hN.drew k)
          clear hN
          go_wp2_with fail
          refine (colon_any (afterD s) _ z1).mono ?_
          rintro e w2 ⟨rfl, rfl⟩
          rw [HC2.out]
          go_wp2_with fail
          go_roundw
          case rel => exact .inr (.inl ⟨rfl, rfl, HNN.out.s0 _, HO.out⟩)
          case measure => simp [intOf]
    · have T1 := Lib.hid ht1
      clear ht1
      cases h1 : oneTwo (time2 s)
      · have HF := Lib.hid (@time_f2 s (by rw [h1]; rfl))
        have hq : oneTwo (time2 s) = false := h1
        have HQ := Lib.hid hq
        have HNN := Lib.hid hN
        clear h1 hq hN
        go_wp2_with fail
        refine (number_1 (time2 s) _ z2).mono ?_
        intro e w1 hn
        obtain ⟨rfl, k, rfl⟩ := num_no HQ.out hn
        clear hn
        go_wp2_with fail
        go_ret
        exact TimeP_no HC.out hb HF.out (HNN.out.drew k).bel
      · cases h2 : colonB (afterD (time2 s))
        · have HF := Lib.hid (@time_f2 s (by rw [h2]; simp))
          have HQ := Lib.hid h1
          have HC2 := Lib.hid h2
          have HNN := Lib.hid hN
          clear h1 h2 hN
          go_wp2_with fail
          refine (number_1 (time2 s) _ z2).mono ?_
          intro e w1 hn
          obtain ⟨rfl, k, rfl⟩ := num_yes HQ.out hn
          clear hn
          go_wp2_with fail
          refine (colon_any (afterD (time2 s)) _ z3).mono ?_
          rintro e w2 ⟨rfl, rfl⟩
          rw [HC2.out]
          go_wp2_with fail
          go_ret
          exact TimeP_no HC.out hb HF.out (HNN.out.drew k).bel
        · have hp := colon_size h2
          have hp2 : (1 : Int) ≤ ((afterD (time2 s)).size : Int) := by omega
          have HO := Lib.hid (show (oneTwo (time2 s) && colonB (afterD (time2 s))) = true by rw [h1, h2]; rfl)
          have HQ := Lib.hid h1
          have HC2 := Lib.hid h2
          clear h1 h2
          go_wp2_with fail
          refine (number_1 (time2 s) _ z2).mono ?_
          intro e w1 hn
          obtain ⟨rfl, k, rfl⟩ := num_yes HQ.out hn
          clear hn
          have hN1 := hN.drew k
          obtain ⟨g1, g2, g3, g4, g5, g6⟩ := hN1
          have HNN := Lib.hid (hN.drew k)
          clear hN
          go_wp2_with fail
          refine (colon_any (afterD (time2 s)) _ z3).mono ?_
          rintro e w2 ⟨rfl, rfl⟩
          rw [HC2.out]
          go_wp2_with fail
          go_roundw
          case rel => exact .inr (.inr (.inl ⟨rfl, rfl, HNN.out.s1 _, T1.out, HO.out⟩))
          case measure => simp [intOf]
    · have T1 := Lib.hid ht1
      clear ht1
      have T2 := Lib.hid ht2
      clear ht2
      cases h1 : oneTwo (time2 (time2 s))
      · have HF := Lib.hid (@time_f3 s h1)
        have hq : oneTwo (time2 (time2 s)) = false := h1
        have HQ := Lib.hid hq
        have HNN := Lib.hid hN
        clear h1 hq hN
        go_wp2_with fail
        refine (number_1 (time2 (time2 s)) _ z4).mono ?_
        intro e w1 hn
        obtain ⟨rfl, k, rfl⟩ := num_no HQ.out hn
        clear hn
        go_wp2_with fail
        go_ret
        exact TimeP_no HC.out hb HF.out (HNN.out.drew k).bel
      · have HT := Lib.hid (time_t T1.out T2.out h1)
        have HQ := Lib.hid h1
        clear h1
        go_wp2_with fail
        refine (number_1 (time2 (time2 s)) _ z4).mono ?_
        intro e w1 hn
        obtain ⟨rfl, k, rfl⟩ := num_yes HQ.out hn
        clear hn
        have hN1 := hN.drew k
        obtain ⟨g1, g2, g3, g4, g5, g6⟩ := hN1
        have HNN := Lib.hid (hN.drew k)
        clear hN
        go_wp2_with fail
        go_roundw
        case rel => exact .inr (.inr (.inr ⟨rfl, rfl, HNN.out.s2 _, HT.out⟩))
        case measure => simp [intOf]
    · have HT := Lib.hid ht
      clear ht
      obtain ⟨g1, g2, g3, g4, g5, g6⟩ := hN
      have hbw : b < wr.heap.size := by omega
      have hc : ∀ o, wr.cell? ⟨b, o, none⟩ = w.cell? ⟨b, o, none⟩ := fun o => g1.cell (p := ⟨b, o, none⟩) hb
      have hf : ∀ o, wr.frozen? ⟨b, o, none⟩ = w.frozen? ⟨b, o, none⟩ := fun o => g1.frozen (p := ⟨b, o, none⟩) hb
      obtain ⟨c0, c1, c2, c3, c4, c5, fz⟩ := HC.out
      rw [← hc] at c0 c1 c2 c3 c4 c5
      have fb : ∀ o, wr.frozen? ⟨b, o, none⟩ = false := fun o => by rw [hf]; exact fz o
      have hne : b ≠ w.heap.size := by omega
      have G1 := Lib.hid g1
      clear g1 hc hf fz
      go_wp2_with fail
      go_region
      go_wp2_with fail
      go_ret
      have CW : ClkAt wr b y m d h n sc := ⟨c0, c1, c2, c3, c4, c5, fb⟩
      exact .inl ⟨HT.out, rfl, (((CW.s3 _).s4 _).s5 _).drew, (GB_below G1.out _).trans (((GB_set wr b 3 _).trans (GB_set _ b 4 _)).trans ((GB_set _ b 5 _).trans (GB_drew _ _)))⟩
end Go.Proofs.YtngamlikhgilhaaGreatDoor
/- Contracts: the month of a word, of the program and of the reference; the reference's digits. -/
namespace Go.Proofs.YtngamlikhgilhaaGreatDoor
open Go.RowKit

def monI (w : ByteArray) : Nat := monTab.findIdx (fun t => t == mon3 w)
theorem monI_le (w : ByteArray) : monI w ≤ 12 := List.findIdx_le_length
theorem monI_at (w : ByteArray) (k : Nat) (hk : k < 12) (h : monI w = k) : (monTab[k]'hk == mon3 w) = true := by
  have h1 : monI w < monTab.length := by rw [h]; exact hk
  have := List.findIdx_getElem (p := fun t => t == mon3 w) (w := h1)
  subst h
  exact this
theorem monI_before (w : ByteArray) (k : Nat) (hk : k < 12) (h : k < monI w) : (monTab[k]'hk == mon3 w) = false := by
  have := List.not_of_lt_findIdx (p := fun t => t == mon3 w) h
  exact this
theorem monthN_small {w : ByteArray} (h : w.size < 3) : monthN w = 0 := if_pos h
theorem monthN_at {w : ByteArray} (h : ¬ w.size < 3) {k : Nat} (hk : k < 12) (h2 : monI w = k) : monthN w = k + 1 := by
  unfold monthN
  rw [if_neg h]
  show (if monI w < 12 then monI w + 1 else 0) = k + 1
  rw [if_pos (by omega), h2]
theorem monthN_none {w : ByteArray} (h : ¬ w.size < 3) (h2 : monI w = 12) : monthN w = 0 := by
  unfold monthN
  rw [if_neg h]
  show (if monI w < 12 then monI w + 1 else 0) = 0
  rw [if_neg (by omega)]
def monV (w : ByteArray) : Value := .tuple #[.int .i64 (monthN w), .bool (decide (0 < monthN w))]
theorem monV_of {w : ByteArray} {k : Nat} (h : monthN w = k + 1) : monV w = .tuple #[.int .i64 ((k + 1 : Nat) : Int), .bool true] := by unfold monV; rw [h]; simp
theorem monV_no {w : ByteArray} (h : monthN w = 0) : monV w = .tuple #[.int .i64 0, .bool false] := by unfold monV; rw [h]; rfl
theorem mon_beq {a : List UInt8} {t X : ByteArray} (h : bs t = a) : (t.toList == X.toList) = (a == bs X) := by rw [toL, toL, h]
theorem mon_beq2 {a : List UInt8} {t X : ByteArray} (h : bs t = a) : (X.toList == t.toList) = (a == bs X) := by rw [toL, toL, h, Bool.beq_comm]
set_option maxHeartbeats 4000000 in
set_option maxRecDepth 100000 in
theorem month_any (w : ByteArray) (W : World) (hs : w.size ≤ 9223372036854775807) : Calls Tryz.prog 52 #[.string w] W fun e W' => e = .returned (monV w) ∧ Below W.heap.size W W' := by
  by_cases h3 : w.size < 3
  · have HV := Lib.hid (monV_no (monthN_small h3))
    go_enter Tryz.func52, Tryz.ntmps52
    go_wp2_with fail
    go_ret2
    exact ⟨by rw [HV.out]; rfl, Below.refl _ _⟩
  · have HA := Lib.hid (fun k hk h => monV_of (@monthN_at w h3 k hk h))
    have HN := Lib.hid (fun h => monV_no (@monthN_none w h3 h))
    have HI := Lib.hid (monI_at w)
    have HB := Lib.hid (monI_before w)
    have hle := monI_le w
    generalize monI w = m at HA HN HI HB hle
    have HX := Lib.hid (show mon3 w = bs (lowS (w.extract 0 3)) from rfl)
    have k3 : (3 : Int) ≤ (w.size : Int) := by omega
    have hz : (w.extract 0 3).size ≤ 9223372036854775807 := by rw [ByteArray.size_extract]; omega
    go_enter Tryz.func52, Tryz.ntmps52
    go_wp2_with fail
    refine (lower_any (w.extract 0 3) _ hz).mono ?_
    rintro e w1 ⟨rfl, hb⟩
    generalize lowS (w.extract 0 3) = X at HX
    go_wp2_with fail
    go_loop [4] (fun i => (i = .int .i64 0 ∧ Hid (0 ≤ m)) ∨ (i = .int .i64 3 ∧ Hid (1 ≤ m)) ∨ (i = .int .i64 6 ∧ Hid (2 ≤ m)) ∨ (i = .int .i64 9 ∧ Hid (3 ≤ m)) ∨ (i = .int .i64 12 ∧ Hid (4 ≤ m)) ∨ (i = .int .i64 15 ∧ Hid (5 ≤ m)) ∨ (i = .int .i64 18 ∧ Hid (6 ≤ m)) ∨ (i = .int .i64 21 ∧ Hid (7 ≤ m)) ∨ (i = .int .i64 24 ∧ Hid (8 ≤ m)) ∨ (i = .int .i64 27 ∧ Hid (9 ≤ m)) ∨ (i = .int .i64 30 ∧ Hid (10 ≤ m)) ∨ (i = .int .i64 33 ∧ Hid (11 ≤ m)) ∨ (i = .int .i64 36 ∧ Hid (12 ≤ m))) (fun i => (36 - intOf i).toNat)
    case atStart => exact .inl ⟨rfl, Lib.hid (Nat.zero_le _)⟩
    case round =>
      rcases hrel with ⟨rfl, hj⟩ | ⟨rfl, hj⟩ | ⟨rfl, hj⟩ | ⟨rfl, hj⟩ | ⟨rfl, hj⟩ | ⟨rfl, hj⟩ | ⟨rfl, hj⟩ | ⟨rfl, hj⟩ | ⟨rfl, hj⟩ | ⟨rfl, hj⟩ | ⟨rfl, hj⟩ | ⟨rfl, hj⟩ | ⟨rfl, hj⟩
      · have HE := Lib.hid (mon_beq (X := X) (show bs ((⟨#[106, 97, 110, 102, 101, 98, 109, 97, 114, 97, 112, 114, 109, 97, 121, 106, 117, 110, 106, 117, 108, 97, 117, 103, 115, 101, 112, 111, 99, 116, 110, 111, 118, 100, 101, 99]⟩ : ByteArray).extract 0 3) = [106, 97, 110] by decide))
        by_cases hm : m = 0
        · have hq : (((⟨#[106, 97, 110, 102, 101, 98, 109, 97, 114, 97, 112, 114, 109, 97, 121, 106, 117, 110, 106, 117, 108, 97, 117, 103, 115, 101, 112, 111, 99, 116, 110, 111, 118, 100, 101, 99]⟩ : ByteArray).extract 0 3).toList == X.toList) = true := by rw [HE.out, ← HX.out]; exact HI.out 0 (by decide) hm
          have HV := Lib.hid (HA.out 0 (by decide) hm)
          clear hm
          go_wp2_with fail
          go_ret2
          exact ⟨by rw [HV.out]; rfl, hb⟩
        · have hq : (((⟨#[106, 97, 110, 102, 101, 98, 109, 97, 114, 97, 112, 114, 109, 97, 121, 106, 117, 110, 106, 117, 108, 97, 117, 103, 115, 101, 112, 111, 99, 116, 110, 111, 118, 100, 101, 99]⟩ : ByteArray).extract 0 3).toList == X.toList) = false := by rw [HE.out, ← HX.out]; exact HB.out 0 (by decide) (by have := hj.out; omega)
          have HJ := Lib.hid (show 1 ≤ m by have := hj.out; omega)
          clear hm hj
          go_wp2_with fail
          go_round
          case rel => exact .inr (.inl ⟨rfl, Lib.hid HJ.out⟩)
          case measure => simp [intOf]
      · have HE := Lib.hid (mon_beq (X := X) (show bs ((⟨#[106, 97, 110, 102, 101, 98, 109, 97, 114, 97, 112, 114, 109, 97, 121, 106, 117, 110, 106, 117, 108, 97, 117, 103, 115, 101, 112, 111, 99, 116, 110, 111, 118, 100, 101, 99]⟩ : ByteArray).extract 3 6) = [102, 101, 98] by decide))
        by_cases hm : m = 1
        · have hq : (((⟨#[106, 97, 110, 102, 101, 98, 109, 97, 114, 97, 112, 114, 109, 97, 121, 106, 117, 110, 106, 117, 108, 97, 117, 103, 115, 101, 112, 111, 99, 116, 110, 111, 118, 100, 101, 99]⟩ : ByteArray).extract 3 6).toList == X.toList) = true := by rw [HE.out, ← HX.out]; exact HI.out 1 (by decide) hm
          have HV := Lib.hid (HA.out 1 (by decide) hm)
          clear hm
          go_wp2_with fail
          go_ret2
          exact ⟨by rw [HV.out]; rfl, hb⟩
        · have hq : (((⟨#[106, 97, 110, 102, 101, 98, 109, 97, 114, 97, 112, 114, 109, 97, 121, 106, 117, 110, 106, 117, 108, 97, 117, 103, 115, 101, 112, 111, 99, 116, 110, 111, 118, 100, 101, 99]⟩ : ByteArray).extract 3 6).toList == X.toList) = false := by rw [HE.out, ← HX.out]; exact HB.out 1 (by decide) (by have := hj.out; omega)
          have HJ := Lib.hid (show 2 ≤ m by have := hj.out; omega)
          clear hm hj
          go_wp2_with fail
          go_round
          case rel => exact .inr (.inr (.inl ⟨rfl, Lib.hid HJ.out⟩))
          case measure => simp [intOf]
      · have HE := Lib.hid (mon_beq (X := X) (show bs ((⟨#[106, 97, 110, 102, 101, 98, 109, 97, 114, 97, 112, 114, 109, 97, 121, 106, 117, 110, 106, 117, 108, 97, 117, 103, 115, 101, 112, 111, 99, 116, 110, 111, 118, 100, 101, 99]⟩ : ByteArray).extract 6 9) = [109, 97, 114] by decide))
        by_cases hm : m = 2
        · have hq : (((⟨#[106, 97, 110, 102, 101, 98, 109, 97, 114, 97, 112, 114, 109, 97, 121, 106, 117, 110, 106, 117, 108, 97, 117, 103, 115, 101, 112, 111, 99, 116, 110, 111, 118, 100, 101, 99]⟩ : ByteArray).extract 6 9).toList == X.toList) = true := by rw [HE.out, ← HX.out]; exact HI.out 2 (by decide) hm
          have HV := Lib.hid (HA.out 2 (by decide) hm)
          clear hm
          go_wp2_with fail
          go_ret2
          exact ⟨by rw [HV.out]; rfl, hb⟩
        · have hq : (((⟨#[106, 97, 110, 102, 101, 98, 109, 97, 114, 97, 112, 114, 109, 97, 121, 106, 117, 110, 106, 117, 108, 97, 117, 103, 115, 101, 112, 111, 99, 116, 110, 111, 118, 100, 101, 99]⟩ : ByteArray).extract 6 9).toList == X.toList) = false := by rw [HE.out, ← HX.out]; exact HB.out 2 (by decide) (by have := hj.out; omega)
          have HJ := Lib.hid (show 3 ≤ m by have := hj.out; omega)
          clear hm hj
          go_wp2_with fail
          go_round
          case rel => exact .inr (.inr (.inr (.inl ⟨rfl, Lib.hid HJ.out⟩)))
          case measure => simp [intOf]
      · have HE := Lib.hid (mon_beq (X := X) (show bs ((⟨#[106, 97, 110, 102, 101, 98, 109, 97, 114, 97, 112, 114, 109, 97, 121, 106, 117, 110, 106, 117, 108, 97, 117, 103, 115, 101, 112, 111, 99, 116, 110, 111, 118, 100, 101, 99]⟩ : ByteArray).extract 9 12) = [97, 112, 114] by decide))
        by_cases hm : m = 3
        · have hq : (((⟨#[106, 97, 110, 102, 101, 98, 109, 97, 114, 97, 112, 114, 109, 97, 121, 106, 117, 110, 106, 117, 108, 97, 117, 103, 115, 101, 112, 111, 99, 116, 110, 111, 118, 100, 101, 99]⟩ : ByteArray).extract 9 12).toList == X.toList) = true := by rw [HE.out, ← HX.out]; exact HI.out 3 (by decide) hm
          have HV := Lib.hid (HA.out 3 (by decide) hm)
          clear hm
          go_wp2_with fail
          go_ret2
          exact ⟨by rw [HV.out]; rfl, hb⟩
        · have hq : (((⟨#[106, 97, 110, 102, 101, 98, 109, 97, 114, 97, 112, 114, 109, 97, 121, 106, 117, 110, 106, 117, 108, 97, 117, 103, 115, 101, 112, 111, 99, 116, 110, 111, 118, 100, 101, 99]⟩ : ByteArray).extract 9 12).toList == X.toList) = false := by rw [HE.out, ← HX.out]; exact HB.out 3 (by decide) (by have := hj.out; omega)
          have HJ := Lib.hid (show 4 ≤ m by have := hj.out; omega)
          clear hm hj
          go_wp2_with fail
          go_round
          case rel => exact .inr (.inr (.inr (.inr (.inl ⟨rfl, Lib.hid HJ.out⟩))))
          case measure => simp [intOf]
      · have HE := Lib.hid (mon_beq (X := X) (show bs ((⟨#[106, 97, 110, 102, 101, 98, 109, 97, 114, 97, 112, 114, 109, 97, 121, 106, 117, 110, 106, 117, 108, 97, 117, 103, 115, 101, 112, 111, 99, 116, 110, 111, 118, 100, 101, 99]⟩ : ByteArray).extract 12 15) = [109, 97, 121] by decide))
        by_cases hm : m = 4
        · have hq : (((⟨#[106, 97, 110, 102, 101, 98, 109, 97, 114, 97, 112, 114, 109, 97, 121, 106, 117, 110, 106, 117, 108, 97, 117, 103, 115, 101, 112, 111, 99, 116, 110, 111, 118, 100, 101, 99]⟩ : ByteArray).extract 12 15).toList == X.toList) = true := by rw [HE.out, ← HX.out]; exact HI.out 4 (by decide) hm
          have HV := Lib.hid (HA.out 4 (by decide) hm)
          clear hm
          go_wp2_with fail
          go_ret2
          exact ⟨by rw [HV.out]; rfl, hb⟩
        · have hq : (((⟨#[106, 97, 110, 102, 101, 98, 109, 97, 114, 97, 112, 114, 109, 97, 121, 106, 117, 110, 106, 117, 108, 97, 117, 103, 115, 101, 112, 111, 99, 116, 110, 111, 118, 100, 101, 99]⟩ : ByteArray).extract 12 15).toList == X.toList) = false := by rw [HE.out, ← HX.out]; exact HB.out 4 (by decide) (by have := hj.out; omega)
          have HJ := Lib.hid (show 5 ≤ m by have := hj.out; omega)
          clear hm hj
          go_wp2_with fail
          go_round
          case rel => exact .inr (.inr (.inr (.inr (.inr (.inl ⟨rfl, Lib.hid HJ.out⟩)))))
          case measure => simp [intOf]
      · have HE := Lib.hid (mon_beq (X := X) (show bs ((⟨#[106, 97, 110, 102, 101, 98, 109, 97, 114, 97, 112, 114, 109, 97, 121, 106, 117, 110, 106, 117, 108, 97, 117, 103, 115, 101, 112, 111, 99, 116, 110, 111, 118, 100, 101, 99]⟩ : ByteArray).extract 15 18) = [106, 117, 110] by decide))
        by_cases hm : m = 5
        · have hq : (((⟨#[106, 97, 110, 102, 101, 98, 109, 97, 114, 97, 112, 114, 109, 97, 121, 106, 117, 110, 106, 117, 108, 97, 117, 103, 115, 101, 112, 111, 99, 116, 110, 111, 118, 100, 101, 99]⟩ : ByteArray).extract 15 18).toList == X.toList) = true := by rw [HE.out, ← HX.out]; exact HI.out 5 (by decide) hm
          have HV := Lib.hid (HA.out 5 (by decide) hm)
          clear hm
          go_wp2_with fail
          go_ret2
          exact ⟨by rw [HV.out]; rfl, hb⟩
        · have hq : (((⟨#[106, 97, 110, 102, 101, 98, 109, 97, 114, 97, 112, 114, 109, 97, 121, 106, 117, 110, 106, 117, 108, 97, 117, 103, 115, 101, 112, 111, 99, 116, 110, 111, 118, 100, 101, 99]⟩ : ByteArray).extract 15 18).toList == X.toList) = false := by rw [HE.out, ← HX.out]; exact HB.out 5 (by decide) (by have := hj.out; omega)
          have HJ := Lib.hid (show 6 ≤ m by have := hj.out; omega)
          clear hm hj
          go_wp2_with fail
          go_round
          case rel => exact .inr (.inr (.inr (.inr (.inr (.inr (.inl ⟨rfl, Lib.hid HJ.out⟩))))))
          case measure => simp [intOf]
      · have HE := Lib.hid (mon_beq (X := X) (show bs ((⟨#[106, 97, 110, 102, 101, 98, 109, 97, 114, 97, 112, 114, 109, 97, 121, 106, 117, 110, 106, 117, 108, 97, 117, 103, 115, 101, 112, 111, 99, 116, 110, 111, 118, 100, 101, 99]⟩ : ByteArray).extract 18 21) = [106, 117, 108] by decide))
        by_cases hm : m = 6
        · have hq : (((⟨#[106, 97, 110, 102, 101, 98, 109, 97, 114, 97, 112, 114, 109, 97, 121, 106, 117, 110, 106, 117, 108, 97, 117, 103, 115, 101, 112, 111, 99, 116, 110, 111, 118, 100, 101, 99]⟩ : ByteArray).extract 18 21).toList == X.toList) = true := by rw [HE.out, ← HX.out]; exact HI.out 6 (by decide) hm
          have HV := Lib.hid (HA.out 6 (by decide) hm)
          clear hm
          go_wp2_with fail
          go_ret2
          exact ⟨by rw [HV.out]; rfl, hb⟩
        · have hq : (((⟨#[106, 97, 110, 102, 101, 98, 109, 97, 114, 97, 112, 114, 109, 97, 121, 106, 117, 110, 106, 117, 108, 97, 117, 103, 115, 101, 112, 111, 99, 116, 110, 111, 118, 100, 101, 99]⟩ : ByteArray).extract 18 21).toList == X.toList) = false := by rw [HE.out, ← HX.out]; exact HB.out 6 (by decide) (by have := hj.out; omega)
          have HJ := Lib.hid (show 7 ≤ m by have := hj.out; omega)
          clear hm hj
          go_wp2_with fail
          go_round
          case rel => exact .inr (.inr (.inr (.inr (.inr (.inr (.inr (.inl ⟨rfl, Lib.hid HJ.out⟩)))))))
          case measure => simp [intOf]
      · have HE := Lib.hid (mon_beq (X := X) (show bs ((⟨#[106, 97, 110, 102, 101, 98, 109, 97, 114, 97, 112, 114, 109, 97, 121, 106, 117, 110, 106, 117, 108, 97, 117, 103, 115, 101, 112, 111, 99, 116, 110, 111, 118, 100, 101, 99]⟩ : ByteArray).extract 21 24) = [97, 117, 103] by decide))
        by_cases hm : m = 7
        · have hq : (((⟨#[106, 97, 110, 102, 101, 98, 109, 97, 114, 97, 112, 114, 109, 97, 121, 106, 117, 110, 106, 117, 108, 97, 117, 103, 115, 101, 112, 111, 99, 116, 110, 111, 118, 100, 101, 99]⟩ : ByteArray).extract 21 24).toList == X.toList) = true := by rw [HE.out, ← HX.out]; exact HI.out 7 (by decide) hm
          have HV := Lib.hid (HA.out 7 (by decide) hm)
          clear hm
          go_wp2_with fail
          go_ret2
          exact ⟨by rw [HV.out]; rfl, hb⟩
        · have hq : (((⟨#[106, 97, 110, 102, 101, 98, 109, 97, 114, 97, 112, 114, 109, 97, 121, 106, 117, 110, 106, 117, 108, 97, 117, 103, 115, 101, 112, 111, 99, 116, 110, 111, 118, 100, 101, 99]⟩ : ByteArray).extract 21 24).toList == X.toList) = false := by rw [HE.out, ← HX.out]; exact HB.out 7 (by decide) (by have := hj.out; omega)
          have HJ := Lib.hid (show 8 ≤ m by have := hj.out; omega)
          clear hm hj
          go_wp2_with fail
          go_round
          case rel => exact .inr (.inr (.inr (.inr (.inr (.inr (.inr (.inr (.inl ⟨rfl, Lib.hid HJ.out⟩))))))))
          case measure => simp [intOf]
      · have HE := Lib.hid (mon_beq (X := X) (show bs ((⟨#[106, 97, 110, 102, 101, 98, 109, 97, 114, 97, 112, 114, 109, 97, 121, 106, 117, 110, 106, 117, 108, 97, 117, 103, 115, 101, 112, 111, 99, 116, 110, 111, 118, 100, 101, 99]⟩ : ByteArray).extract 24 27) = [115, 101, 112] by decide))
        by_cases hm : m = 8
        · have hq : (((⟨#[106, 97, 110, 102, 101, 98, 109, 97, 114, 97, 112, 114, 109, 97, 121, 106, 117, 110, 106, 117, 108, 97, 117, 103, 115, 101, 112, 111, 99, 116, 110, 111, 118, 100, 101, 99]⟩ : ByteArray).extract 24 27).toList == X.toList) = true := by rw [HE.out, ← HX.out]; exact HI.out 8 (by decide) hm
          have HV := Lib.hid (HA.out 8 (by decide) hm)
          clear hm
          go_wp2_with fail
          go_ret2
          exact ⟨by rw [HV.out]; rfl, hb⟩
        · have hq : (((⟨#[106, 97, 110, 102, 101, 98, 109, 97, 114, 97, 112, 114, 109, 97, 121, 106, 117, 110, 106, 117, 108, 97, 117, 103, 115, 101, 112, 111, 99, 116, 110, 111, 118, 100, 101, 99]⟩ : ByteArray).extract 24 27).toList == X.toList) = false := by rw [HE.out, ← HX.out]; exact HB.out 8 (by decide) (by have := hj.out; omega)
          have HJ := Lib.hid (show 9 ≤ m by have := hj.out; omega)
          clear hm hj
          go_wp2_with fail
          go_round
          case rel => exact .inr (.inr (.inr (.inr (.inr (.inr (.inr (.inr (.inr (.inl ⟨rfl, Lib.hid HJ.out⟩)))))))))
          case measure => simp [intOf]
      · have HE := Lib.hid (mon_beq (X := X) (show bs ((⟨#[106, 97, 110, 102, 101, 98, 109, 97, 114, 97, 112, 114, 109, 97, 121, 106, 117, 110, 106, 117, 108, 97, 117, 103, 115, 101, 112, 111, 99, 116, 110, 111, 118, 100, 101, 99]⟩ : ByteArray).extract 27 30) = [111, 99, 116] by decide))
        by_cases hm : m = 9
        · have hq : (((⟨#[106, 97, 110, 102, 101, 98, 109, 97, 114, 97, 112, 114, 109, 97, 121, 106, 117, 110, 106, 117, 108, 97, 117, 103, 115, 101, 112, 111, 99, 116, 110, 111, 118, 100, 101, 99]⟩ : ByteArray).extract 27 30).toList == X.toList) = true := by rw [HE.out, ← HX.out]; exact HI.out 9 (by decide) hm
          have HV := Lib.hid (HA.out 9 (by decide) hm)
          clear hm
          go_wp2_with fail
          go_ret2
          exact ⟨by rw [HV.out]; rfl, hb⟩
        · have hq : (((⟨#[106, 97, 110, 102, 101, 98, 109, 97, 114, 97, 112, 114, 109, 97, 121, 106, 117, 110, 106, 117, 108, 97, 117, 103, 115, 101, 112, 111, 99, 116, 110, 111, 118, 100, 101, 99]⟩ : ByteArray).extract 27 30).toList == X.toList) = false := by rw [HE.out, ← HX.out]; exact HB.out 9 (by decide) (by have := hj.out; omega)
          have HJ := Lib.hid (show 10 ≤ m by have := hj.out; omega)
          clear hm hj
          go_wp2_with fail
          go_round
          case rel => exact .inr (.inr (.inr (.inr (.inr (.inr (.inr (.inr (.inr (.inr (.inl ⟨rfl, Lib.hid HJ.out⟩))))))))))
          case measure => simp [intOf]
      · have HE := Lib.hid (mon_beq (X := X) (show bs ((⟨#[106, 97, 110, 102, 101, 98, 109, 97, 114, 97, 112, 114, 109, 97, 121, 106, 117, 110, 106, 117, 108, 97, 117, 103, 115, 101, 112, 111, 99, 116, 110, 111, 118, 100, 101, 99]⟩ : ByteArray).extract 30 33) = [110, 111, 118] by decide))
        by_cases hm : m = 10
        · have hq : (((⟨#[106, 97, 110, 102, 101, 98, 109, 97, 114, 97, 112, 114, 109, 97, 121, 106, 117, 110, 106, 117, 108, 97, 117, 103, 115, 101, 112, 111, 99, 116, 110, 111, 118, 100, 101, 99]⟩ : ByteArray).extract 30 33).toList == X.toList) = true := by rw [HE.out, ← HX.out]; exact HI.out 10 (by decide) hm
          have HV := Lib.hid (HA.out 10 (by decide) hm)
          clear hm
          go_wp2_with fail
          go_ret2
          exact ⟨by rw [HV.out]; rfl, hb⟩
        · have hq : (((⟨#[106, 97, 110, 102, 101, 98, 109, 97, 114, 97, 112, 114, 109, 97, 121, 106, 117, 110, 106, 117, 108, 97, 117, 103, 115, 101, 112, 111, 99, 116, 110, 111, 118, 100, 101, 99]⟩ : ByteArray).extract 30 33).toList == X.toList) = false := by rw [HE.out, ← HX.out]; exact HB.out 10 (by decide) (by have := hj.out; omega)
          have HJ := Lib.hid (show 11 ≤ m by have := hj.out; omega)
          clear hm hj
          go_wp2_with fail
          go_round
          case rel => exact .inr (.inr (.inr (.inr (.inr (.inr (.inr (.inr (.inr (.inr (.inr (.inl ⟨rfl, Lib.hid HJ.out⟩)))))))))))
          case measure => simp [intOf]
      · have HE := Lib.hid (mon_beq (X := X) (show bs ((⟨#[106, 97, 110, 102, 101, 98, 109, 97, 114, 97, 112, 114, 109, 97, 121, 106, 117, 110, 106, 117, 108, 97, 117, 103, 115, 101, 112, 111, 99, 116, 110, 111, 118, 100, 101, 99]⟩ : ByteArray).extract 33 36) = [100, 101, 99] by decide))
        by_cases hm : m = 11
        · have hq : (((⟨#[106, 97, 110, 102, 101, 98, 109, 97, 114, 97, 112, 114, 109, 97, 121, 106, 117, 110, 106, 117, 108, 97, 117, 103, 115, 101, 112, 111, 99, 116, 110, 111, 118, 100, 101, 99]⟩ : ByteArray).extract 33 36).toList == X.toList) = true := by rw [HE.out, ← HX.out]; exact HI.out 11 (by decide) hm
          have HV := Lib.hid (HA.out 11 (by decide) hm)
          clear hm
          go_wp2_with fail
          go_ret2
          exact ⟨by rw [HV.out]; rfl, hb⟩
        · have hq : (((⟨#[106, 97, 110, 102, 101, 98, 109, 97, 114, 97, 112, 114, 109, 97, 121, 106, 117, 110, 106, 117, 108, 97, 117, 103, 115, 101, 112, 111, 99, 116, 110, 111, 118, 100, 101, 99]⟩ : ByteArray).extract 33 36).toList == X.toList) = false := by rw [HE.out, ← HX.out]; exact HB.out 11 (by decide) (by have := hj.out; omega)
          have HJ := Lib.hid (show 12 ≤ m by have := hj.out; omega)
          clear hm hj
          go_wp2_with fail
          go_round
          case rel => exact .inr (.inr (.inr (.inr (.inr (.inr (.inr (.inr (.inr (.inr (.inr (.inr (⟨rfl, Lib.hid HJ.out⟩))))))))))))
          case measure => simp [intOf]
      · have HV := Lib.hid (HN.out (by have := hj.out; omega))
        clear hj
        go_wp2_with fail
        go_ret2
        exact ⟨by rw [HV.out]; rfl, hb⟩
set_option maxRecDepth 100000 in
theorem rdigs_any (s : ByteArray) (w : World) (hs : s.size ≤ 9223372036854775807) : Calls Tryz.prog 120 #[.string s] w fun e w' => e = .returned (.int .i64 (ndig s)) ∧ w = w' := by
  have hle := ndig_le s
  have HB := Lib.hid (ndig_before s)
  have HA := Lib.hid (ndig_at s)
  generalize ndig s = m at hle HB HA
  go_enter Tryz.func120, Tryz.ntmps120
  go_wp2_with fail
  go_loop [3] (fun i => ∃ k : Nat, k ≤ m ∧ i = .int .i64 k) (fun i => s.size - (intOf i).toNat)
  case atStart => exact ⟨0, Nat.zero_le _, rfl⟩
  case round =>
    obtain ⟨k, hk, rfl⟩ := hrel
    by_cases hlt : k < m
    · have hks : k < s.size := by omega
      obtain ⟨d1, d2⟩ := dig_iff.1 (HB.out k hlt hks)
      go_wp2_with fail
      go_round
      case rel => exact ⟨k + 1, by omega, by go_num⟩
      case measure => simp [intOf]; omega
    · obtain rfl : k = m := by omega
      have hx : (¬ k < s.size) ∨ (∃ h : k < s.size, ((s[k]'h).toNat : Int) < 48) ∨ (∃ h : k < s.size, 48 ≤ ((s[k]'h).toNat : Int) ∧ 57 < ((s[k]'h).toNat : Int)) := by
        by_cases h : k < s.size
        · have h2 := dig_no.1 (HA.out h)
          rcases h2 with h2 | h2
          · exact .inr (.inl ⟨h, h2⟩)
          · exact .inr (.inr ⟨h, by omega, h2⟩)
        · exact .inl h
      clear hlt hk
      rcases hx with hx | ⟨hks, hx⟩ | ⟨hks, hx, hx2⟩
      all_goals
        go_wp2_with fail
        go_ret
        exact ⟨rfl, rfl⟩
end Go.Proofs.YtngamlikhgilhaaGreatDoor
/- Contracts: the readers of a cookie's date, and the iterator over a text's words. -/
namespace Go.Proofs.YtngamlikhgilhaaGreatDoor
open Go.RowKit

/-- One reader's doing: t: it reads the word. -/
def StepP (t : Bool) (b : Nat) (y m d h n s y' m' d' h' n' s' : Int) (w : World) (e : Ending) (w' : World) : Prop :=
  e = .returned (.bool t) ∧ w.grownBy w' (some b) ∧ (t = true → ClkAt w' b y' m' d' h' n' s') ∧ (t = false → ClkAt w' b y m d h n s)
set_option maxRecDepth 100000 in
theorem reads_1 (x : ByteArray) (b : Nat) (y m d h n s : Int) (w : World) (hs : x.size ≤ 9223372036854775807) (hC : ClkAt w b y m d h n s) (hb : b < w.heap.size) :
    Calls Tryz.prog 47 #[.string x, .pointer (some ⟨b, 0, none⟩)] w (StepP (timeB x) b y m d h n s y m d (numV x) (numV (time2 x)) (numV (time2 (time2 x))) w) := by
  have HC := Lib.hid hC
  clear hC
  go_enter Tryz.func47, Tryz.ntmps47
  go_wp2_with fail
  refine (time_any x b y m d h n s _ hs HC.out hb).mono ?_
  rintro e w1 (⟨h1, rfl, h2, h3⟩ | ⟨h1, rfl, h2, h3⟩)
  all_goals
    have H1 := Lib.hid h1
    have H2 := Lib.hid h2
    have H3 := Lib.hid h3
    clear h1 h2 h3
    go_wp2_with fail
    go_ret
    rw [H1.out]
    exact ⟨rfl, H3.out, (fun h => by first | exact H2.out | cases h), (fun h => by first | exact H2.out | cases h)⟩
theorem num1_yes {s : ByteArray} {w w' : World} {e : Ending} (h1 : oneTwo s = true) (h : NumP1 s w e w') : e = .returned (.tuple #[.int .i64 (numV s), .string (afterD s), .bool true]) ∧ ∃ n, w' = w.drewN n := by
  unfold NumP1 at h; rw [if_pos h1] at h; exact h
theorem num1_no {s : ByteArray} {w w' : World} {e : Ending} (h1 : oneTwo s = false) (h : NumP1 s w e w') : e = .returned (.tuple #[.int .i64 0, .string ⟨#[]⟩, .bool false]) ∧ ∃ n, w' = w.drewN n := by
  unfold NumP1 at h; rw [if_neg (by rw [h1]; simp)] at h; exact h
set_option maxRecDepth 100000 in
theorem reads_2 (x : ByteArray) (b : Nat) (y m d h n s : Int) (w : World) (hs : x.size ≤ 9223372036854775807) (hC : ClkAt w b y m d h n s) (_hb : b < w.heap.size) :
    Calls Tryz.prog 49 #[.string x, .pointer (some ⟨b, 0, none⟩)] w (StepP (oneTwo x) b y m d h n s y m (numV x) h n s w) := by
  have HC := Lib.hid hC
  obtain ⟨c0, c1, c2, c3, c4, c5, fz⟩ := hC
  cases hv : oneTwo x
  all_goals
    have HV := Lib.hid hv
    clear hv
    go_enter Tryz.func49, Tryz.ntmps49
    go_wp2_with fail
    refine (number_1 x _ hs).mono ?_
    intro e w1 hn
  · obtain ⟨rfl, k, rfl⟩ := num1_no HV.out hn
    clear hn
    go_wp2_with fail
    go_ret
    exact ⟨rfl, GB_drewN _ _ _, (fun h => by cases h), fun _ => HC.out.drewN k⟩
  · obtain ⟨rfl, k, rfl⟩ := num1_yes HV.out hn
    clear hn
    go_wp2_with fail
    go_ret
    exact ⟨rfl, (GB_drewN _ k _).trans (GB_set _ _ _ _), fun _ => (HC.out.drewN k).s2 _, (fun h => by cases h)⟩
theorem num2_yes {s : ByteArray} {w w' : World} {e : Ending} (h1 : twoFour s = true) (h : NumP2 s w e w') : e = .returned (.tuple #[.int .i64 (numV s), .string (afterD s), .bool true]) ∧ ∃ n, w' = w.drewN n := by
  unfold NumP2 at h; rw [if_pos h1] at h; exact h
theorem num2_no {s : ByteArray} {w w' : World} {e : Ending} (h1 : twoFour s = false) (h : NumP2 s w e w') : e = .returned (.tuple #[.int .i64 0, .string ⟨#[]⟩, .bool false]) ∧ ∃ n, w' = w.drewN n := by
  unfold NumP2 at h; rw [if_neg (by rw [h1]; simp)] at h; exact h
set_option maxRecDepth 100000 in
theorem reads_4 (x : ByteArray) (b : Nat) (y m d h n s : Int) (w : World) (hs : x.size ≤ 9223372036854775807) (hC : ClkAt w b y m d h n s) (_hb : b < w.heap.size) :
    Calls Tryz.prog 53 #[.string x, .pointer (some ⟨b, 0, none⟩)] w (StepP (twoFour x) b y m d h n s (numV x) m d h n s w) := by
  have HC := Lib.hid hC
  obtain ⟨c0, c1, c2, c3, c4, c5, fz⟩ := hC
  cases hv : twoFour x
  all_goals
    have HV := Lib.hid hv
    clear hv
    go_enter Tryz.func53, Tryz.ntmps53
    go_wp2_with fail
    refine (number_2 x _ hs).mono ?_
    intro e w1 hn
  · obtain ⟨rfl, k, rfl⟩ := num2_no HV.out hn
    clear hn
    go_wp2_with fail
    go_ret
    exact ⟨rfl, GB_drewN _ _ _, (fun h => by cases h), fun _ => HC.out.drewN k⟩
  · obtain ⟨rfl, k, rfl⟩ := num2_yes HV.out hn
    clear hn
    go_wp2_with fail
    go_ret
    exact ⟨rfl, (GB_drewN _ k _).trans (GB_set _ _ _ _), fun _ => (HC.out.drewN k).s0 _, (fun h => by cases h)⟩
def monB (x : ByteArray) : Bool := decide (0 < monthN x)
set_option maxRecDepth 100000 in
theorem reads_3 (x : ByteArray) (b : Nat) (y m d h n s : Int) (w : World) (hs : x.size ≤ 9223372036854775807) (hC : ClkAt w b y m d h n s) (hb : b < w.heap.size) :
    Calls Tryz.prog 51 #[.string x, .pointer (some ⟨b, 0, none⟩)] w (StepP (monB x) b y m d h n s y (monthN x) d h n s w) := by
  have HC := Lib.hid hC
  clear hC
  cases hv : monB x
  all_goals
    have HV := Lib.hid (show monV x = .tuple #[.int .i64 (monthN x), .bool (monB x)] from rfl)
    have HW := Lib.hid hv
    clear hv
    go_enter Tryz.func51, Tryz.ntmps51
    go_wp2_with fail
    refine (month_any x _ hs).mono ?_
    rintro e w1 ⟨rfl, hb1⟩
    rw [HV.out, HW.out]
    have hC1 := HC.out.below hb hb1
    have HC1 := Lib.hid hC1
    obtain ⟨c0, c1, c2, c3, c4, c5, fz⟩ := hC1
    have HG := Lib.hid (GB_below hb1 (some b))
    clear hb1
    go_wp2_with fail
    go_ret
  · exact ⟨rfl, HG.out, (fun h => by cases h), fun _ => HC1.out⟩
  · exact ⟨rfl, HG.out.trans (GB_set _ _ _ _), fun _ => HC1.out.s1 _, (fun h => by cases h)⟩
set_option maxRecDepth 100000 in
theorem words_any (s : ByteArray) (w : World) : Calls Tryz.prog 54 #[.string s] w fun e w' => e = .returned (.func (.func 89) #[] #[.pointer (some ⟨w.heap.size, 0, none⟩)]) ∧ w' = w.alloc (.cells #[.string s] 9) := by
  go_enter Tryz.func54, Tryz.ntmps54
  go_wp2_with fail
  go_ret
  exact ⟨rfl, rfl⟩
/-- A word, not longer than any text. -/
abbrev Wd := { x : ByteArray // x.size ≤ 9223372036854775807 }
/-- The words that have come, and what is left. -/
def WordsAt (s : ByteArray) (pre : List Wd) (f k : Nat) : Prop := wordsA [] (bs s) = pre.map (fun x => bs x.1) ++ wordsA (((bs s).take k).drop f) ((bs s).drop k)
theorem wordsAt_start (s : ByteArray) : WordsAt s [] 0 0 := by simp [WordsAt]
theorem drop_at (s : ByteArray) (k : Nat) (h : k < s.size) : (bs s).drop k = s[k] :: (bs s).drop (k + 1) := by
  rw [List.drop_eq_getElem_cons (by rw [← size_bs]; exact h)]
  rfl
theorem cur_snoc (s : ByteArray) (f k : Nat) (hf : f ≤ k) (h : k < s.size) : ((bs s).take (k + 1)).drop f = ((bs s).take k).drop f ++ [s[k]] := by
  rw [take_snoc s k h, List.drop_append_of_le_length (by rw [List.length_take, ← size_bs]; omega)]
theorem cur_nil (s : ByteArray) (k : Nat) : ((bs s).take k).drop k = [] := by rw [List.drop_eq_nil_iff, List.length_take]; omega
theorem cur_ne (s : ByteArray) (f k : Nat) (hf : f < k) (h : k ≤ s.size) : ((bs s).take k).drop f ≠ [] := by
  rw [Ne, List.drop_eq_nil_iff, List.length_take, ← size_bs]; omega
theorem wordsAt_skip {s : ByteArray} {pre : List Wd} {f k : Nat} (h : WordsAt s pre f k) (hf : f ≤ k) (hk : k < s.size) (hp : partsB ((s[k]'hk).toNat : Int) = false) : WordsAt s pre f (k + 1) := by
  unfold WordsAt at *
  rw [h, drop_at s k hk, cur_snoc s f k hf hk]
  rw [wordsA, if_neg (by rw [hp]; simp)]
theorem wordsAt_none {s : ByteArray} {pre : List Wd} {k : Nat} (h : WordsAt s pre k k) (hk : k < s.size) (hp : partsB ((s[k]'hk).toNat : Int) = true) : WordsAt s pre (k + 1) (k + 1) := by
  unfold WordsAt at *
  rw [h, drop_at s k hk, cur_nil, cur_nil, wordsA, if_pos hp, if_pos rfl]
theorem wordsAt_word {s : ByteArray} {pre : List Wd} {f k : Nat} (h : WordsAt s pre f k) (hf : f < k) (hk : k < s.size) (hp : partsB ((s[k]'hk).toNat : Int) = true) (x : Wd) (hx : x.1 = s.extract f k) : WordsAt s (pre ++ [x]) (k + 1) (k + 1) := by
  unfold WordsAt at *
  rw [h, drop_at s k hk, cur_nil, wordsA, if_pos hp, if_neg (cur_ne s f k hf (by omega)), List.map_append, List.append_assoc]
  congr 1
  simp only [List.map_cons, List.map_nil, hx, bs_extract]
  rfl
theorem wordsAt_end {s : ByteArray} {pre : List Wd} {k : Nat} (h : WordsAt s pre k k) (hk : s.size ≤ k) : wordsS s = pre.map (·.1) := by
  unfold WordsAt at h
  unfold wordsS
  rw [cur_nil, List.drop_of_length_le (by rw [← size_bs]; exact hk), wordsA, if_pos rfl, List.append_nil] at h
  rw [h, List.map_map]
  exact List.map_congr_left fun x _ => mk_bs x.1
theorem wordsAt_last {s : ByteArray} {pre : List Wd} {f k : Nat} (h : WordsAt s pre f k) (hf : f < k) (hk : k = s.size) (x : Wd) (hx : x.1 = s.extract f k) : WordsAt s (pre ++ [x]) (k + 1) (k + 1) := by
  unfold WordsAt at *
  rw [h, cur_nil, List.drop_of_length_le (l := bs s) (i := k) (by rw [← size_bs, hk]; exact Nat.le_refl _), List.drop_of_length_le (l := bs s) (i := k + 1) (by rw [← size_bs, hk]; omega), wordsA, if_neg (cur_ne s f k hf (by omega)), wordsA, if_pos rfl, List.map_append, List.append_assoc]
  congr 1
  simp only [List.map_cons, List.map_nil, hx, bs_extract]
  rfl
theorem wordsAt_over {s : ByteArray} {pre : List Wd} {k : Nat} (h : WordsAt s pre k k) (hk : k = s.size) : WordsAt s pre (k + 1) (k + 1) := by
  unfold WordsAt at *
  rw [h, cur_nil, cur_nil, List.drop_of_length_le (l := bs s) (i := k) (by rw [← size_bs, hk]; exact Nat.le_refl _), List.drop_of_length_le (l := bs s) (i := k + 1) (by rw [← size_bs, hk]; omega)]
end Go.Proofs.YtngamlikhgilhaaGreatDoor
/- The iterator over a text's words: its contract. -/
namespace Go.Proofs.YtngamlikhgilhaaGreatDoor
open Go.RowKit
attribute [local go_sem] Oper.semAt_some

set_option maxRecDepth 100000 in
set_option maxHeartbeats 2000000 in
theorem words1_in (n : Nat) (hn : 1 ≤ n) (l Bs : Nat) (s : ByteArray) (hs : s.size ≤ 9223372036854775806) (J Jx : List Wd → World → Prop)
    (hY : ∀ pre x W, J pre W → pre.length < s.size + 1 → YieldAt Fence.wide (n - 1) Tryz.prog l #[.string x.1] W fun e W' =>
      (e = .returned (.bool true) ∧ J (pre ++ [x]) W' ∧ W'.cell? ⟨Bs, 0, none⟩ = W.cell? ⟨Bs, 0, none⟩) ∨ (e = .returned (.bool false) ∧ Jx (pre ++ [x]) W'))
    (W : World) (hBs : W.cell? ⟨Bs, 0, none⟩ = some (.string s)) (h0 : J [] W) :
    CallsIn Fence.wide n Tryz.prog 89 #[.func (.yield l) #[] #[], .pointer (some ⟨Bs, 0, none⟩)] W fun e W' => (∃ v, e = .returned v) ∧
      ((∃ ys : List Wd, ys.map (·.1) = wordsS s ∧ J ys W') ∨ (∃ pre : List Wd, True ∧ Jx pre W')) := by
  refine callsIn_of_wp Tryz.func89 rfl trivial ?_ rfl
  simp only [Tryz.ntmps89, List.size_toArray, List.length_cons, List.length_nil, Nat.reduceAdd, Nat.reduceSub, Array.replicate_succ, Array.replicate_zero, List.push_toArray, List.append_toArray, List.nil_append, List.cons_append]
  have hro : Fence.wide.round = none := rfl
  gi_wp2
  gi_loopw [3, 4] (fun fv kv wr => ∃ (pre : List Wd) (f k : Nat), f ≤ k ∧ k ≤ s.size + 1 ∧ (k = s.size + 1 → f = k) ∧ fv = .int .i64 f ∧ kv = .int .i64 k ∧ Hid (WordsAt s pre f k) ∧ pre.length ≤ k ∧ J pre wr ∧ wr.cell? ⟨Bs, 0, none⟩ = some (.string s))
    (fun _ kv _ => s.size + 1 - (intOf kv).toNat)
  case atStart => exact ⟨[], 0, 0, Nat.le_refl _, by omega, fun h => by omega, rfl, rfl, Lib.hid (wordsAt_start s), Nat.le_refl _, h0, hBs⟩
  case round =>
    obtain ⟨pre, f, k, hf, hk, hlast, rfl, rfl, HW, hlen, hJ, hc⟩ := hrel
    have HL := Lib.hid hlast
    have HJ := Lib.hid hJ
    have HY := Lib.hid hY
    clear hlast hJ hY h0
    by_cases hk1 : k ≤ s.size
    · by_cases hk2 : k < s.size
      · cases hp : partsB ((s[k]'hk2).toNat : Int)
        · have HN := Lib.hid (wordsAt_skip HW.out hf hk2 hp)
          clear HW
          gi_wp2_with (refine ⟨trivial, ?_⟩; gi_at_call 90; refine (callsIn_wide.2 (parts_any _ _)).mono ?_; rintro e w' ⟨rfl, rfl⟩)
          go_roundw
          case rel => exact ⟨pre, f, k + 1, by omega, by omega, fun h => by omega, rfl, by go_num, HN, by omega, HJ.out, hc⟩
          case measure => simp [intOf]; omega
        · by_cases hfk : f < k
          · have hz : (s.extract f k).size ≤ 9223372036854775807 := by rw [ByteArray.size_extract]; omega
            have HN := Lib.hid (wordsAt_word HW.out hfk hk2 hp ⟨s.extract f k, hz⟩ rfl)
            obtain ⟨fn, tmps, assign, body, hy, hR⟩ := HY.out pre ⟨s.extract f k, hz⟩ wr HJ.out (by omega)
            dsimp only at hy
            clear HW
            gi_wp2_with (refine ⟨trivial, ?_⟩; gi_at_call 90; refine (callsIn_wide.2 (parts_any _ _)).mono ?_; rintro e w' ⟨rfl, rfl⟩)
            refine hR.mono ?_
            rintro e W3 (⟨rfl, hJ3, hk3⟩ | ⟨rfl, hJx3⟩)
            · rw [hc] at hk3
              have HJ3 := Lib.hid hJ3
              clear hJ3 hc hR hy HJ
              gi_wp2
              go_roundw
              case rel => exact ⟨pre ++ [⟨s.extract f k, hz⟩], k + 1, k + 1, by omega, by omega, fun h => rfl, by go_num, by go_num, HN, by rw [List.length_append]; exact Nat.add_le_add_right hlen 1, HJ3.out, hk3⟩
              case measure => simp [intOf]; omega
            · have HJ3 := Lib.hid hJx3
              clear hJx3 hc hR hy HJ
              gi_wp2
              refine bodyPost_ret (results_none rfl _ _ _) rfl ?_
              exact ⟨⟨_, rfl⟩, .inr ⟨_, trivial, HJ3.out⟩⟩
          · obtain rfl : f = k := by omega
            have HN := Lib.hid (wordsAt_none HW.out hk2 hp)
            clear HW hfk
            gi_wp2_with (refine ⟨trivial, ?_⟩; gi_at_call 90; refine (callsIn_wide.2 (parts_any _ _)).mono ?_; rintro e w' ⟨rfl, rfl⟩)
            refine ⟨fun _ h => (by cases h), ?_⟩
            gi_wp2
            go_roundw
            case rel => exact ⟨pre, f + 1, f + 1, by omega, by omega, fun h => rfl, by go_num, by go_num, HN, by omega, HJ.out, hc⟩
            case measure => simp [intOf]; omega
      · have hks : k = s.size := by omega
        have HK := Lib.hid hks
        have hnl : decide ((k : Int) < (s.size : Int)) = false := by simp; omega
        have hnl2 : ¬ (k < s.size) := hk2
        clear hks
        by_cases hfk : f < k
        · have hz : (s.extract f k).size ≤ 9223372036854775807 := by rw [ByteArray.size_extract]; omega
          have HN := Lib.hid (wordsAt_last HW.out hfk HK.out ⟨s.extract f k, hz⟩ rfl)
          obtain ⟨fn, tmps, assign, body, hy, hR⟩ := HY.out pre ⟨s.extract f k, hz⟩ wr HJ.out (by omega)
          dsimp only at hy
          clear HW
          gi_wp2
          refine ⟨trivial, ?_⟩
          gi_wp2
          refine hR.mono ?_
          rintro e W3 (⟨rfl, hJ3, hk3⟩ | ⟨rfl, hJx3⟩)
          · rw [hc] at hk3
            have HJ3 := Lib.hid hJ3
            clear hJ3 hc hR hy HJ
            gi_wp2
            go_roundw
            case rel => exact ⟨pre ++ [⟨s.extract f k, hz⟩], k + 1, k + 1, by omega, by omega, fun h => rfl, by go_num, by go_num, HN, by rw [List.length_append]; exact Nat.add_le_add_right hlen 1, HJ3.out, hk3⟩
            case measure => simp [intOf]; omega
          · have HJ3 := Lib.hid hJx3
            clear hJx3 hc hR hy HJ
            gi_wp2
            refine bodyPost_ret (results_none rfl _ _ _) rfl ?_
            exact ⟨⟨_, rfl⟩, .inr ⟨_, trivial, HJ3.out⟩⟩
        · obtain rfl : f = k := by omega
          have HN := Lib.hid (wordsAt_over HW.out HK.out)
          clear HW hfk
          gi_wp2
          refine ⟨trivial, ?_⟩
          gi_wp2
          refine ⟨fun _ h => (by cases h), ?_⟩
          gi_wp2
          go_roundw
          case rel => exact ⟨pre, f + 1, f + 1, by omega, by omega, fun h => rfl, by go_num, by go_num, HN, by omega, HJ.out, hc⟩
          case measure => simp [intOf]; omega
    · obtain rfl : f = k := HL.out (by omega)
      have HE := Lib.hid (wordsAt_end HW.out (by omega))
      have hnl : decide ((f : Int) ≤ (s.size : Int)) = false := by simp; omega
      clear HW
      gi_wp2
      go_end0
      exact ⟨⟨_, rfl⟩, .inl ⟨_, HE.out.symm, HJ.out⟩⟩
end Go.Proofs.YtngamlikhgilhaaGreatDoor
/- What Cookie holds between two words. -/
namespace Go.Proofs.YtngamlikhgilhaaGreatDoor
open Go.RowKit

/-- The clock, what has been had, the readers: in three blocks of the call's own. -/
structure CkAt (w W : World) (f : Fd) : Prop where
  clk : ClkAt W w.heap.size f.y f.m f.d f.h f.n f.s
  h0 : W.cell? ⟨w.heap.size + 1, 0, none⟩ = some (.bool f.ht)
  h1 : W.cell? ⟨w.heap.size + 1, 1, none⟩ = some (.bool f.hd)
  h2 : W.cell? ⟨w.heap.size + 1, 2, none⟩ = some (.bool f.hm)
  h3 : W.cell? ⟨w.heap.size + 1, 3, none⟩ = some (.bool f.hy)
  hz : ∀ o, W.frozen? ⟨w.heap.size + 1, o, none⟩ = false
  k0 : W.cell? ⟨w.heap.size + 2, 0, none⟩ = some (.func (.func 47) #[] #[.pointer (some ⟨w.heap.size, 0, none⟩)])
  k1 : W.cell? ⟨w.heap.size + 2, 1, none⟩ = some (.func (.func 49) #[] #[.pointer (some ⟨w.heap.size, 0, none⟩)])
  k2 : W.cell? ⟨w.heap.size + 2, 2, none⟩ = some (.func (.func 51) #[] #[.pointer (some ⟨w.heap.size, 0, none⟩)])
  k3 : W.cell? ⟨w.heap.size + 2, 3, none⟩ = some (.func (.func 53) #[] #[.pointer (some ⟨w.heap.size, 0, none⟩)])
  bel : Below w.heap.size w W
  size : w.heap.size + 3 < W.heap.size
theorem CkAt.blocks {w W W' : World} {f : Fd} (h : CkAt w W f) (hb : ∀ i, i < 3 → W'.heap[w.heap.size + i]? = W.heap[w.heap.size + i]?) (bel : Below w.heap.size w W') (size : W.heap.size ≤ W'.heap.size) : CkAt w W' f := by
  have c0 : ∀ o, W'.cell? ⟨w.heap.size, o, none⟩ = W.cell? ⟨w.heap.size, o, none⟩ := fun o => World.cell?_of_block (hb 0 (by decide))
  have c1 : ∀ o, W'.cell? ⟨w.heap.size + 1, o, none⟩ = W.cell? ⟨w.heap.size + 1, o, none⟩ := fun o => World.cell?_of_block (hb 1 (by decide))
  have c2 : ∀ o, W'.cell? ⟨w.heap.size + 2, o, none⟩ = W.cell? ⟨w.heap.size + 2, o, none⟩ := fun o => World.cell?_of_block (hb 2 (by decide))
  have z0 : ∀ o, W'.frozen? ⟨w.heap.size, o, none⟩ = W.frozen? ⟨w.heap.size, o, none⟩ := fun o => World.frozen?_of_block (hb 0 (by decide))
  have z1 : ∀ o, W'.frozen? ⟨w.heap.size + 1, o, none⟩ = W.frozen? ⟨w.heap.size + 1, o, none⟩ := fun o => World.frozen?_of_block (hb 1 (by decide))
  have hc := h.clk
  exact ⟨⟨by rw [c0]; exact hc.c0, by rw [c0]; exact hc.c1, by rw [c0]; exact hc.c2, by rw [c0]; exact hc.c3, by rw [c0]; exact hc.c4, by rw [c0]; exact hc.c5, fun o => by rw [z0]; exact hc.fz o⟩,
    by rw [c1]; exact h.h0, by rw [c1]; exact h.h1, by rw [c1]; exact h.h2, by rw [c1]; exact h.h3, fun o => by rw [z1]; exact h.hz o,
    by rw [c2]; exact h.k0, by rw [c2]; exact h.k1, by rw [c2]; exact h.k2, by rw [c2]; exact h.k3, bel, Nat.lt_of_lt_of_le h.size size⟩
theorem CkAt.read {w W W' : World} {f : Fd} (h : CkAt w W f) (hg : W.grownBy W' (some w.heap.size)) {y m d hh n s : Int} (hc : ClkAt W' w.heap.size y m d hh n s) : CkAt w W' { f with y := y, m := m, d := d, h := hh, n := n, s := s } := by
  have hs := h.size
  have c1 : ∀ o, W'.cell? ⟨w.heap.size + 1, o, none⟩ = W.cell? ⟨w.heap.size + 1, o, none⟩ := fun o => hg.cell_far _ (by show w.heap.size + 1 < _; omega) (by show some (w.heap.size + 1) ≠ _; intro e; injection e with e; omega)
  have c2 : ∀ o, W'.cell? ⟨w.heap.size + 2, o, none⟩ = W.cell? ⟨w.heap.size + 2, o, none⟩ := fun o => hg.cell_far _ (by show w.heap.size + 2 < _; omega) (by show some (w.heap.size + 2) ≠ _; intro e; injection e with e; omega)
  have z1 : ∀ o, W'.frozen? ⟨w.heap.size + 1, o, none⟩ = W.frozen? ⟨w.heap.size + 1, o, none⟩ := fun o => hg.frozen_far _ (by show w.heap.size + 1 < _; omega) (by show some (w.heap.size + 1) ≠ _; intro e; injection e with e; omega)
  exact ⟨hc, by rw [c1]; exact h.h0, by rw [c1]; exact h.h1, by rw [c1]; exact h.h2, by rw [c1]; exact h.h3, fun o => by rw [z1]; exact h.hz o,
    by rw [c2]; exact h.k0, by rw [c2]; exact h.k1, by rw [c2]; exact h.k2, by rw [c2]; exact h.k3,
    h.bel.grown hg h.bel.size (fun k e => by cases e; exact Nat.le_refl _), Nat.lt_of_lt_of_le hs hg.size⟩
theorem ne_blk {b b' i j : Nat} (h : b ≠ b') : (⟨b, i, none⟩ : Addr) ≠ ⟨b', j, none⟩ := fun e => by injection e with e1; exact h e1
theorem ClkAt.far {W : World} {b b' o : Nat} {y m d h n s : Int} (hC : ClkAt W b y m d h n s) (v : Value) (hne : b' ≠ b) : ClkAt (W.setCell ⟨b', o, none⟩ v) b y m d h n s :=
  ⟨by rw [World.cell?_setCell_other _ _ _ _ (ne_blk hne)]; exact hC.c0, by rw [World.cell?_setCell_other _ _ _ _ (ne_blk hne)]; exact hC.c1, by rw [World.cell?_setCell_other _ _ _ _ (ne_blk hne)]; exact hC.c2,
   by rw [World.cell?_setCell_other _ _ _ _ (ne_blk hne)]; exact hC.c3, by rw [World.cell?_setCell_other _ _ _ _ (ne_blk hne)]; exact hC.c4, by rw [World.cell?_setCell_other _ _ _ _ (ne_blk hne)]; exact hC.c5, fun o => by rw [World.frozen?_setCell]; exact hC.fz o⟩
theorem CkAt.had0 {w W : World} {f : Fd} (h : CkAt w W f) : CkAt w (W.setCell ⟨w.heap.size + 1, 0, none⟩ (.bool true)) { f with ht := true } :=
  ⟨h.clk.far _ (by omega), World.cell?_setCell_same' _ _ _ (by rw [h.h0]; rfl), by rw [World.cell?_setCell_other _ _ _ _ (ne_off (by decide))]; exact h.h1, by rw [World.cell?_setCell_other _ _ _ _ (ne_off (by decide))]; exact h.h2, by rw [World.cell?_setCell_other _ _ _ _ (ne_off (by decide))]; exact h.h3, fun o => by rw [World.frozen?_setCell]; exact h.hz o, by rw [World.cell?_setCell_other _ _ _ _ (ne_blk (by omega))]; exact h.k0, by rw [World.cell?_setCell_other _ _ _ _ (ne_blk (by omega))]; exact h.k1, by rw [World.cell?_setCell_other _ _ _ _ (ne_blk (by omega))]; exact h.k2, by rw [World.cell?_setCell_other _ _ _ _ (ne_blk (by omega))]; exact h.k3, h.bel.setCell (by show w.heap.size ≤ w.heap.size + 1; omega) _, by rw [World.size_setCell]; exact h.size⟩
theorem CkAt.had1 {w W : World} {f : Fd} (h : CkAt w W f) : CkAt w (W.setCell ⟨w.heap.size + 1, 1, none⟩ (.bool true)) { f with hd := true } :=
  ⟨h.clk.far _ (by omega), by rw [World.cell?_setCell_other _ _ _ _ (ne_off (by decide))]; exact h.h0, World.cell?_setCell_same' _ _ _ (by rw [h.h1]; rfl), by rw [World.cell?_setCell_other _ _ _ _ (ne_off (by decide))]; exact h.h2, by rw [World.cell?_setCell_other _ _ _ _ (ne_off (by decide))]; exact h.h3, fun o => by rw [World.frozen?_setCell]; exact h.hz o, by rw [World.cell?_setCell_other _ _ _ _ (ne_blk (by omega))]; exact h.k0, by rw [World.cell?_setCell_other _ _ _ _ (ne_blk (by omega))]; exact h.k1, by rw [World.cell?_setCell_other _ _ _ _ (ne_blk (by omega))]; exact h.k2, by rw [World.cell?_setCell_other _ _ _ _ (ne_blk (by omega))]; exact h.k3, h.bel.setCell (by show w.heap.size ≤ w.heap.size + 1; omega) _, by rw [World.size_setCell]; exact h.size⟩
theorem CkAt.had2 {w W : World} {f : Fd} (h : CkAt w W f) : CkAt w (W.setCell ⟨w.heap.size + 1, 2, none⟩ (.bool true)) { f with hm := true } :=
  ⟨h.clk.far _ (by omega), by rw [World.cell?_setCell_other _ _ _ _ (ne_off (by decide))]; exact h.h0, by rw [World.cell?_setCell_other _ _ _ _ (ne_off (by decide))]; exact h.h1, World.cell?_setCell_same' _ _ _ (by rw [h.h2]; rfl), by rw [World.cell?_setCell_other _ _ _ _ (ne_off (by decide))]; exact h.h3, fun o => by rw [World.frozen?_setCell]; exact h.hz o, by rw [World.cell?_setCell_other _ _ _ _ (ne_blk (by omega))]; exact h.k0, by rw [World.cell?_setCell_other _ _ _ _ (ne_blk (by omega))]; exact h.k1, by rw [World.cell?_setCell_other _ _ _ _ (ne_blk (by omega))]; exact h.k2, by rw [World.cell?_setCell_other _ _ _ _ (ne_blk (by omega))]; exact h.k3, h.bel.setCell (by show w.heap.size ≤ w.heap.size + 1; omega) _, by rw [World.size_setCell]; exact h.size⟩
theorem CkAt.had3 {w W : World} {f : Fd} (h : CkAt w W f) : CkAt w (W.setCell ⟨w.heap.size + 1, 3, none⟩ (.bool true)) { f with hy := true } :=
  ⟨h.clk.far _ (by omega), by rw [World.cell?_setCell_other _ _ _ _ (ne_off (by decide))]; exact h.h0, by rw [World.cell?_setCell_other _ _ _ _ (ne_off (by decide))]; exact h.h1, by rw [World.cell?_setCell_other _ _ _ _ (ne_off (by decide))]; exact h.h2, World.cell?_setCell_same' _ _ _ (by rw [h.h3]; rfl), fun o => by rw [World.frozen?_setCell]; exact h.hz o, by rw [World.cell?_setCell_other _ _ _ _ (ne_blk (by omega))]; exact h.k0, by rw [World.cell?_setCell_other _ _ _ _ (ne_blk (by omega))]; exact h.k1, by rw [World.cell?_setCell_other _ _ _ _ (ne_blk (by omega))]; exact h.k2, by rw [World.cell?_setCell_other _ _ _ _ (ne_blk (by omega))]; exact h.k3, h.bel.setCell (by show w.heap.size ≤ w.heap.size + 1; omega) _, by rw [World.size_setCell]; exact h.size⟩
theorem CkAt.own (w : World) (g : List Wd → Fd) (B : Nat) (hB : w.heap.size ≤ B) : OwnFrom B (fun (pre : List Wd) W => CkAt w W (g pre)) := by
  intro pre W W' row h hg hr
  have hs := h.size
  have hb : ∀ b, b < W.heap.size → (∃ v, W.cell? ⟨b, 0, none⟩ = some v) → W'.heap[b]? = W.heap[b]? := by
    rintro b hlt ⟨v, hv⟩
    obtain ⟨o, ho, hc⟩ := cells_of_cell hv
    exact grownBy_keeps_cells hg (fun r e => (hr r e).2) ho hc
  refine h.blocks ?_ (h.bel.grown hg h.bel.size (fun k e => Nat.le_trans hB (hr k e).1)) hg.size
  intro i hi
  have : i = 0 ∨ i = 1 ∨ i = 2 := by omega
  rcases this with rfl | rfl | rfl
  · exact hb _ (by omega) ⟨_, h.clk.c0⟩
  · exact hb _ (by omega) ⟨_, h.h0⟩
  · exact hb _ (by omega) ⟨_, h.k0⟩
theorem next_0 {f : Fd} {x : ByteArray}  (h0 : f.ht = false ∧ timeB x = true) : nextF f x = { f with ht := true, h := numV x, n := numV (time2 x), s := numV (time2 (time2 x)) } := by
  unfold nextF
  rw [if_pos h0]
theorem next_1 {f : Fd} {x : ByteArray} (h0 : ¬ (f.ht = false ∧ timeB x = true)) (h1 : f.hd = false ∧ oneTwo x = true) : nextF f x = { f with hd := true, d := numV x } := by
  unfold nextF
  rw [if_neg h0, if_pos h1]
theorem next_2 {f : Fd} {x : ByteArray} (h0 : ¬ (f.ht = false ∧ timeB x = true)) (h1 : ¬ (f.hd = false ∧ oneTwo x = true)) (h2 : f.hm = false ∧ 0 < monthN x) : nextF f x = { f with hm := true, m := monthN x } := by
  unfold nextF
  rw [if_neg h0, if_neg h1, if_pos h2]
theorem next_3 {f : Fd} {x : ByteArray} (h0 : ¬ (f.ht = false ∧ timeB x = true)) (h1 : ¬ (f.hd = false ∧ oneTwo x = true)) (h2 : ¬ (f.hm = false ∧ 0 < monthN x)) (h3 : f.hy = false ∧ twoFour x = true) : nextF f x = { f with hy := true, y := numV x } := by
  unfold nextF
  rw [if_neg h0, if_neg h1, if_neg h2, if_pos h3]
theorem next_4 {f : Fd} {x : ByteArray} (h0 : ¬ (f.ht = false ∧ timeB x = true)) (h1 : ¬ (f.hd = false ∧ oneTwo x = true)) (h2 : ¬ (f.hm = false ∧ 0 < monthN x)) (h3 : ¬ (f.hy = false ∧ twoFour x = true)) : nextF f x = f := by
  unfold nextF
  rw [if_neg h0, if_neg h1, if_neg h2, if_neg h3]
theorem CkAt.acc0 {w W W2 : World} {f : Fd} {x : ByteArray} (h : CkAt w W f) (hg : W.grownBy W2 (some w.heap.size)) (hc : ClkAt W2 w.heap.size f.y f.m f.d (numV x) (numV (time2 x)) (numV (time2 (time2 x)))) (hn : nextF f x = { f with ht := true, h := numV x, n := numV (time2 x), s := numV (time2 (time2 x)) }) : CkAt w (W2.setCell ⟨w.heap.size + 1, 0, none⟩ (.bool true)) (nextF f x) := by
  rw [hn]
  have h3 := (h.read hg hc).had0
  dsimp only at h3
  exact h3
theorem CkAt.acc1 {w W W2 : World} {f : Fd} {x : ByteArray} (h : CkAt w W f) (hg : W.grownBy W2 (some w.heap.size)) (hc : ClkAt W2 w.heap.size f.y f.m (numV x) f.h f.n f.s) (hn : nextF f x = { f with hd := true, d := numV x }) : CkAt w (W2.setCell ⟨w.heap.size + 1, 1, none⟩ (.bool true)) (nextF f x) := by
  rw [hn]
  have h3 := (h.read hg hc).had1
  dsimp only at h3
  exact h3
theorem CkAt.acc2 {w W W2 : World} {f : Fd} {x : ByteArray} (h : CkAt w W f) (hg : W.grownBy W2 (some w.heap.size)) (hc : ClkAt W2 w.heap.size f.y (monthN x) f.d f.h f.n f.s) (hn : nextF f x = { f with hm := true, m := monthN x }) : CkAt w (W2.setCell ⟨w.heap.size + 1, 2, none⟩ (.bool true)) (nextF f x) := by
  rw [hn]
  have h3 := (h.read hg hc).had2
  dsimp only at h3
  exact h3
theorem CkAt.acc3 {w W W2 : World} {f : Fd} {x : ByteArray} (h : CkAt w W f) (hg : W.grownBy W2 (some w.heap.size)) (hc : ClkAt W2 w.heap.size (numV x) f.m f.d f.h f.n f.s) (hn : nextF f x = { f with hy := true, y := numV x }) : CkAt w (W2.setCell ⟨w.heap.size + 1, 3, none⟩ (.bool true)) (nextF f x) := by
  rw [hn]
  have h3 := (h.read hg hc).had3
  dsimp only at h3
  exact h3
theorem CkAt.rej {w W W2 : World} {f : Fd} (h : CkAt w W f) (hg : W.grownBy W2 (some w.heap.size)) (hc : ClkAt W2 w.heap.size f.y f.m f.d f.h f.n f.s) : CkAt w W2 f := h.read hg hc
/-- Where the words' text lies, and what a round keeps. -/
def KpB (Bs : Nat) (A B : World) : Prop := B.cell? ⟨Bs, 0, none⟩ = A.cell? ⟨Bs, 0, none⟩
theorem words_stops (n : Nat) (hn : 1 ≤ n) (Bs : Nat) (s : ByteArray) (hs : s.size ≤ 9223372036854775806) (w : World) (hB : Bs < w.heap.size) (hc : w.cell? ⟨Bs, 0, none⟩ = some (.string s)) :
    SeqStopsK Fence.wide n Tryz.prog 89 #[.pointer (some ⟨Bs, 0, none⟩)] (fun x : Wd => #[.string x.1]) (KpB Bs) (fun ys => ys.map (·.1) = wordsS s) (fun _ => True) (s.size + 1) w := fun l J Jx W hW _ _ hY h0 =>
  words1_in n hn l Bs s hs J Jx hY W ((hW.cell (p := ⟨Bs, 0, none⟩) hB).trans hc) h0
instance (y m d h n s : Int) : Decidable (vclk y m d h n s) := by unfold vclk vld; infer_instance
/-- What the words of a date tell. -/
def fdV (f : Fd) : Value := if f.allB = true ∧ 1601 ≤ cent f.y ∧ vclk (cent f.y) f.m f.d f.h f.n f.s then .tuple #[.int .i64 (secs (cent f.y) f.m f.d f.h f.n f.s), .bool true] else .tuple #[.int .i64 0, .bool false]
def cookieV (s : ByteArray) : Value := fdV (foundL (wordsS s))
end Go.Proofs.YtngamlikhgilhaaGreatDoor
