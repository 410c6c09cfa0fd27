/- The calendar in plain numbers: no program is named here. -/
import Derived.Test.YtngamlikhgilhaaGreatDoorProg
import Derived.WalkKit
import Derived.Below
import Derived.Lib.Hide
import Derived.LoopTactic
import Derived.WalkSpells
import Derived.Outline
import Derived.KernelRfl
import Derived.Deep.LoopGhost
import Derived.WalkMore
namespace Go.Proofs.YtngamlikhgilhaaGreatDoor

/-- Years with a day more. -/
def leapB (y : Int) : Bool := (y.tmod 4 == 0 && !(y.tmod 100 == 0)) || y.tmod 400 == 0
theorem leapB_iff (y : Int) : leapB y = true ↔ ((y % 4 = 0 ∧ y % 100 ≠ 0) ∨ y % 400 = 0) := by
  have h1 : y.tmod 4 = 0 ↔ y % 4 = 0 := by rw [← Int.dvd_iff_tmod_eq_zero, Int.dvd_iff_emod_eq_zero]
  have h2 : y.tmod 100 = 0 ↔ y % 100 = 0 := by rw [← Int.dvd_iff_tmod_eq_zero, Int.dvd_iff_emod_eq_zero]
  have h3 : y.tmod 400 = 0 ↔ y % 400 = 0 := by rw [← Int.dvd_iff_tmod_eq_zero, Int.dvd_iff_emod_eq_zero]
  simp [leapB, h1, h2, h3]

/-- How long a month is in such a year. -/
def mlen (b : Bool) (m : Int) : Int := if m = 2 then (if b then 29 else 28) else if m = 4 ∨ m = 6 ∨ m = 9 ∨ m = 11 then 30 else 31
/-- How many days of the year lie ahead of a month. -/
def cum (b : Bool) (m : Int) : Int :=
  if m = 1 then 0 else if m = 2 then 31 else (if b then 1 else 0) + (if m = 3 then 59 else if m = 4 then 90 else if m = 5 then 120 else if m = 6 then 151 else if m = 7 then 181 else
    if m = 8 then 212 else if m = 9 then 243 else if m = 10 then 273 else if m = 11 then 304 else if m = 12 then 334 else 365)
theorem cum_succ (b : Bool) (m : Int) (h1 : 1 ≤ m) (h2 : m ≤ 12) : cum b (m + 1) = cum b m + mlen b m := by
  have : m = 1 ∨ m = 2 ∨ m = 3 ∨ m = 4 ∨ m = 5 ∨ m = 6 ∨ m = 7 ∨ m = 8 ∨ m = 9 ∨ m = 10 ∨ m = 11 ∨ m = 12 := by omega
  cases b <;> rcases this with rfl | rfl | rfl | rfl | rfl | rfl | rfl | rfl | rfl | rfl | rfl | rfl <;> decide
theorem mlen_bd (b : Bool) (m : Int) : 28 ≤ mlen b m ∧ mlen b m ≤ 31 := by
  unfold mlen
  cases b <;> simp <;> split <;> (try split) <;> omega
theorem cum_bd (b : Bool) (m : Int) (h1 : 1 ≤ m) (h2 : m ≤ 13) : 0 ≤ cum b m ∧ cum b m ≤ 366 := by
  have : m = 1 ∨ m = 2 ∨ m = 3 ∨ m = 4 ∨ m = 5 ∨ m = 6 ∨ m = 7 ∨ m = 8 ∨ m = 9 ∨ m = 10 ∨ m = 11 ∨ m = 12 ∨ m = 13 := by omega
  cases b <;> rcases this with rfl | rfl | rfl | rfl | rfl | rfl | rfl | rfl | rfl | rfl | rfl | rfl | rfl <;> decide
theorem cum_1 (b : Bool) : cum b 1 = 0 := rfl
theorem cum_13 (b : Bool) : cum b 13 = if b then 366 else 365 := by cases b <;> decide

/-- A month's length, 0 where there is none. -/
def lenI (y m : Int) : Int := if 1 ≤ y ∧ y ≤ 9999 ∧ 1 ≤ m ∧ m ≤ 12 then mlen (leapB y) m else 0
theorem lenI_in {y m : Int} (h1 : 1 ≤ y) (h2 : y ≤ 9999) (h3 : 1 ≤ m) (h4 : m ≤ 12) : lenI y m = mlen (leapB y) m := if_pos ⟨h1, h2, h3, h4⟩
theorem lenI_bd (y m : Int) : 0 ≤ lenI y m ∧ lenI y m ≤ 31 := by
  unfold lenI
  have := mlen_bd (leapB y) m
  split <;> omega
/-- Days ahead of a year. -/
def ahead (y : Int) : Int := 365 * (y - 1) + (y - 1) / 4 - (y - 1) / 100 + (y - 1) / 400
/-- A year's length. -/
def ylen (y : Int) : Int := if leapB y then 366 else 365
theorem ahead_succ (y : Int) : ahead (y + 1) = ahead y + ylen y := by
  have h := leapB_iff y
  unfold ahead ylen
  cases hb : leapB y
  · have h' : ¬((y % 4 = 0 ∧ y % 100 ≠ 0) ∨ y % 400 = 0) := fun h2 => by rw [h.2 h2] at hb; cases hb
    simp only [Bool.false_eq_true, if_false]
    omega
  · have h' := h.1 hb
    simp only [if_true]
    omega
theorem ahead_1970 : ahead 1970 = 719162 := by decide
theorem ahead_10000 : ahead 10000 = 3652059 := by decide
theorem ahead_1 : ahead 1 = 0 := by decide
theorem ylen_bd (y : Int) : 365 ≤ ylen y ∧ ylen y ≤ 366 := by unfold ylen; split <;> omega
theorem ahead_mono {a b : Int} (h : a ≤ b) : ahead a ≤ ahead b := by unfold ahead; omega
theorem ahead_lt {a b : Int} (h : a < b) : ahead a + 365 ≤ ahead b := by unfold ahead; omega
theorem ahead_bd {y : Int} (h1 : 1 ≤ y) (h2 : y ≤ 10000) : 0 ≤ ahead y ∧ ahead y ≤ 3652059 := by
  have := ahead_mono h1
  have := ahead_mono h2
  rw [ahead_1] at *
  rw [ahead_10000] at *
  omega
theorem ahead_guess {n : Int} (h0 : 0 ≤ n) (_h1 : n < 3652059) : ahead (4 * (n / 1461) + 1) ≤ n := by unfold ahead; omega
theorem ahead_guess_le {n : Int} (h0 : 0 ≤ n) (h1 : n < 3652059) : 1 ≤ 4 * (n / 1461) + 1 ∧ 4 * (n / 1461) + 1 ≤ 9999 := by omega

/-- A day that there is. -/
def vld (y m d : Int) : Prop := 1 ≤ y ∧ y ≤ 9999 ∧ 1 ≤ m ∧ m ≤ 12 ∧ 1 ≤ d ∧ d ≤ mlen (leapB y) m
/-- How far it is from the first one of 1970. -/
def num (y m d : Int) : Int := ahead y + cum (leapB y) m + d - 1 - 719162
theorem vld_len {y m d : Int} : vld y m d ↔ 1 ≤ d ∧ d ≤ lenI y m := by
  unfold vld lenI
  split <;> constructor <;> intro h
  · exact ⟨h.2.2.2.2.1, h.2.2.2.2.2⟩
  · rename_i h0
    exact ⟨h0.1, h0.2.1, h0.2.2.1, h0.2.2.2, h.1, h.2⟩
  · omega
  · omega
theorem cum_top {y m d : Int} (h : vld y m d) : cum (leapB y) m + d ≤ ylen y := by
  obtain ⟨_, _, h3, h4, _, h6⟩ := h
  have h7 : ∀ k : Nat, m + 1 + k ≤ 13 → cum (leapB y) (m + 1) ≤ cum (leapB y) (m + 1 + k) := by
    intro k
    induction k with
    | zero => intro _; simp
    | succ k ih =>
      intro hk
      have h8 := cum_succ (leapB y) (m + 1 + k) (by omega) (by omega)
      have h9 := mlen_bd (leapB y) (m + 1 + k)
      have := ih (by omega)
      rw [show m + 1 + ((k + 1 : Nat) : Int) = m + 1 + k + 1 by omega]
      omega
  have h8 := h7 (12 - m).toNat (by omega)
  rw [show m + 1 + ((12 - m).toNat : Int) = 13 by omega, cum_13, cum_succ _ _ h3 h4] at h8
  unfold ylen
  omega
theorem cum_mono {b : Bool} {m m' : Int} (h1 : 1 ≤ m) (h : m < m') (h2 : m' ≤ 13) : cum b m + mlen b m ≤ cum b m' := by
  have h7 : ∀ k : Nat, m + 1 + k ≤ 13 → cum b (m + 1) ≤ cum b (m + 1 + k) := by
    intro k
    induction k with
    | zero => intro _; simp
    | succ k ih =>
      intro hk
      have h8 := cum_succ b (m + 1 + k) (by omega) (by omega)
      have h9 := mlen_bd b (m + 1 + k)
      have := ih (by omega)
      rw [show m + 1 + ((k + 1 : Nat) : Int) = m + 1 + k + 1 by omega]
      omega
  have h8 := h7 (m' - m - 1).toNat (by omega)
  rw [show m + 1 + ((m' - m - 1).toNat : Int) = m' by omega, cum_succ _ _ h1 (by omega)] at h8
  exact h8
theorem cum_nonneg {b : Bool} {m : Int} (h1 : 1 ≤ m) (h2 : m ≤ 12) : 0 ≤ cum b m := (cum_bd b m h1 (by omega)).1
theorem num_bd {y m d : Int} (h : vld y m d) : -719162 ≤ num y m d ∧ num y m d ≤ 2932896 := by
  have h1 := cum_top h
  obtain ⟨h2, h3, h4, h5, h6, _⟩ := h
  have h8 := ahead_succ y
  have h9 := ahead_mono (show y + 1 ≤ 10000 by omega)
  have h10 := ahead_mono h2
  rw [ahead_10000] at h9
  rw [ahead_1] at h10
  have := cum_nonneg (b := leapB y) h4 h5
  unfold num
  omega
/-- Which day is the earlier one. -/
def dlt (y m d y' m' d' : Int) : Prop := y < y' ∨ (y = y' ∧ (m < m' ∨ (m = m' ∧ d < d')))
theorem num_lt {y m d y' m' d' : Int} (h : vld y m d) (h' : vld y' m' d') (hl : dlt y m d y' m' d') : num y m d < num y' m' d' := by
  have g1 := cum_top h
  have g2 := ahead_succ y
  obtain ⟨h2, h3, h4, h5, h6, h7⟩ := h
  obtain ⟨h2', h3', h4', h5', h6', h7'⟩ := h'
  have := cum_nonneg (b := leapB y') h4' h5'
  unfold num
  rcases hl with hl | ⟨rfl, hl | ⟨rfl, hl⟩⟩
  · have := ahead_mono (show y + 1 ≤ y' by omega)
    omega
  · have := cum_mono (b := leapB y) h4 hl (by omega)
    omega
  · omega
theorem num_inj {y m d y' m' d' : Int} (h : vld y m d) (h' : vld y' m' d') (e : num y m d = num y' m' d') : y = y' ∧ m = m' ∧ d = d' := by
  by_cases h1 : dlt y m d y' m' d'
  · have := num_lt h h' h1; omega
  · by_cases h2 : dlt y' m' d' y m d
    · have := num_lt h' h h2; omega
    · unfold dlt at h1 h2; omega
/-- The day of the week. -/
def wday (n : Int) : Int := (n + 4) % 7

/-- A clock that there is, and its seconds. -/
def vclk (y m d h n s : Int) : Prop := vld y m d ∧ 0 ≤ h ∧ h ≤ 23 ∧ 0 ≤ n ∧ n ≤ 59 ∧ 0 ≤ s ∧ s ≤ 59
def secs (y m d h n s : Int) : Int := 86400 * num y m d + 3600 * h + 60 * n + s
theorem secs_bd {y m d h n s : Int} (v : vclk y m d h n s) : -62135596800 ≤ secs y m d h n s ∧ secs y m d h n s ≤ 253402300799 := by
  obtain ⟨v, _⟩ := v
  have := num_bd v
  unfold secs
  omega
def clt (y m d h n s y' m' d' h' n' s' : Int) : Prop := dlt y m d y' m' d' ∨ (y = y' ∧ m = m' ∧ d = d' ∧ (h < h' ∨ (h = h' ∧ (n < n' ∨ (n = n' ∧ s < s')))))
theorem secs_lt {y m d h n s y' m' d' h' n' s' : Int} (v : vclk y m d h n s) (v' : vclk y' m' d' h' n' s') (hl : clt y m d h n s y' m' d' h' n' s') : secs y m d h n s < secs y' m' d' h' n' s' := by
  obtain ⟨v, _⟩ := v
  obtain ⟨v', _⟩ := v'
  unfold secs
  rcases hl with hl | ⟨rfl, rfl, rfl, hl⟩
  · have := num_lt v v' hl
    omega
  · omega
theorem secs_inj {y m d h n s y' m' d' h' n' s' : Int} (v : vclk y m d h n s) (v' : vclk y' m' d' h' n' s') (e : secs y m d h n s = secs y' m' d' h' n' s') : y = y' ∧ m = m' ∧ d = d' ∧ h = h' ∧ n = n' ∧ s = s' := by
  by_cases h1 : clt y m d h n s y' m' d' h' n' s'
  · have := secs_lt v v' h1; omega
  · by_cases h2 : clt y' m' d' h' n' s' y m d h n s
    · have := secs_lt v' v h2; omega
    · unfold clt dlt at h1 h2; omega
end Go.Proofs.YtngamlikhgilhaaGreatDoor
/- Contracts of the program's calendar (package civil): what each function hands back, for all arguments. -/
namespace Go.Proofs.YtngamlikhgilhaaGreatDoor
open Go.RowKit

theorem ret_int {k : IntKind} {a b : Int} (h : a = b) : Ending.returned (.int k a) = .returned (.int k b) := by rw [h]

set_option maxRecDepth 100000 in
theorem leap_any (y : Int) (w : World) : Calls Tryz.prog 126 #[.int .i64 y] w fun e w' => e = .returned (.bool (leapB y)) ∧ w = w' := by
  cases h1 : (y.tmod 4 == 0) <;> cases h2 : (y.tmod 100 == 0) <;> cases h3 : (y.tmod 400 == 0)
  all_goals
    have h2n : (y.tmod 100 != 0) = !(y.tmod 100 == 0) := rfl
    rw [h2] at h2n
    simp only [Bool.not_true, Bool.not_false] at h2n
    go_enter Tryz.func126, Tryz.ntmps126
    go_wp2
    go_ret
    exact ⟨by simp [leapB, h1, h2, h3], rfl⟩

theorem len_out (y m : Int) (w : World) (h : ¬(1 ≤ y ∧ y ≤ 9999 ∧ 1 ≤ m ∧ m ≤ 12)) : Calls Tryz.prog 106 #[.int .i64 y, .int .i64 m] w fun e w' => e = .returned (.int .i64 (lenI y m)) ∧ w = w' := by
  have HL := Lib.hid (show lenI y m = 0 from if_neg h)
  have h' : y < 1 ∨ (1 ≤ y ∧ 9999 < y) ∨ (1 ≤ y ∧ y ≤ 9999 ∧ m < 1) ∨ (1 ≤ y ∧ y ≤ 9999 ∧ 1 ≤ m ∧ 12 < m) := by omega
  clear h
  rcases h' with h | ⟨h, h'⟩ | ⟨h, h', h''⟩ | ⟨h, h', h'', h3⟩
  all_goals
    go_enter Tryz.func106, Tryz.ntmps106
    go_wp2
    go_ret
    exact ⟨by rw [HL.out]; rfl, rfl⟩

/-- The program's row of lengths. -/
def tab : Value := .agg #[.int .i64 31, .int .i64 28, .int .i64 31, .int .i64 30, .int .i64 31, .int .i64 30, .int .i64 31, .int .i64 31, .int .i64 30, .int .i64 31, .int .i64 30, .int .i64 31]
theorem idx (k : Int) (x : Value) (w : World) (h : (Instr.index 130 tab (.int .i64 k)).run Tryz.prog w = .ok x w) :
    (Instr.index 130 (.agg #[.int .i64 31, .int .i64 28, .int .i64 31, .int .i64 30, .int .i64 31, .int .i64 30, .int .i64 31, .int .i64 31, .int .i64 30, .int .i64 31, .int .i64 30, .int .i64 31]) (.int .i64 k)).run Tryz.prog w = .ok x w := h

set_option maxRecDepth 100000 in
theorem len_1 (y : Int) (w : World) (h1 : 1 ≤ y) (h2 : y ≤ 9999) : Calls Tryz.prog 106 #[.int .i64 y, .int .i64 1] w fun e w' => e = .returned (.int .i64 (lenI y 1)) ∧ w = w' := by
  have HL := Lib.hid (lenI_in h1 h2 (by omega) (by omega : (1 : Int) ≤ 12))
  have i0 := idx 0 (.int .i64 31) w (by kernel_rfl)
  go_enter Tryz.func106, Tryz.ntmps106
  go_wp2_with fail
  go_ret
  exact ⟨by rw [HL.out]; rfl, rfl⟩

set_option maxRecDepth 100000 in
theorem len_2 (y : Int) (w : World) (h1 : 1 ≤ y) (h2 : y ≤ 9999) : Calls Tryz.prog 106 #[.int .i64 y, .int .i64 2] w fun e w' => e = .returned (.int .i64 (lenI y 2)) ∧ w = w' := by
  have HL := Lib.hid (lenI_in h1 h2 (by omega) (by omega : (2 : Int) ≤ 12))
  have i0 := idx 1 (.int .i64 28) w (by kernel_rfl)
  cases hb : leapB y
  all_goals
    have HB := Lib.hid hb
    clear hb
    go_enter Tryz.func106, Tryz.ntmps106
    go_wp2_with fail
    refine (leap_any y _).mono ?_
    rintro e w' ⟨rfl, rfl⟩
    rw [HB.out]
    go_wp2_with fail
    go_ret
    exact ⟨by rw [HL.out, HB.out]; rfl, rfl⟩

set_option maxRecDepth 100000 in
theorem len_3 (y : Int) (w : World) (h1 : 1 ≤ y) (h2 : y ≤ 9999) : Calls Tryz.prog 106 #[.int .i64 y, .int .i64 3] w fun e w' => e = .returned (.int .i64 (lenI y 3)) ∧ w = w' := by
  have HL := Lib.hid (lenI_in h1 h2 (by omega) (by omega : (3 : Int) ≤ 12))
  have i0 := idx 2 (.int .i64 31) w (by kernel_rfl)
  go_enter Tryz.func106, Tryz.ntmps106
  go_wp2_with fail
  go_ret
  exact ⟨by rw [HL.out]; rfl, rfl⟩

set_option maxRecDepth 100000 in
theorem len_4 (y : Int) (w : World) (h1 : 1 ≤ y) (h2 : y ≤ 9999) : Calls Tryz.prog 106 #[.int .i64 y, .int .i64 4] w fun e w' => e = .returned (.int .i64 (lenI y 4)) ∧ w = w' := by
  have HL := Lib.hid (lenI_in h1 h2 (by omega) (by omega : (4 : Int) ≤ 12))
  have i0 := idx 3 (.int .i64 30) w (by kernel_rfl)
  go_enter Tryz.func106, Tryz.ntmps106
  go_wp2_with fail
  go_ret
  exact ⟨by rw [HL.out]; rfl, rfl⟩

set_option maxRecDepth 100000 in
theorem len_5 (y : Int) (w : World) (h1 : 1 ≤ y) (h2 : y ≤ 9999) : Calls Tryz.prog 106 #[.int .i64 y, .int .i64 5] w fun e w' => e = .returned (.int .i64 (lenI y 5)) ∧ w = w' := by
  have HL := Lib.hid (lenI_in h1 h2 (by omega) (by omega : (5 : Int) ≤ 12))
  have i0 := idx 4 (.int .i64 31) w (by kernel_rfl)
  go_enter Tryz.func106, Tryz.ntmps106
  go_wp2_with fail
  go_ret
  exact ⟨by rw [HL.out]; rfl, rfl⟩

set_option maxRecDepth 100000 in
theorem len_6 (y : Int) (w : World) (h1 : 1 ≤ y) (h2 : y ≤ 9999) : Calls Tryz.prog 106 #[.int .i64 y, .int .i64 6] w fun e w' => e = .returned (.int .i64 (lenI y 6)) ∧ w = w' := by
  have HL := Lib.hid (lenI_in h1 h2 (by omega) (by omega : (6 : Int) ≤ 12))
  have i0 := idx 5 (.int .i64 30) w (by kernel_rfl)
  go_enter Tryz.func106, Tryz.ntmps106
  go_wp2_with fail
  go_ret
  exact ⟨by rw [HL.out]; rfl, rfl⟩

set_option maxRecDepth 100000 in
theorem len_7 (y : Int) (w : World) (h1 : 1 ≤ y) (h2 : y ≤ 9999) : Calls Tryz.prog 106 #[.int .i64 y, .int .i64 7] w fun e w' => e = .returned (.int .i64 (lenI y 7)) ∧ w = w' := by
  have HL := Lib.hid (lenI_in h1 h2 (by omega) (by omega : (7 : Int) ≤ 12))
  have i0 := idx 6 (.int .i64 31) w (by kernel_rfl)
  go_enter Tryz.func106, Tryz.ntmps106
  go_wp2_with fail
  go_ret
  exact ⟨by rw [HL.out]; rfl, rfl⟩

set_option maxRecDepth 100000 in
theorem len_8 (y : Int) (w : World) (h1 : 1 ≤ y) (h2 : y ≤ 9999) : Calls Tryz.prog 106 #[.int .i64 y, .int .i64 8] w fun e w' => e = .returned (.int .i64 (lenI y 8)) ∧ w = w' := by
  have HL := Lib.hid (lenI_in h1 h2 (by omega) (by omega : (8 : Int) ≤ 12))
  have i0 := idx 7 (.int .i64 31) w (by kernel_rfl)
  go_enter Tryz.func106, Tryz.ntmps106
  go_wp2_with fail
  go_ret
  exact ⟨by rw [HL.out]; rfl, rfl⟩

set_option maxRecDepth 100000 in
theorem len_9 (y : Int) (w : World) (h1 : 1 ≤ y) (h2 : y ≤ 9999) : Calls Tryz.prog 106 #[.int .i64 y, .int .i64 9] w fun e w' => e = .returned (.int .i64 (lenI y 9)) ∧ w = w' := by
  have HL := Lib.hid (lenI_in h1 h2 (by omega) (by omega : (9 : Int) ≤ 12))
  have i0 := idx 8 (.int .i64 30) w (by kernel_rfl)
  go_enter Tryz.func106, Tryz.ntmps106
  go_wp2_with fail
  go_ret
  exact ⟨by rw [HL.out]; rfl, rfl⟩

set_option maxRecDepth 100000 in
theorem len_10 (y : Int) (w : World) (h1 : 1 ≤ y) (h2 : y ≤ 9999) : Calls Tryz.prog 106 #[.int .i64 y, .int .i64 10] w fun e w' => e = .returned (.int .i64 (lenI y 10)) ∧ w = w' := by
  have HL := Lib.hid (lenI_in h1 h2 (by omega) (by omega : (10 : Int) ≤ 12))
  have i0 := idx 9 (.int .i64 31) w (by kernel_rfl)
  go_enter Tryz.func106, Tryz.ntmps106
  go_wp2_with fail
  go_ret
  exact ⟨by rw [HL.out]; rfl, rfl⟩

set_option maxRecDepth 100000 in
theorem len_11 (y : Int) (w : World) (h1 : 1 ≤ y) (h2 : y ≤ 9999) : Calls Tryz.prog 106 #[.int .i64 y, .int .i64 11] w fun e w' => e = .returned (.int .i64 (lenI y 11)) ∧ w = w' := by
  have HL := Lib.hid (lenI_in h1 h2 (by omega) (by omega : (11 : Int) ≤ 12))
  have i0 := idx 10 (.int .i64 30) w (by kernel_rfl)
  go_enter Tryz.func106, Tryz.ntmps106
  go_wp2_with fail
  go_ret
  exact ⟨by rw [HL.out]; rfl, rfl⟩

set_option maxRecDepth 100000 in
theorem len_12 (y : Int) (w : World) (h1 : 1 ≤ y) (h2 : y ≤ 9999) : Calls Tryz.prog 106 #[.int .i64 y, .int .i64 12] w fun e w' => e = .returned (.int .i64 (lenI y 12)) ∧ w = w' := by
  have HL := Lib.hid (lenI_in h1 h2 (by omega) (by omega : (12 : Int) ≤ 12))
  have i0 := idx 11 (.int .i64 31) w (by kernel_rfl)
  go_enter Tryz.func106, Tryz.ntmps106
  go_wp2_with fail
  go_ret
  exact ⟨by rw [HL.out]; rfl, rfl⟩

theorem len_any (y m : Int) (w : World) : Calls Tryz.prog 106 #[.int .i64 y, .int .i64 m] w fun e w' => e = .returned (.int .i64 (lenI y m)) ∧ w = w' := by
  by_cases h : 1 ≤ y ∧ y ≤ 9999 ∧ 1 ≤ m ∧ m ≤ 12
  · obtain ⟨h1, h2, h3, h4⟩ := h
    have h5 : m = 1 ∨ m = 2 ∨ m = 3 ∨ m = 4 ∨ m = 5 ∨ m = 6 ∨ m = 7 ∨ m = 8 ∨ m = 9 ∨ m = 10 ∨ m = 11 ∨ m = 12 := by omega
    rcases h5 with rfl | rfl | rfl | rfl | rfl | rfl | rfl | rfl | rfl | rfl | rfl | rfl
    · exact len_1 y w h1 h2
    · exact len_2 y w h1 h2
    · exact len_3 y w h1 h2
    · exact len_4 y w h1 h2
    · exact len_5 y w h1 h2
    · exact len_6 y w h1 h2
    · exact len_7 y w h1 h2
    · exact len_8 y w h1 h2
    · exact len_9 y w h1 h2
    · exact len_10 y w h1 h2
    · exact len_11 y w h1 h2
    · exact len_12 y w h1 h2
  · exact len_out y m w h
end Go.Proofs.YtngamlikhgilhaaGreatDoor
/- Contracts of the program's calendar, second part: days and dates. -/
namespace Go.Proofs.YtngamlikhgilhaaGreatDoor
open Go.RowKit

theorem ahead_any (y : Int) (w : World) (h1 : 1 ≤ y) (h2 : y ≤ 10000) : Calls Tryz.prog 107 #[.int .i64 y] w fun e w' => e = .returned (.int .i64 (ahead y)) ∧ w = w' := by
  go_enter Tryz.func107, Tryz.ntmps107
  go_wp2
  go_ret
  exact ⟨ret_int (by unfold ahead; omega), rfl⟩

theorem days_no (y m d : Int) (w : World) (h : ¬vld y m d) : Calls Tryz.prog 68 #[.int .i64 y, .int .i64 m, .int .i64 d] w fun e w' => e = .returned (.tuple #[.int .i64 0, .bool false]) ∧ w = w' := by
  have h' : d < 1 ∨ (1 ≤ d ∧ lenI y m < d) := by rw [vld_len] at h; omega
  clear h
  rcases h' with h | ⟨h, h'⟩
  · go_enter Tryz.func68, Tryz.ntmps68
    go_wp2_with fail
    go_ret2
    exact ⟨rfl, rfl⟩
  · go_enter Tryz.func68, Tryz.ntmps68
    go_wp2_with fail
    refine (len_any y m _).mono ?_
    rintro e w' ⟨rfl, rfl⟩
    go_wp2_with fail
    go_ret2
    exact ⟨rfl, rfl⟩

set_option maxRecDepth 100000 in
theorem days_yes (y m d : Int) (w : World) (h : vld y m d) : Calls Tryz.prog 68 #[.int .i64 y, .int .i64 m, .int .i64 d] w fun e w' => e = .returned (.tuple #[.int .i64 (num y m d), .bool true]) ∧ w = w' := by
  obtain ⟨h5, h6⟩ := vld_len.1 h
  have h6' : ¬ lenI y m < d := by omega
  obtain ⟨h1, h2, h3, h4, -, -⟩ := h
  obtain ⟨h7, h8⟩ := ahead_bd h1 (by omega)
  have hl := (lenI_bd y m).2
  have HN := Lib.hid (show num y m d = ahead y + d - 1 - 719162 + cum (leapB y) m by unfold num; omega)
  go_enter Tryz.func68, Tryz.ntmps68
  go_wp2_with fail
  refine (len_any y m _).mono ?_
  rintro e w' ⟨rfl, rfl⟩
  go_wp2_with fail
  refine (ahead_any y _ h1 (by omega)).mono ?_
  rintro e w' ⟨rfl, rfl⟩
  go_wp2_with fail
  go_loop [8, 9] (fun n i => ∃ k : Int, 1 ≤ k ∧ k ≤ m ∧ i = .int .i64 k ∧ n = .int .i64 (ahead y + d - 1 - 719162 + cum (leapB y) k)) (fun _ i => (m - intOf i).toNat)
  case atStart => exact ⟨1, by omega, by omega, rfl, by rw [cum_1]; simp⟩
  case round =>
    obtain ⟨k, hk1, hk2, rfl, rfl⟩ := hrel
    obtain ⟨hc1, hc2⟩ := cum_bd (leapB y) k hk1 (by omega)
    by_cases hlt : k < m
    · have HC := Lib.hid (cum_succ (leapB y) k hk1 (by omega))
      have HL := Lib.hid (lenI_in h1 h2 hk1 (by omega : k ≤ 12))
      obtain ⟨hm1, hm2⟩ := lenI_bd y k
      go_wp2_with (go_at_call 106; refine (len_any y k _).mono ?_; rintro e w' ⟨rfl, rfl⟩)
      go_round
      case rel => exact ⟨k + 1, by omega, by omega, rfl, by rw [HC.out, HL.out]; congr 1; omega⟩
      case measure => simp [intOf]; omega
    · obtain rfl : k = m := by omega
      go_wp2_with fail
      go_ret2
      exact ⟨by rw [HN.out]; rfl, rfl⟩

theorem results_tmp4 {fn : Func} {t u v x : Tmp} (h : fn.results = #[.tmp t, .tmp u, .tmp v, .tmp x]) (tmps : Array Value) (P : Program) (w : World) :
    (results fn tmps).run P w = .ok (.tuple #[tmps.getD t undef, tmps.getD u undef, tmps.getD v undef, tmps.getD x undef]) w := by simp [results, h]

theorem date_no (n : Int) (w : World) (h : n < -719162 ∨ 2932897 ≤ n) : Calls Tryz.prog 125 #[.int .i64 n] w fun e w' => e = .returned (.tuple #[.int .i64 0, .int .i64 0, .int .i64 0, .bool false]) ∧ w = w' := by
  have h' : n < -719162 ∨ (-719162 ≤ n ∧ 2932897 ≤ n) := by omega
  clear h
  rcases h' with h | ⟨h, h'⟩
  all_goals
    go_enter Tryz.func125, Tryz.ntmps125
    go_wp2_with fail
    go_step3
    go_wp2_with fail
    rw [Exit.noGoto_ret]
    refine bodyPost_ret (results_tmp4 rfl _ _ _) rfl ?_
    exact ⟨rfl, rfl⟩

/-- What a day's number tells. -/
def DateP (n : Int) (w : World) (e : Ending) (w' : World) : Prop := ∃ y m d : Int, e = .returned (.tuple #[.int .i64 y, .int .i64 m, .int .i64 d, .bool true]) ∧ vld y m d ∧ num y m d = n ∧ w = w'
theorem date_end {n y m r : Int} {w : World} (h1 : 1 ≤ y) (h2 : y ≤ 9999) (h3 : 1 ≤ m) (h4 : m ≤ 12) (h5 : 0 ≤ r) (h6 : r < lenI y m) (h7 : r = n + 719162 - ahead y - cum (leapB y) m) :
    DateP n w (.returned (.tuple #[.int .i64 y, .int .i64 m, .int .i64 (r + 1), .bool true])) w := by
  refine ⟨y, m, r + 1, rfl, ⟨h1, h2, h3, h4, by omega, by rw [← lenI_in h1 h2 h3 h4]; omega⟩, by unfold num; omega, rfl⟩

set_option maxRecDepth 100000 in
theorem date_yes (n : Int) (w : World) (h1 : -719162 ≤ n) (h2 : n < 2932897) : Calls Tryz.prog 125 #[.int .i64 n] w (DateP n w) := by
  obtain ⟨g1, g2⟩ := ahead_guess_le (n := n + 719162) (by omega) (by omega)
  have g3 := ahead_guess (n := n + 719162) (by omega) (by omega)
  have hd1 : decide (n < -719162) = false := by simp; omega
  have hd2 : decide (2932897 ≤ n) = false := by simp; omega
  go_enter Tryz.func125, Tryz.ntmps125
  go_wp2_with fail
  go_step3
  go_wp2_with fail
  go_loop [7] (fun t => ∃ y : Int, 1 ≤ y ∧ y ≤ 9999 ∧ ahead y ≤ n + 719162 ∧ t = .int .i64 y) (fun t => (9999 - intOf t).toNat)
  case atStart => exact ⟨_, g1, g2, g3, rfl⟩
  case round =>
    clear g1 g2 g3
    obtain ⟨y, hy1, hy2, hy3, rfl⟩ := hrel
    by_cases hc : y < 9999 ∧ ahead (y + 1) ≤ n + 719162
    · obtain ⟨hlt, hd⟩ := hc
      go_wp2_with (go_at_call 107; refine (ahead_any _ _ (by omega) (by omega)).mono ?_; rintro e w' ⟨rfl, rfl⟩)
      go_round
      case rel => exact ⟨y + 1, by omega, by omega, hd, rfl⟩
      case measure => simp [intOf]; omega
    · have hz : n + 719162 < ahead (y + 1) := by
        by_cases e : y = 9999
        · rw [e]; show _ < ahead 10000; rw [ahead_10000]; omega
        · omega
      obtain ⟨hb1, hb2⟩ := ahead_bd hy1 (show y ≤ 10000 by omega)
      have hs : n + 719162 < ahead y + ylen y := by rw [← ahead_succ]; exact hz
      clear hc
      have hdb : decide (ahead (y + 1) ≤ n + 719162) = false := by simp; omega
      by_cases hlt : y < 9999
      all_goals
        go_wp2_with (go_at_call 107; refine (ahead_any _ _ (by omega) (by omega)).mono ?_; rintro e w' ⟨rfl, rfl⟩)
        go_step3
        go_wp2_with fail
        clear hz
        go_loop [6, 8] (fun r k => ∃ m r' : Int, 1 ≤ m ∧ m ≤ 12 ∧ k = .int .i64 m ∧ 0 ≤ r' ∧ r' ≤ 400 ∧ cum (leapB y) m + r' < ylen y ∧ r' + cum (leapB y) m = n + 719162 - ahead y ∧ r = .int .i64 r') (fun _ k => (12 - intOf k).toNat)
        case atStart => exact ⟨1, n + 719162 - ahead y, by omega, by omega, rfl, by omega, by have := ylen_bd y; omega, by rw [cum_1]; omega, by rw [cum_1]; omega, rfl⟩
        case round =>
          obtain ⟨m, r, hm1, hm2, rfl, hr1, hr3, hr2, hr, rfl⟩ := hrel
          have HR := Lib.hid hr
          clear hr
          obtain ⟨cb1, cb2⟩ := cum_bd (leapB y) m hm1 (by omega)
          obtain ⟨lb1, lb2⟩ := lenI_bd y m
          have HC := Lib.hid (cum_succ (leapB y) m hm1 hm2)
          have HL := Lib.hid (lenI_in hy1 hy2 hm1 hm2)
          by_cases hc : r < lenI y m
          · go_wp2_with (go_at_call 106; refine (len_any _ _ _).mono ?_; rintro e w' ⟨rfl, rfl⟩)
            try rw [Exit.noGoto_ret]
            refine bodyPost_ret (results_tmp4 rfl _ _ _) rfl ?_
            exact date_end hy1 hy2 hm1 hm2 hr1 hc (by have := HR.out; omega)
          · have hm3 : m < 12 := by
              rcases Int.lt_or_le m 12 with h | h
              · exact h
              · have h1 := HC.out
                have h2 := HL.out
                rw [show m + 1 = 13 by omega, cum_13] at h1
                unfold ylen at hr2
                omega
            go_wp2_with (go_at_call 106; refine (len_any _ _ _).mono ?_; rintro e w' ⟨rfl, rfl⟩)
            go_round
            case rel => exact ⟨m + 1, r - lenI y m, by omega, by omega, rfl, by omega, by omega, by rw [HC.out, ← HL.out]; omega, by rw [HC.out, ← HL.out]; have := HR.out; omega, rfl⟩
            case measure => simp [intOf]; omega
end Go.Proofs.YtngamlikhgilhaaGreatDoor
/- Contracts of the program's calendar, third part: days of the week, clocks and their seconds. -/
namespace Go.Proofs.YtngamlikhgilhaaGreatDoor
open Go.RowKit

theorem tparts (t b : Int) (_hb : 0 < b) : t = b * t.tdiv b + t.tmod b ∧ (0 ≤ t → 0 ≤ t.tmod b ∧ t.tmod b < b) ∧ (t < 0 → -b < t.tmod b ∧ t.tmod b ≤ 0) := by
  refine ⟨(Int.mul_tdiv_add_tmod t b).symm, fun h => ⟨Int.tmod_nonneg _ h, Int.tmod_lt_of_pos _ _hb⟩, fun h => ?_⟩
  have h1 : (-t).tmod b = -(t.tmod b) := Int.neg_tmod t b
  have h2 := Int.tmod_nonneg (a := -t) b (by omega)
  have h3 := Int.tmod_lt_of_pos (-t) _hb
  omega

theorem wday_any (n : Int) (w : World) : Calls Tryz.prog 69 #[.int .i64 n] w fun e w' => e = .returned (.int .i64 (wday n)) ∧ w = w' := by
  obtain ⟨h1, h2, h3⟩ := tparts n 7 (by omega)
  have hb1 : -7 < n.tmod 7 := by omega
  have hb2 : n.tmod 7 < 7 := by omega
  have HW := Lib.hid (show wday n = (n.tmod 7 + 11) % 7 by unfold wday; omega)
  clear h1 h2 h3
  go_enter Tryz.func69, Tryz.ntmps69
  go_wp2
  go_ret
  exact ⟨ret_int (by rw [HW.out]), rfl⟩

theorem not_vclk {y m d h n s : Int} (hv : vld y m d) (hn : ¬vclk y m d h n s) : h < 0 ∨ (0 ≤ h ∧ 23 < h) ∨ (0 ≤ h ∧ h ≤ 23 ∧ n < 0) ∨ (0 ≤ h ∧ h ≤ 23 ∧ 0 ≤ n ∧ 59 < n) ∨ (0 ≤ h ∧ h ≤ 23 ∧ 0 ≤ n ∧ n ≤ 59 ∧ s < 0) ∨ (0 ≤ h ∧ h ≤ 23 ∧ 0 ≤ n ∧ n ≤ 59 ∧ 0 ≤ s ∧ 59 < s) := by
  unfold vclk at hn
  have : ¬(0 ≤ h ∧ h ≤ 23 ∧ 0 ≤ n ∧ n ≤ 59 ∧ 0 ≤ s ∧ s ≤ 59) := fun h1 => hn ⟨hv, h1⟩
  omega

set_option maxRecDepth 100000 in
theorem epoch_no (y m d h n s : Int) (w : World) (hn : ¬vclk y m d h n s) :
    Calls Tryz.prog 55 #[.agg #[.int .i64 y, .int .i64 m, .int .i64 d, .int .i64 h, .int .i64 n, .int .i64 s]] w fun e w' => e = .returned (.tuple #[.int .i64 0, .bool false]) ∧ Below w.heap.size w w' := by
  by_cases hv : vld y m d
  · have h1 := not_vclk hv hn
    rcases h1 with h1 | ⟨h1, h2⟩ | ⟨h1, h2, h3⟩ | ⟨h1, h2, h3, h4⟩ | ⟨h1, h2, h3, h4, h5⟩ | ⟨h1, h2, h3, h4, h5, h6⟩
    all_goals
      go_enter Tryz.func55, Tryz.ntmps55
      go_wp2_with fail
      refine (days_yes y m d _ hv).mono ?_
      rintro e w' ⟨rfl, rfl⟩
      go_wp2_with fail
      go_ret2
      exact ⟨rfl, (Below.refl _ w).alloc (Nat.le_refl _) _⟩
  · go_enter Tryz.func55, Tryz.ntmps55
    go_wp2_with fail
    refine (days_no y m d _ hv).mono ?_
    rintro e w' ⟨rfl, rfl⟩
    go_wp2_with fail
    go_ret2
    exact ⟨rfl, (Below.refl _ w).alloc (Nat.le_refl _) _⟩

set_option maxRecDepth 100000 in
theorem epoch_yes (y m d h n s : Int) (w : World) (hv : vclk y m d h n s) :
    Calls Tryz.prog 55 #[.agg #[.int .i64 y, .int .i64 m, .int .i64 d, .int .i64 h, .int .i64 n, .int .i64 s]] w fun e w' => e = .returned (.tuple #[.int .i64 (secs y m d h n s), .bool true]) ∧ Below w.heap.size w w' := by
  have HS := Lib.hid (rfl : secs y m d h n s = 86400 * num y m d + 3600 * h + 60 * n + s)
  obtain ⟨hv, h1, h2, h3, h4, h5, h6⟩ := hv
  obtain ⟨hb1, hb2⟩ := num_bd hv
  go_enter Tryz.func55, Tryz.ntmps55
  go_wp2_with fail
  refine (days_yes y m d _ hv).mono ?_
  rintro e w' ⟨rfl, rfl⟩
  go_wp2_with fail
  go_ret2
  exact ⟨by rw [show secs y m d h n s = 86400 * num y m d + 3600 * h + 60 * n + s from rfl]; rfl, (Below.refl _ w).alloc (Nat.le_refl _) _⟩

/-- The value of a clock. -/
def clkV (y m d h n s : Int) : Value := .agg #[.int .i64 y, .int .i64 m, .int .i64 d, .int .i64 h, .int .i64 n, .int .i64 s]
/-- What seconds tell. -/
def OfP (t : Int) (w : World) (e : Ending) (w' : World) : Prop := ∃ y m d h n s : Int, e = .returned (.tuple #[clkV y m d h n s, .bool true]) ∧ vclk y m d h n s ∧ secs y m d h n s = t ∧ Below w.heap.size w w'

theorem of_end {t q r y m d : Int} {w w' : World} (hv : vld y m d) (hn : num y m d = q) (h0 : 0 ≤ r) (h1 : r < 86400) (ht : t = 86400 * q + r) (hb : Below w.heap.size w w') :
    OfP t w (.returned (.tuple #[.agg #[.int .i64 y, .int .i64 m, .int .i64 d, .int .i64 (r / 3600), .int .i64 (r % 3600 / 60), .int .i64 (r % 60)], .bool true])) w' :=
  ⟨y, m, d, r / 3600, r % 3600 / 60, r % 60, rfl, ⟨hv, by omega, by omega, by omega, by omega, by omega, by omega⟩, by unfold secs; omega, hb⟩

set_option maxRecDepth 100000 in
theorem of_pos (t : Int) (w : World) (h1 : 0 ≤ t) (h2 : t ≤ 253402300799) : Calls Tryz.prog 105 #[.int .i64 t] w (OfP t w) := by
  go_enter Tryz.func105, Tryz.ntmps105
  go_wp2_with fail
  refine (date_yes _ _ (by omega) (by omega)).mono ?_
  rintro e w' ⟨y, m, d, rfl, hv, hn, rfl⟩
  have HN := Lib.hid hn
  clear hn
  go_wp2_with fail
  refine bodyPost_ret (v := .tuple #[.agg #[.int .i64 y, .int .i64 m, .int .i64 d, .int .i64 (t % 86400 / 3600), .int .i64 (t % 86400 % 3600 / 60), .int .i64 (t % 86400 % 60)], .bool true]) (by simp [results, Tryz.results105, go_sem]) rfl ?_
  refine of_end hv HN.out (by omega) (by omega) (by omega) ?_
  exact (Below.refl _ _).alloc (Nat.le_refl _) _

set_option maxRecDepth 100000 in
theorem of_neg (t : Int) (w : World) (h1 : -62135596800 ≤ t) (h2 : t < 0) (h3 : t.tmod 86400 < 0) : Calls Tryz.prog 105 #[.int .i64 t] w (OfP t w) := by
  obtain ⟨p1, -, p3⟩ := tparts t 86400 (by omega)
  have b1 : -86400 < t.tmod 86400 := (p3 h2).1
  have b2 : -720000 ≤ t.tdiv 86400 := by omega
  have b3 : t.tdiv 86400 ≤ 0 := by omega
  have HP := Lib.hid p1
  clear p1 p3
  go_enter Tryz.func105, Tryz.ntmps105
  go_wp2_with fail
  refine (date_yes _ _ (by have := HP.out; omega) (by omega)).mono ?_
  rintro e w' ⟨y, m, d, rfl, hv, hn, rfl⟩
  have HN := Lib.hid hn
  clear hn
  go_wp2_with fail
  refine bodyPost_ret (v := .tuple #[.agg #[.int .i64 y, .int .i64 m, .int .i64 d, .int .i64 ((t.tmod 86400 + 86400) / 3600), .int .i64 ((t.tmod 86400 + 86400) % 3600 / 60), .int .i64 ((t.tmod 86400 + 86400) % 60)], .bool true]) (by simp [results, Tryz.results105, go_sem]) rfl ?_
  refine of_end hv HN.out (by omega) (by omega) (by have := HP.out; omega) ?_
  exact (Below.refl _ _).alloc (Nat.le_refl _) _

set_option maxRecDepth 100000 in
theorem of_zero (t : Int) (w : World) (h1 : -62135596800 ≤ t) (h2 : t < 0) (h3 : t.tmod 86400 = 0) : Calls Tryz.prog 105 #[.int .i64 t] w (OfP t w) := by
  obtain ⟨p1, -, p3⟩ := tparts t 86400 (by omega)
  have b2 : -720000 ≤ t.tdiv 86400 := by omega
  have b3 : t.tdiv 86400 ≤ 0 := by omega
  have HP := Lib.hid p1
  clear p1 p3
  go_enter Tryz.func105, Tryz.ntmps105
  go_wp2_with fail
  refine (date_yes _ _ (by have := HP.out; omega) (by omega)).mono ?_
  rintro e w' ⟨y, m, d, rfl, hv, hn, rfl⟩
  have HN := Lib.hid hn
  clear hn
  go_wp2_with fail
  refine bodyPost_ret (v := .tuple #[.agg #[.int .i64 y, .int .i64 m, .int .i64 d, .int .i64 (0 / 3600), .int .i64 (0 % 3600 / 60), .int .i64 (0 % 60)], .bool true]) (by simp [results, Tryz.results105, go_sem]) rfl ?_
  refine of_end hv HN.out (by omega) (by omega) (by have := HP.out; omega) ?_
  exact (Below.refl _ _).alloc (Nat.le_refl _) _

theorem of_yes (t : Int) (w : World) (h1 : -62135596800 ≤ t) (h2 : t ≤ 253402300799) : Calls Tryz.prog 105 #[.int .i64 t] w (OfP t w) := by
  by_cases h0 : 0 ≤ t
  · exact of_pos t w h0 h2
  · have h3 := ((tparts t 86400 (by omega)).2.2 (by omega)).2
    by_cases h4 : t.tmod 86400 = 0
    · exact of_zero t w h1 (by omega) h4
    · exact of_neg t w h1 (by omega) (by omega)

set_option maxRecDepth 100000 in
theorem of_no (t : Int) (w : World) (h : t < -62135596800 ∨ 253402300799 < t) (hw : -9223372036854775808 ≤ t ∧ t ≤ 9223372036854775807) : Calls Tryz.prog 105 #[.int .i64 t] w fun e w' => e = .returned (.tuple #[clkV 0 0 0 0 0 0, .bool false]) ∧ Below w.heap.size w w' := by
  obtain ⟨p1, p2, p3⟩ := tparts t 86400 (by omega)
  have h' : 253402300799 < t ∨ (t < -62135596800 ∧ t.tmod 86400 < 0) ∨ (t < -62135596800 ∧ t.tmod 86400 = 0) := by
    rcases h with h | h
    · have := p3 (by omega); omega
    · exact .inl h
  clear h
  rcases h' with h | ⟨h, h3⟩ | ⟨h, h3⟩
  · have h0 := p2 (by omega)
    have b1 : t.tdiv 86400 ≤ 200000000000000 := by omega
    have b2 : 2932897 ≤ t.tdiv 86400 := by omega
    clear p1 p2 p3 hw h0
    go_enter Tryz.func105, Tryz.ntmps105
    go_wp2_with fail
    refine (date_no _ _ (by omega)).mono ?_
    rintro e w' ⟨rfl, rfl⟩
    go_wp2_with fail
    exact bodyPost_ret (v := .tuple #[.agg #[.int .i64 0, .int .i64 0, .int .i64 0, .int .i64 0, .int .i64 0, .int .i64 0], .bool false]) (by simp [results, Tryz.results105, go_sem]) rfl ⟨rfl, (Below.refl _ _).alloc (Nat.le_refl _) _⟩
  · have b1 : -86400 < t.tmod 86400 := (p3 (by omega)).1
    have b2 : -200000000000000 ≤ t.tdiv 86400 := by omega
    have b3 : t.tdiv 86400 ≤ 0 := by omega
    have b4 : t.tdiv 86400 - 1 < -719162 := by omega
    clear p1 p2 p3 hw
    go_enter Tryz.func105, Tryz.ntmps105
    go_wp2_with fail
    refine (date_no _ _ (by omega)).mono ?_
    rintro e w' ⟨rfl, rfl⟩
    go_wp2_with fail
    exact bodyPost_ret (v := .tuple #[.agg #[.int .i64 0, .int .i64 0, .int .i64 0, .int .i64 0, .int .i64 0, .int .i64 0], .bool false]) (by simp [results, Tryz.results105, go_sem]) rfl ⟨rfl, (Below.refl _ _).alloc (Nat.le_refl _) _⟩
  · have b2 : -200000000000000 ≤ t.tdiv 86400 := by omega
    have b4 : t.tdiv 86400 < -719162 := by omega
    clear p1 p2 p3 hw
    go_enter Tryz.func105, Tryz.ntmps105
    go_wp2_with fail
    refine (date_no _ _ (by omega)).mono ?_
    rintro e w' ⟨rfl, rfl⟩
    go_wp2_with fail
    exact bodyPost_ret (v := .tuple #[.agg #[.int .i64 0, .int .i64 0, .int .i64 0, .int .i64 0, .int .i64 0, .int .i64 0], .bool false]) (by simp [results, Tryz.results105, go_sem]) rfl ⟨rfl, (Below.refl _ _).alloc (Nat.le_refl _) _⟩
end Go.Proofs.YtngamlikhgilhaaGreatDoor
/- Contracts of the reference's calendar (package cracknelref09): what each function hands back, for all arguments. -/
namespace Go.Proofs.YtngamlikhgilhaaGreatDoor
open Go.RowKit

set_option maxRecDepth 100000 in
theorem rleap_any (y : Int) (w : World) : Calls Tryz.prog 137 #[.int .i64 y] w fun e w' => e = .returned (.bool (leapB y)) ∧ w = w' := by
  cases h1 : (y.tmod 4 == 0) <;> cases h2 : (y.tmod 100 == 0) <;> cases h3 : (y.tmod 400 == 0)
  all_goals
    have h2n : (y.tmod 100 != 0) = !(y.tmod 100 == 0) := rfl
    rw [h2] at h2n
    simp only [Bool.not_true, Bool.not_false] at h2n
    go_enter Tryz.func137, Tryz.ntmps137
    go_wp2
    go_ret
    exact ⟨by simp [leapB, h1, h2, h3], rfl⟩

theorem rlong_any (y : Int) (w : World) : Calls Tryz.prog 127 #[.int .i64 y] w fun e w' => e = .returned (.int .i64 (ylen y)) ∧ w = w' := by
  cases hb : leapB y
  all_goals
    have HY := Lib.hid (show ylen y = if leapB y then 366 else 365 from rfl)
    have HB := Lib.hid hb
    clear hb
    go_enter Tryz.func127, Tryz.ntmps127
    go_wp2_with fail
    refine (rleap_any y _).mono ?_
    rintro e w' ⟨rfl, rfl⟩
    rw [HB.out]
    go_wp2_with fail
    go_ret
    exact ⟨by unfold ylen; rw [HB.out]; rfl, rfl⟩

theorem rlen_out (y m : Int) (w : World) (h : ¬(1 ≤ y ∧ y ≤ 9999)) : Calls Tryz.prog 128 #[.int .i64 y, .int .i64 m] w fun e w' => e = .returned (.int .i64 (lenI y m)) ∧ w = w' := by
  have HL := Lib.hid (show lenI y m = 0 from if_neg (by omega))
  have h' : y < 1 ∨ (1 ≤ y ∧ 9999 < y) := by omega
  clear h
  rcases h' with h | ⟨h, h'⟩
  all_goals
    go_enter Tryz.func128, Tryz.ntmps128
    go_wp2
    go_ret
    exact ⟨by rw [HL.out]; rfl, rfl⟩
theorem rlen_odd (y m : Int) (w : World) (h1 : 1 ≤ y) (h2 : y ≤ 9999) (h : m < 1 ∨ 12 < m) : Calls Tryz.prog 128 #[.int .i64 y, .int .i64 m] w fun e w' => e = .returned (.int .i64 (lenI y m)) ∧ w = w' := by
  have HL := Lib.hid (show lenI y m = 0 from if_neg (by omega))
  have e1 : (m == 1) = false := beq_eq_false_iff_ne.2 (by omega)
  have e2 : (m == 2) = false := beq_eq_false_iff_ne.2 (by omega)
  have e3 : (m == 3) = false := beq_eq_false_iff_ne.2 (by omega)
  have e4 : (m == 4) = false := beq_eq_false_iff_ne.2 (by omega)
  have e5 : (m == 5) = false := beq_eq_false_iff_ne.2 (by omega)
  have e6 : (m == 6) = false := beq_eq_false_iff_ne.2 (by omega)
  have e7 : (m == 7) = false := beq_eq_false_iff_ne.2 (by omega)
  have e8 : (m == 8) = false := beq_eq_false_iff_ne.2 (by omega)
  have e9 : (m == 9) = false := beq_eq_false_iff_ne.2 (by omega)
  have e10 : (m == 10) = false := beq_eq_false_iff_ne.2 (by omega)
  have e11 : (m == 11) = false := beq_eq_false_iff_ne.2 (by omega)
  have e12 : (m == 12) = false := beq_eq_false_iff_ne.2 (by omega)
  clear h
  go_enter Tryz.func128, Tryz.ntmps128
  go_wp2
  go_ret
  exact ⟨by rw [HL.out]; rfl, rfl⟩

theorem rlen_1 (y : Int) (w : World) (h1 : 1 ≤ y) (h2 : y ≤ 9999) : Calls Tryz.prog 128 #[.int .i64 y, .int .i64 1] w fun e w' => e = .returned (.int .i64 (lenI y 1)) ∧ w = w' := by
  have HL := Lib.hid (lenI_in h1 h2 (by omega) (by omega : (1 : Int) ≤ 12))
  go_enter Tryz.func128, Tryz.ntmps128
  go_wp2_with fail
  go_ret
  exact ⟨by rw [HL.out]; rfl, rfl⟩

theorem rlen_2 (y : Int) (w : World) (h1 : 1 ≤ y) (h2 : y ≤ 9999) : Calls Tryz.prog 128 #[.int .i64 y, .int .i64 2] w fun e w' => e = .returned (.int .i64 (lenI y 2)) ∧ w = w' := by
  have HL := Lib.hid (lenI_in h1 h2 (by omega) (by omega : (2 : Int) ≤ 12))
  cases hb : leapB y
  all_goals
    have HB := Lib.hid hb
    clear hb
    go_enter Tryz.func128, Tryz.ntmps128
    go_wp2_with fail
    refine (rleap_any y _).mono ?_
    rintro e w' ⟨rfl, rfl⟩
    rw [HB.out]
    go_wp2_with fail
    go_ret
    exact ⟨by rw [HL.out, HB.out]; rfl, rfl⟩

theorem rlen_3 (y : Int) (w : World) (h1 : 1 ≤ y) (h2 : y ≤ 9999) : Calls Tryz.prog 128 #[.int .i64 y, .int .i64 3] w fun e w' => e = .returned (.int .i64 (lenI y 3)) ∧ w = w' := by
  have HL := Lib.hid (lenI_in h1 h2 (by omega) (by omega : (3 : Int) ≤ 12))
  go_enter Tryz.func128, Tryz.ntmps128
  go_wp2_with fail
  go_ret
  exact ⟨by rw [HL.out]; rfl, rfl⟩

theorem rlen_4 (y : Int) (w : World) (h1 : 1 ≤ y) (h2 : y ≤ 9999) : Calls Tryz.prog 128 #[.int .i64 y, .int .i64 4] w fun e w' => e = .returned (.int .i64 (lenI y 4)) ∧ w = w' := by
  have HL := Lib.hid (lenI_in h1 h2 (by omega) (by omega : (4 : Int) ≤ 12))
  go_enter Tryz.func128, Tryz.ntmps128
  go_wp2_with fail
  go_ret
  exact ⟨by rw [HL.out]; rfl, rfl⟩

theorem rlen_5 (y : Int) (w : World) (h1 : 1 ≤ y) (h2 : y ≤ 9999) : Calls Tryz.prog 128 #[.int .i64 y, .int .i64 5] w fun e w' => e = .returned (.int .i64 (lenI y 5)) ∧ w = w' := by
  have HL := Lib.hid (lenI_in h1 h2 (by omega) (by omega : (5 : Int) ≤ 12))
  go_enter Tryz.func128, Tryz.ntmps128
  go_wp2_with fail
  go_ret
  exact ⟨by rw [HL.out]; rfl, rfl⟩

theorem rlen_6 (y : Int) (w : World) (h1 : 1 ≤ y) (h2 : y ≤ 9999) : Calls Tryz.prog 128 #[.int .i64 y, .int .i64 6] w fun e w' => e = .returned (.int .i64 (lenI y 6)) ∧ w = w' := by
  have HL := Lib.hid (lenI_in h1 h2 (by omega) (by omega : (6 : Int) ≤ 12))
  go_enter Tryz.func128, Tryz.ntmps128
  go_wp2_with fail
  go_ret
  exact ⟨by rw [HL.out]; rfl, rfl⟩

theorem rlen_7 (y : Int) (w : World) (h1 : 1 ≤ y) (h2 : y ≤ 9999) : Calls Tryz.prog 128 #[.int .i64 y, .int .i64 7] w fun e w' => e = .returned (.int .i64 (lenI y 7)) ∧ w = w' := by
  have HL := Lib.hid (lenI_in h1 h2 (by omega) (by omega : (7 : Int) ≤ 12))
  go_enter Tryz.func128, Tryz.ntmps128
  go_wp2_with fail
  go_ret
  exact ⟨by rw [HL.out]; rfl, rfl⟩

theorem rlen_8 (y : Int) (w : World) (h1 : 1 ≤ y) (h2 : y ≤ 9999) : Calls Tryz.prog 128 #[.int .i64 y, .int .i64 8] w fun e w' => e = .returned (.int .i64 (lenI y 8)) ∧ w = w' := by
  have HL := Lib.hid (lenI_in h1 h2 (by omega) (by omega : (8 : Int) ≤ 12))
  go_enter Tryz.func128, Tryz.ntmps128
  go_wp2_with fail
  go_ret
  exact ⟨by rw [HL.out]; rfl, rfl⟩

theorem rlen_9 (y : Int) (w : World) (h1 : 1 ≤ y) (h2 : y ≤ 9999) : Calls Tryz.prog 128 #[.int .i64 y, .int .i64 9] w fun e w' => e = .returned (.int .i64 (lenI y 9)) ∧ w = w' := by
  have HL := Lib.hid (lenI_in h1 h2 (by omega) (by omega : (9 : Int) ≤ 12))
  go_enter Tryz.func128, Tryz.ntmps128
  go_wp2_with fail
  go_ret
  exact ⟨by rw [HL.out]; rfl, rfl⟩

theorem rlen_10 (y : Int) (w : World) (h1 : 1 ≤ y) (h2 : y ≤ 9999) : Calls Tryz.prog 128 #[.int .i64 y, .int .i64 10] w fun e w' => e = .returned (.int .i64 (lenI y 10)) ∧ w = w' := by
  have HL := Lib.hid (lenI_in h1 h2 (by omega) (by omega : (10 : Int) ≤ 12))
  go_enter Tryz.func128, Tryz.ntmps128
  go_wp2_with fail
  go_ret
  exact ⟨by rw [HL.out]; rfl, rfl⟩

theorem rlen_11 (y : Int) (w : World) (h1 : 1 ≤ y) (h2 : y ≤ 9999) : Calls Tryz.prog 128 #[.int .i64 y, .int .i64 11] w fun e w' => e = .returned (.int .i64 (lenI y 11)) ∧ w = w' := by
  have HL := Lib.hid (lenI_in h1 h2 (by omega) (by omega : (11 : Int) ≤ 12))
  go_enter Tryz.func128, Tryz.ntmps128
  go_wp2_with fail
  go_ret
  exact ⟨by rw [HL.out]; rfl, rfl⟩

theorem rlen_12 (y : Int) (w : World) (h1 : 1 ≤ y) (h2 : y ≤ 9999) : Calls Tryz.prog 128 #[.int .i64 y, .int .i64 12] w fun e w' => e = .returned (.int .i64 (lenI y 12)) ∧ w = w' := by
  have HL := Lib.hid (lenI_in h1 h2 (by omega) (by omega : (12 : Int) ≤ 12))
  go_enter Tryz.func128, Tryz.ntmps128
  go_wp2_with fail
  go_ret
  exact ⟨by rw [HL.out]; rfl, rfl⟩

theorem rlen_any (y m : Int) (w : World) : Calls Tryz.prog 128 #[.int .i64 y, .int .i64 m] w fun e w' => e = .returned (.int .i64 (lenI y m)) ∧ w = w' := by
  by_cases h : 1 ≤ y ∧ y ≤ 9999
  · obtain ⟨h1, h2⟩ := h
    have h5 : (m < 1 ∨ 12 < m) ∨ m = 1 ∨ m = 2 ∨ m = 3 ∨ m = 4 ∨ m = 5 ∨ m = 6 ∨ m = 7 ∨ m = 8 ∨ m = 9 ∨ m = 10 ∨ m = 11 ∨ m = 12 := by omega
    rcases h5 with h5 | rfl | rfl | rfl | rfl | rfl | rfl | rfl | rfl | rfl | rfl | rfl | rfl
    · exact rlen_odd y m w h1 h2 h5
    · exact rlen_1 y w h1 h2
    · exact rlen_2 y w h1 h2
    · exact rlen_3 y w h1 h2
    · exact rlen_4 y w h1 h2
    · exact rlen_5 y w h1 h2
    · exact rlen_6 y w h1 h2
    · exact rlen_7 y w h1 h2
    · exact rlen_8 y w h1 h2
    · exact rlen_9 y w h1 h2
    · exact rlen_10 y w h1 h2
    · exact rlen_11 y w h1 h2
    · exact rlen_12 y w h1 h2
  · exact rlen_out y m w h

theorem rdays_no (y m d : Int) (w : World) (h : ¬vld y m d) : Calls Tryz.prog 123 #[.int .i64 y, .int .i64 m, .int .i64 d] w fun e w' => e = .returned (.tuple #[.int .i64 0, .bool false]) ∧ w = w' := by
  have h' : d < 1 ∨ (1 ≤ d ∧ lenI y m < d) := by rw [vld_len] at h; omega
  clear h
  rcases h' with h | ⟨h, h'⟩
  · go_enter Tryz.func123, Tryz.ntmps123
    go_wp2_with fail
    go_ret2
    exact ⟨rfl, rfl⟩
  · go_enter Tryz.func123, Tryz.ntmps123
    go_wp2_with fail
    refine (rlen_any y m _).mono ?_
    rintro e w' ⟨rfl, rfl⟩
    go_wp2_with fail
    go_ret2
    exact ⟨rfl, rfl⟩

set_option maxRecDepth 100000 in
theorem rdays_yes (y m d : Int) (w : World) (h : vld y m d) : Calls Tryz.prog 123 #[.int .i64 y, .int .i64 m, .int .i64 d] w fun e w' => e = .returned (.tuple #[.int .i64 (num y m d), .bool true]) ∧ w = w' := by
  obtain ⟨h5, h6⟩ := vld_len.1 h
  have h6' : ¬ lenI y m < d := by omega
  obtain ⟨h1, h2, h3, h4, -, -⟩ := h
  have hl := (lenI_bd y m).2
  have HN := Lib.hid (show num y m d = ahead y + d - 1 - 719162 + cum (leapB y) m by unfold num; omega)
  have A0 := Lib.hid ahead_1970
  go_enter Tryz.func123, Tryz.ntmps123
  go_wp2_with fail
  refine (rlen_any y m _).mono ?_
  rintro e w' ⟨rfl, rfl⟩
  go_wp2_with fail
  go_loop [8, 9] (fun n i => ∃ k r : Int, 1970 ≤ k ∧ (k ≤ y ∨ k = 1970) ∧ i = .int .i64 k ∧ r = d - 1 + ahead k - 719162 ∧ n = .int .i64 r) (fun _ i => (y - intOf i).toNat)
  case atStart => exact ⟨1970, d - 1, by omega, by omega, rfl, by rw [A0.out]; omega, rfl⟩
  case round =>
    obtain ⟨k, r, hk1, hk2, rfl, hr, rfl⟩ := hrel
    have HR := Lib.hid hr
    obtain ⟨ha1, ha2⟩ := ahead_bd (show 1 ≤ k by omega) (show k ≤ 10000 by omega)
    have hr1 : -800000 ≤ r := by omega
    have hr2 : r ≤ 4000000 := by omega
    clear hr
    by_cases hlt : k < y
    · have HC := Lib.hid (ahead_succ k)
      obtain ⟨hm1, hm2⟩ := ylen_bd k
      go_wp2_with (go_at_call 127; refine (rlong_any k _).mono ?_; rintro e w' ⟨rfl, rfl⟩)
      go_round
      case rel => exact ⟨k + 1, r + ylen k, by omega, by omega, rfl, by rw [HC.out]; have := HR.out; omega, rfl⟩
      case measure => simp [intOf]; omega
    · go_wp2_with fail
      go_loop [8, 10] (fun n i => ∃ j q : Int, y ≤ j ∧ 1 ≤ j ∧ (j ≤ 1970 ∨ j = y) ∧ i = .int .i64 j ∧ q = r - ahead (if 1970 ≤ j then 1970 else j) + ahead (if 1970 ≤ y then 1970 else y) + 0 * j ∧ n = .int .i64 q) (fun _ i => (1970 - intOf i).toNat)
      case atStart => exact ⟨y, r, by omega, by omega, by omega, rfl, by omega, rfl⟩
      case round =>
        obtain ⟨j, q, hj1, hj0, hj2, rfl, hq, rfl⟩ := hrel
        have HQ := Lib.hid hq
        have hq1 : -5000000 ≤ q := by
          have := ahead_bd (y := if 1970 ≤ j then 1970 else j) (by split <;> omega) (by split <;> omega)
          have := ahead_bd (y := if 1970 ≤ y then 1970 else y) (by split <;> omega) (by split <;> omega)
          omega
        have hq2 : q ≤ 9000000 := by
          have := ahead_bd (y := if 1970 ≤ j then 1970 else j) (by split <;> omega) (by split <;> omega)
          have := ahead_bd (y := if 1970 ≤ y then 1970 else y) (by split <;> omega) (by split <;> omega)
          omega
        clear hq
        by_cases hlt2 : j < 1970
        · have HC := Lib.hid (ahead_succ j)
          obtain ⟨hm1, hm2⟩ := ylen_bd j
          go_wp2_with (go_at_call 127; refine (rlong_any j _).mono ?_; rintro e w' ⟨rfl, rfl⟩)
          go_round
          case rel =>
            refine ⟨j + 1, q - ylen j, by omega, by omega, by omega, rfl, ?_, rfl⟩
            have h7 := HQ.out
            rw [if_neg (by omega : ¬(1970 ≤ j))] at h7
            have h8 : (if 1970 ≤ j + 1 then (1970 : Int) else j + 1) = j + 1 := by split <;> omega
            rw [h8, HC.out]
            omega
          case measure => simp [intOf]; omega
        · have HZ := Lib.hid (show q = d - 1 - 719162 + ahead y by
            have h7 := HQ.out
            have h8 := HR.out
            rw [if_pos (by omega : 1970 ≤ j)] at h7
            by_cases h9 : 1970 ≤ y
            · rw [if_pos h9] at h7
              rw [show y = k by omega]
              omega
            · rw [if_neg h9] at h7
              rw [show k = 1970 by omega] at h8
              omega)
          clear HQ HR
          go_wp2_with fail
          go_loop [8, 11] (fun n i => ∃ k q' : Int, 1 ≤ k ∧ k ≤ m ∧ i = .int .i64 k ∧ q' = q + cum (leapB y) k ∧ n = .int .i64 q') (fun _ i => (m - intOf i).toNat)
          case atStart => exact ⟨1, q, by omega, by omega, rfl, by rw [cum_1]; omega, rfl⟩
          case round =>
            obtain ⟨k, q', hk1, hk2, rfl, hq', rfl⟩ := hrel
            obtain ⟨hc1, hc2⟩ := cum_bd (leapB y) k hk1 (by omega)
            have HQ' := Lib.hid hq'
            have hq3 : -6000000 ≤ q' := by omega
            have hq4 : q' ≤ 10000000 := by omega
            clear hq'
            by_cases hlt3 : k < m
            · have HC := Lib.hid (cum_succ (leapB y) k hk1 (by omega))
              have HL := Lib.hid (lenI_in h1 h2 hk1 (by omega : k ≤ 12))
              obtain ⟨hm1, hm2⟩ := lenI_bd y k
              go_wp2_with (go_at_call 128; refine (rlen_any y k _).mono ?_; rintro e w' ⟨rfl, rfl⟩)
              go_round
              case rel => exact ⟨k + 1, q' + lenI y k, by omega, by omega, rfl, by rw [HC.out, HL.out]; have := HQ'.out; omega, rfl⟩
              case measure => simp [intOf]; omega
            · go_wp2_with fail
              go_ret2
              exact ⟨by rw [HN.out, show q' = ahead y + d - 1 - 719162 + cum (leapB y) m by rw [HQ'.out, HZ.out, show k = m by omega]; omega]; rfl, rfl⟩
end Go.Proofs.YtngamlikhgilhaaGreatDoor
/- Contracts of the reference's calendar, second part: dates, days of the week, clocks. -/
namespace Go.Proofs.YtngamlikhgilhaaGreatDoor
open Go.RowKit

theorem rdate_no (n : Int) (w : World) (h : n < -719162 ∨ 2932897 ≤ n) : Calls Tryz.prog 108 #[.int .i64 n] w fun e w' => e = .returned (.tuple #[.int .i64 0, .int .i64 0, .int .i64 0, .bool false]) ∧ w = w' := by
  have h' : n < -719162 ∨ (-719162 ≤ n ∧ 2932896 < n) := by omega
  clear h
  rcases h' with h | ⟨h, h'⟩
  all_goals
    go_enter Tryz.func108, Tryz.ntmps108
    go_wp2_with fail
    refine bodyPost_ret (results_tmp4 rfl _ _ _) rfl ?_
    exact ⟨rfl, rfl⟩

set_option maxRecDepth 100000 in
theorem rdate_yes (n : Int) (w : World) (h1 : -719162 ≤ n) (h2 : n < 2932897) : Calls Tryz.prog 108 #[.int .i64 n] w (DateP n w) := by
  have A0 := Lib.hid ahead_1970
  have hd1 : decide (n < -719162) = false := by simp; omega
  have hd2 : decide (2932896 < n) = false := by simp; omega
  go_enter Tryz.func108, Tryz.ntmps108
  go_wp2_with fail
  go_loop [0, 6] (fun a t => ∃ r y : Int, 1 ≤ y ∧ y ≤ 1970 ∧ (r < 0 ∨ 0 ≤ r ∧ r ≤ 4000000) ∧ -719162 ≤ r ∧ r + ahead y - 719162 = n ∧ a = .int .i64 r ∧ t = .int .i64 y) (fun _ t => (intOf t).toNat)
  case atStart => exact ⟨n, 1970, by omega, by omega, by omega, by omega, by rw [A0.out]; omega, rfl, rfl⟩
  case round =>
    obtain ⟨r, y, hy1, hy2, hr0, hr1, hn, rfl, rfl⟩ := hrel
    have HN := Lib.hid hn
    have hr2 : r ≤ 4000000 := by omega
    clear hn hr0
    by_cases hlt : r < 0
    · have hy3 : 1 < y := by
        rcases Int.lt_or_le 1 y with h | h
        · exact h
        · have h8 := HN.out
          rw [show y = 1 by omega, ahead_1] at h8
          omega
      have HC := Lib.hid (ahead_succ (y - 1))
      obtain ⟨hm1, hm2⟩ := ylen_bd (y - 1)
      go_wp2_with (go_at_call 127; refine (rlong_any (y - 1) _).mono ?_; rintro e w' ⟨rfl, rfl⟩)
      go_round
      case rel => exact ⟨r + ylen (y - 1), y - 1, by omega, by omega, by omega, by omega, by have h8 := HC.out; have h9 := HN.out; rw [show y - 1 + 1 = y by omega] at h8; omega, rfl, rfl⟩
      case measure => simp [intOf]; omega
    · go_wp2_with fail
      go_loop [0, 6] (fun a t => ∃ r y : Int, 1 ≤ y ∧ y ≤ 9999 ∧ 0 ≤ r ∧ r ≤ 4000000 ∧ r + ahead y - 719162 = n ∧ a = .int .i64 r ∧ t = .int .i64 y) (fun a _ => (intOf a).toNat)
      case atStart => exact ⟨r, y, by omega, by omega, by omega, by omega, HN.out, rfl, rfl⟩
      case round =>
        clear HN hr1 hr2 hlt hy1 hy2
        obtain ⟨r, y, hy1, hy2, hr1, hr2, hn, rfl, rfl⟩ := hrel
        have HN := Lib.hid hn
        clear hn
        have HC := Lib.hid (ahead_succ y)
        obtain ⟨hm1, hm2⟩ := ylen_bd y
        by_cases hlt : ylen y ≤ r
        · have hy3 : y < 9999 := by
            rcases Int.lt_or_le y 9999 with h | h
            · exact h
            · have h8 := HN.out
              have h9 := HC.out
              rw [show y + 1 = 10000 by omega, ahead_10000] at h9
              omega
          go_wp2_with (go_at_call 127; refine (rlong_any y _).mono ?_; rintro e w' ⟨rfl, rfl⟩)
          go_round
          case rel => exact ⟨r - ylen y, y + 1, by omega, by omega, by omega, by omega, by have h8 := HC.out; have h9 := HN.out; omega, rfl, rfl⟩
          case measure => simp [intOf]; omega
        · have hlt' : decide (ylen y ≤ r) = false := by simp; omega
          have hr3 : r < ylen y := by omega
          go_wp2_with (go_at_call 127; refine (rlong_any y _).mono ?_; rintro e w' ⟨rfl, rfl⟩)
          clear hlt
          go_loop [0, 7] (fun a k => ∃ r' m : Int, 1 ≤ m ∧ m ≤ 12 ∧ 0 ≤ r' ∧ r' ≤ 400 ∧ cum (leapB y) m + r' < ylen y ∧ r' + cum (leapB y) m = r ∧ a = .int .i64 r' ∧ k = .int .i64 m) (fun _ k => (12 - intOf k).toNat)
          case atStart => exact ⟨r, 1, by omega, by omega, by omega, by omega, by rw [cum_1]; omega, by rw [cum_1]; omega, rfl, rfl⟩
          case round =>
            obtain ⟨q, m, hm3, hm4, hq1, hq2, hq3, hq, rfl, rfl⟩ := hrel
            have HQ := Lib.hid hq
            clear hq
            obtain ⟨cb1, cb2⟩ := cum_bd (leapB y) m hm3 (by omega)
            obtain ⟨lb1, lb2⟩ := lenI_bd y m
            have HC2 := Lib.hid (cum_succ (leapB y) m hm3 hm4)
            have HL := Lib.hid (lenI_in hy1 hy2 hm3 hm4)
            by_cases hc : lenI y m ≤ q
            · have hm5 : m < 12 := by
                rcases Int.lt_or_le m 12 with h | h
                · exact h
                · have h1 := HC2.out
                  have h2 := HL.out
                  rw [show m + 1 = 13 by omega, cum_13] at h1
                  unfold ylen at hq3
                  omega
              go_wp2_with (go_at_call 128; refine (rlen_any y m _).mono ?_; rintro e w' ⟨rfl, rfl⟩)
              go_round
              case rel => exact ⟨q - lenI y m, m + 1, by omega, by omega, by omega, by omega, by rw [HC2.out, ← HL.out]; omega, by rw [HC2.out, ← HL.out]; have := HQ.out; omega, rfl, rfl⟩
              case measure => simp [intOf]; omega
            · go_wp2_with (go_at_call 128; refine (rlen_any y m _).mono ?_; rintro e w' ⟨rfl, rfl⟩)
              refine bodyPost_ret (results_tmp4 rfl _ _ _) rfl ?_
              exact date_end hy1 hy2 hm3 hm4 hq1 (by omega) (by have := HQ.out; have := HN.out; omega)

theorem rwday_any (n : Int) (w : World) : Calls Tryz.prog 73 #[.int .i64 n] w fun e w' => e = .returned (.int .i64 (wday n)) ∧ w = w' := by
  obtain ⟨h1, h2, h3⟩ := tparts n 7 (by omega)
  have hb1 : -7 < n.tmod 7 := by omega
  have hb2 : n.tmod 7 < 7 := by omega
  by_cases h0 : n.tmod 7 < 0
  · have HW := Lib.hid (show wday n = (n.tmod 7 + 7 + 4) % 7 by unfold wday; omega)
    clear h1 h2 h3
    go_enter Tryz.func73, Tryz.ntmps73
    go_wp2
    go_ret
    exact ⟨ret_int (by rw [HW.out]), rfl⟩
  · have HW := Lib.hid (show wday n = (n.tmod 7 + 4) % 7 by unfold wday; omega)
    clear h1 h2 h3
    go_enter Tryz.func73, Tryz.ntmps73
    go_wp2
    go_ret
    exact ⟨ret_int (by rw [HW.out]), rfl⟩

set_option maxRecDepth 100000 in
theorem repoch_no (y m d h n s : Int) (w : World) (hn : ¬vclk y m d h n s) :
    Calls Tryz.prog 102 #[.agg #[.int .i64 y, .int .i64 m, .int .i64 d, .int .i64 h, .int .i64 n, .int .i64 s]] w fun e w' => e = .returned (.tuple #[.int .i64 0, .bool false]) ∧ Below w.heap.size w w' := by
  by_cases hv : vld y m d
  · have h1 := not_vclk hv hn
    rcases h1 with h1 | ⟨h1, h2⟩ | ⟨h1, h2, h3⟩ | ⟨h1, h2, h3, h4⟩ | ⟨h1, h2, h3, h4, h5⟩ | ⟨h1, h2, h3, h4, h5, h6⟩
    all_goals
      go_enter Tryz.func102, Tryz.ntmps102
      go_wp2_with fail
      refine (rdays_yes y m d _ hv).mono ?_
      rintro e w' ⟨rfl, rfl⟩
      go_wp2_with fail
      go_ret2
      exact ⟨rfl, (Below.refl _ w).alloc (Nat.le_refl _) _⟩
  · go_enter Tryz.func102, Tryz.ntmps102
    go_wp2_with fail
    refine (rdays_no y m d _ hv).mono ?_
    rintro e w' ⟨rfl, rfl⟩
    go_wp2_with fail
    go_ret2
    exact ⟨rfl, (Below.refl _ w).alloc (Nat.le_refl _) _⟩

set_option maxRecDepth 100000 in
theorem repoch_yes (y m d h n s : Int) (w : World) (hv : vclk y m d h n s) :
    Calls Tryz.prog 102 #[.agg #[.int .i64 y, .int .i64 m, .int .i64 d, .int .i64 h, .int .i64 n, .int .i64 s]] w fun e w' => e = .returned (.tuple #[.int .i64 (secs y m d h n s), .bool true]) ∧ Below w.heap.size w w' := by
  obtain ⟨hv, h1, h2, h3, h4, h5, h6⟩ := hv
  obtain ⟨hb1, hb2⟩ := num_bd hv
  go_enter Tryz.func102, Tryz.ntmps102
  go_wp2_with fail
  refine (rdays_yes y m d _ hv).mono ?_
  rintro e w' ⟨rfl, rfl⟩
  go_wp2_with fail
  go_ret2
  exact ⟨by rw [show secs y m d h n s = 86400 * num y m d + 3600 * h + 60 * n + s from rfl]; rfl, (Below.refl _ w).alloc (Nat.le_refl _) _⟩

theorem of_end2 {t q r y m d : Int} {w w' : World} (hv : vld y m d) (hn : num y m d = q) (h0 : 0 ≤ r) (h1 : r < 86400) (ht : t = 86400 * q + r) (hb : Below w.heap.size w w') :
    OfP t w (.returned (.tuple #[.agg #[.int .i64 y, .int .i64 m, .int .i64 d, .int .i64 (r / 3600), .int .i64 (r / 60 % 60), .int .i64 (r % 60)], .bool true])) w' :=
  ⟨y, m, d, r / 3600, r / 60 % 60, r % 60, rfl, ⟨hv, by omega, by omega, by omega, by omega, by omega, by omega⟩, by unfold secs; omega, hb⟩

set_option maxRecDepth 100000 in
theorem rof_no (t : Int) (w : World) (h : t < -62135596800 ∨ 253402300799 < t) : Calls Tryz.prog 72 #[.int .i64 t] w fun e w' => e = .returned (.tuple #[clkV 0 0 0 0 0 0, .bool false]) ∧ Below w.heap.size w w' := by
  have h' : t < -62135596800 ∨ (-62135596800 ≤ t ∧ 253402300799 < t) := by omega
  clear h
  rcases h' with h | ⟨h, h'⟩
  all_goals
    go_enter Tryz.func72, Tryz.ntmps72
    go_wp2_with fail
    exact bodyPost_ret (v := .tuple #[.agg #[.int .i64 0, .int .i64 0, .int .i64 0, .int .i64 0, .int .i64 0, .int .i64 0], .bool false]) (by simp [results, Tryz.results72, go_sem]) rfl ⟨rfl, (Below.refl _ _).alloc (Nat.le_refl _) _⟩

set_option maxRecDepth 100000 in
theorem rof_pos (t : Int) (w : World) (h1 : 0 ≤ t) (h2 : t ≤ 253402300799) : Calls Tryz.prog 72 #[.int .i64 t] w (OfP t w) := by
  have h3 : ¬ t < t / 86400 * 86400 := by omega
  go_enter Tryz.func72, Tryz.ntmps72
  go_wp2_with fail
  refine (rdate_yes _ _ (by omega) (by omega)).mono ?_
  rintro e w' ⟨y, m, d, rfl, hv, hn, rfl⟩
  have HN := Lib.hid hn
  clear hn
  go_wp2_with fail
  refine bodyPost_ret (v := .tuple #[.agg #[.int .i64 y, .int .i64 m, .int .i64 d, .int .i64 ((t - 86400 * (t / 86400)) / 3600), .int .i64 ((t - 86400 * (t / 86400)) / 60 % 60), .int .i64 ((t - 86400 * (t / 86400)) % 60)], .bool true]) (by simp [results, Tryz.results72, go_sem]) rfl ?_
  refine of_end2 hv HN.out (by omega) (by omega) (by omega) ?_
  exact (Below.refl _ _).alloc (Nat.le_refl _) _

set_option maxRecDepth 100000 in
theorem rof_neg (t : Int) (w : World) (h1 : -62135596800 ≤ t) (h2 : t < 0) (h3 : t.tmod 86400 < 0) : Calls Tryz.prog 72 #[.int .i64 t] w (OfP t w) := by
  obtain ⟨p1, -, p3⟩ := tparts t 86400 (by omega)
  have b1 : -86400 < t.tmod 86400 := (p3 h2).1
  have b2 : -720000 ≤ t.tdiv 86400 := by omega
  have b3 : t.tdiv 86400 ≤ 0 := by omega
  have b4 : t < t.tdiv 86400 * 86400 := by omega
  have HP := Lib.hid p1
  clear p1 p3
  go_enter Tryz.func72, Tryz.ntmps72
  go_wp2_with fail
  refine (rdate_yes _ _ (by have := HP.out; omega) (by omega)).mono ?_
  rintro e w' ⟨y, m, d, rfl, hv, hn, rfl⟩
  have HN := Lib.hid hn
  clear hn
  have b5 : 0 ≤ t - 86400 * (t.tdiv 86400 - 1) := by have := HP.out; omega
  have b6 : t - 86400 * (t.tdiv 86400 - 1) < 86400 := by have := HP.out; omega
  go_wp2_with fail
  refine bodyPost_ret (v := .tuple #[.agg #[.int .i64 y, .int .i64 m, .int .i64 d, .int .i64 ((t - 86400 * (t.tdiv 86400 - 1)) / 3600), .int .i64 ((t - 86400 * (t.tdiv 86400 - 1)) / 60 % 60), .int .i64 ((t - 86400 * (t.tdiv 86400 - 1)) % 60)], .bool true]) (by simp [results, Tryz.results72, go_sem]) rfl ?_
  refine of_end2 hv HN.out b5 b6 (by omega) ?_
  exact (Below.refl _ _).alloc (Nat.le_refl _) _

set_option maxRecDepth 100000 in
theorem rof_zero (t : Int) (w : World) (h1 : -62135596800 ≤ t) (h2 : t < 0) (h3 : t.tmod 86400 = 0) : Calls Tryz.prog 72 #[.int .i64 t] w (OfP t w) := by
  obtain ⟨p1, -, p3⟩ := tparts t 86400 (by omega)
  have b2 : -720000 ≤ t.tdiv 86400 := by omega
  have b3 : t.tdiv 86400 ≤ 0 := by omega
  have b4 : ¬ t < t.tdiv 86400 * 86400 := by omega
  have HP := Lib.hid p1
  have H3 := Lib.hid h3
  clear p1 p3 h3
  go_enter Tryz.func72, Tryz.ntmps72
  go_wp2_with fail
  refine (rdate_yes _ _ (by have := HP.out; have := H3.out; omega) (by omega)).mono ?_
  rintro e w' ⟨y, m, d, rfl, hv, hn, rfl⟩
  have HN := Lib.hid hn
  clear hn
  have b5 : 0 ≤ t - 86400 * t.tdiv 86400 := by have := HP.out; have := H3.out; omega
  have b6 : t - 86400 * t.tdiv 86400 < 86400 := by have := HP.out; have := H3.out; omega
  go_wp2_with fail
  refine bodyPost_ret (v := .tuple #[.agg #[.int .i64 y, .int .i64 m, .int .i64 d, .int .i64 ((t - 86400 * t.tdiv 86400) / 3600), .int .i64 ((t - 86400 * t.tdiv 86400) / 60 % 60), .int .i64 ((t - 86400 * t.tdiv 86400) % 60)], .bool true]) (by simp [results, Tryz.results72, go_sem]) rfl ?_
  refine of_end2 hv HN.out b5 b6 (by omega) ?_
  exact (Below.refl _ _).alloc (Nat.le_refl _) _

theorem rof_yes (t : Int) (w : World) (h1 : -62135596800 ≤ t) (h2 : t ≤ 253402300799) : Calls Tryz.prog 72 #[.int .i64 t] w (OfP t w) := by
  by_cases h0 : 0 ≤ t
  · exact rof_pos t w h0 h2
  · have h3 := ((tparts t 86400 (by omega)).2.2 (by omega)).2
    by_cases h4 : t.tmod 86400 = 0
    · exact rof_zero t w h1 (by omega) h4
    · exact rof_neg t w h1 (by omega) (by omega)
end Go.Proofs.YtngamlikhgilhaaGreatDoor
