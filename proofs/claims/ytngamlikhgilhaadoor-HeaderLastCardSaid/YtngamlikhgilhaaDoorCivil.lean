/- Contracts of the program's calendar (package civil): what each function hands back, for all arguments. -/
import Derived.Test.YtngamlikhgilhaaDoorProg
import Derived.Test.YtngamlikhgilhaaDoorCal
import Derived.WalkKit
import Derived.Below
import Derived.Lib.Hide
import Derived.LoopTactic
import Derived.WalkSpells
import Derived.Outline
import Derived.KernelRfl
namespace Go.Proofs.YtngamlikhgilhaaDoor
open Go.RowKit

theorem ret_int {k : IntKind} {a b : Int} (h : a = b) : Ending.returned (.int k a) = .returned (.int k b) := by rw [h]

set_option maxRecDepth 100000 in
theorem leap_any (y : Int) (w : World) : Calls Tryd.prog 86 #[.int .i64 y] w fun e w' => e = .returned (.bool (leapB y)) ∧ w = w' := by
  cases h1 : (y.tmod 4 == 0) <;> cases h2 : (y.tmod 100 == 0) <;> cases h3 : (y.tmod 400 == 0)
  all_goals
    have h2n : (y.tmod 100 != 0) = !(y.tmod 100 == 0) := rfl
    rw [h2] at h2n
    simp only [Bool.not_true, Bool.not_false] at h2n
    go_enter Tryd.func86, Tryd.ntmps86
    go_wp2
    go_ret
    exact ⟨by simp [leapB, h1, h2, h3], rfl⟩

theorem len_out (y m : Int) (w : World) (h : ¬(1 ≤ y ∧ y ≤ 9999 ∧ 1 ≤ m ∧ m ≤ 12)) : Calls Tryd.prog 74 #[.int .i64 y, .int .i64 m] w fun e w' => e = .returned (.int .i64 (lenI y m)) ∧ w = w' := by
  have HL := Lib.hid (show lenI y m = 0 from if_neg h)
  have h' : y < 1 ∨ (1 ≤ y ∧ 9999 < y) ∨ (1 ≤ y ∧ y ≤ 9999 ∧ m < 1) ∨ (1 ≤ y ∧ y ≤ 9999 ∧ 1 ≤ m ∧ 12 < m) := by omega
  clear h
  rcases h' with h | ⟨h, h'⟩ | ⟨h, h', h''⟩ | ⟨h, h', h'', h3⟩
  all_goals
    go_enter Tryd.func74, Tryd.ntmps74
    go_wp2
    go_ret
    exact ⟨by rw [HL.out]; rfl, rfl⟩

/-- The program's row of lengths. -/
def tab : Value := .agg #[.int .i64 31, .int .i64 28, .int .i64 31, .int .i64 30, .int .i64 31, .int .i64 30, .int .i64 31, .int .i64 31, .int .i64 30, .int .i64 31, .int .i64 30, .int .i64 31]
theorem idx (k : Int) (x : Value) (w : World) (h : (Instr.index 104 tab (.int .i64 k)).run Tryd.prog w = .ok x w) :
    (Instr.index 104 (.agg #[.int .i64 31, .int .i64 28, .int .i64 31, .int .i64 30, .int .i64 31, .int .i64 30, .int .i64 31, .int .i64 31, .int .i64 30, .int .i64 31, .int .i64 30, .int .i64 31]) (.int .i64 k)).run Tryd.prog w = .ok x w := h

set_option maxRecDepth 100000 in
theorem len_1 (y : Int) (w : World) (h1 : 1 ≤ y) (h2 : y ≤ 9999) : Calls Tryd.prog 74 #[.int .i64 y, .int .i64 1] w fun e w' => e = .returned (.int .i64 (lenI y 1)) ∧ w = w' := by
  have HL := Lib.hid (lenI_in h1 h2 (by omega) (by omega : (1 : Int) ≤ 12))
  have i0 := idx 0 (.int .i64 31) w (by kernel_rfl)
  go_enter Tryd.func74, Tryd.ntmps74
  go_wp2_with fail
  go_ret
  exact ⟨by rw [HL.out]; rfl, rfl⟩

set_option maxRecDepth 100000 in
theorem len_2 (y : Int) (w : World) (h1 : 1 ≤ y) (h2 : y ≤ 9999) : Calls Tryd.prog 74 #[.int .i64 y, .int .i64 2] w fun e w' => e = .returned (.int .i64 (lenI y 2)) ∧ w = w' := by
  have HL := Lib.hid (lenI_in h1 h2 (by omega) (by omega : (2 : Int) ≤ 12))
  have i0 := idx 1 (.int .i64 28) w (by kernel_rfl)
  cases hb : leapB y
  all_goals
    have HB := Lib.hid hb
    clear hb
    go_enter Tryd.func74, Tryd.ntmps74
    go_wp2_with fail
    refine (leap_any y _).mono ?_
    rintro e w' ⟨rfl, rfl⟩
    rw [HB.out]
    go_wp2_with fail
    go_ret
    exact ⟨by rw [HL.out, HB.out]; rfl, rfl⟩

set_option maxRecDepth 100000 in
theorem len_3 (y : Int) (w : World) (h1 : 1 ≤ y) (h2 : y ≤ 9999) : Calls Tryd.prog 74 #[.int .i64 y, .int .i64 3] w fun e w' => e = .returned (.int .i64 (lenI y 3)) ∧ w = w' := by
  have HL := Lib.hid (lenI_in h1 h2 (by omega) (by omega : (3 : Int) ≤ 12))
  have i0 := idx 2 (.int .i64 31) w (by kernel_rfl)
  go_enter Tryd.func74, Tryd.ntmps74
  go_wp2_with fail
  go_ret
  exact ⟨by rw [HL.out]; rfl, rfl⟩

set_option maxRecDepth 100000 in
theorem len_4 (y : Int) (w : World) (h1 : 1 ≤ y) (h2 : y ≤ 9999) : Calls Tryd.prog 74 #[.int .i64 y, .int .i64 4] w fun e w' => e = .returned (.int .i64 (lenI y 4)) ∧ w = w' := by
  have HL := Lib.hid (lenI_in h1 h2 (by omega) (by omega : (4 : Int) ≤ 12))
  have i0 := idx 3 (.int .i64 30) w (by kernel_rfl)
  go_enter Tryd.func74, Tryd.ntmps74
  go_wp2_with fail
  go_ret
  exact ⟨by rw [HL.out]; rfl, rfl⟩

set_option maxRecDepth 100000 in
theorem len_5 (y : Int) (w : World) (h1 : 1 ≤ y) (h2 : y ≤ 9999) : Calls Tryd.prog 74 #[.int .i64 y, .int .i64 5] w fun e w' => e = .returned (.int .i64 (lenI y 5)) ∧ w = w' := by
  have HL := Lib.hid (lenI_in h1 h2 (by omega) (by omega : (5 : Int) ≤ 12))
  have i0 := idx 4 (.int .i64 31) w (by kernel_rfl)
  go_enter Tryd.func74, Tryd.ntmps74
  go_wp2_with fail
  go_ret
  exact ⟨by rw [HL.out]; rfl, rfl⟩

set_option maxRecDepth 100000 in
theorem len_6 (y : Int) (w : World) (h1 : 1 ≤ y) (h2 : y ≤ 9999) : Calls Tryd.prog 74 #[.int .i64 y, .int .i64 6] w fun e w' => e = .returned (.int .i64 (lenI y 6)) ∧ w = w' := by
  have HL := Lib.hid (lenI_in h1 h2 (by omega) (by omega : (6 : Int) ≤ 12))
  have i0 := idx 5 (.int .i64 30) w (by kernel_rfl)
  go_enter Tryd.func74, Tryd.ntmps74
  go_wp2_with fail
  go_ret
  exact ⟨by rw [HL.out]; rfl, rfl⟩

set_option maxRecDepth 100000 in
theorem len_7 (y : Int) (w : World) (h1 : 1 ≤ y) (h2 : y ≤ 9999) : Calls Tryd.prog 74 #[.int .i64 y, .int .i64 7] w fun e w' => e = .returned (.int .i64 (lenI y 7)) ∧ w = w' := by
  have HL := Lib.hid (lenI_in h1 h2 (by omega) (by omega : (7 : Int) ≤ 12))
  have i0 := idx 6 (.int .i64 31) w (by kernel_rfl)
  go_enter Tryd.func74, Tryd.ntmps74
  go_wp2_with fail
  go_ret
  exact ⟨by rw [HL.out]; rfl, rfl⟩

set_option maxRecDepth 100000 in
theorem len_8 (y : Int) (w : World) (h1 : 1 ≤ y) (h2 : y ≤ 9999) : Calls Tryd.prog 74 #[.int .i64 y, .int .i64 8] w fun e w' => e = .returned (.int .i64 (lenI y 8)) ∧ w = w' := by
  have HL := Lib.hid (lenI_in h1 h2 (by omega) (by omega : (8 : Int) ≤ 12))
  have i0 := idx 7 (.int .i64 31) w (by kernel_rfl)
  go_enter Tryd.func74, Tryd.ntmps74
  go_wp2_with fail
  go_ret
  exact ⟨by rw [HL.out]; rfl, rfl⟩

set_option maxRecDepth 100000 in
theorem len_9 (y : Int) (w : World) (h1 : 1 ≤ y) (h2 : y ≤ 9999) : Calls Tryd.prog 74 #[.int .i64 y, .int .i64 9] w fun e w' => e = .returned (.int .i64 (lenI y 9)) ∧ w = w' := by
  have HL := Lib.hid (lenI_in h1 h2 (by omega) (by omega : (9 : Int) ≤ 12))
  have i0 := idx 8 (.int .i64 30) w (by kernel_rfl)
  go_enter Tryd.func74, Tryd.ntmps74
  go_wp2_with fail
  go_ret
  exact ⟨by rw [HL.out]; rfl, rfl⟩

set_option maxRecDepth 100000 in
theorem len_10 (y : Int) (w : World) (h1 : 1 ≤ y) (h2 : y ≤ 9999) : Calls Tryd.prog 74 #[.int .i64 y, .int .i64 10] w fun e w' => e = .returned (.int .i64 (lenI y 10)) ∧ w = w' := by
  have HL := Lib.hid (lenI_in h1 h2 (by omega) (by omega : (10 : Int) ≤ 12))
  have i0 := idx 9 (.int .i64 31) w (by kernel_rfl)
  go_enter Tryd.func74, Tryd.ntmps74
  go_wp2_with fail
  go_ret
  exact ⟨by rw [HL.out]; rfl, rfl⟩

set_option maxRecDepth 100000 in
theorem len_11 (y : Int) (w : World) (h1 : 1 ≤ y) (h2 : y ≤ 9999) : Calls Tryd.prog 74 #[.int .i64 y, .int .i64 11] w fun e w' => e = .returned (.int .i64 (lenI y 11)) ∧ w = w' := by
  have HL := Lib.hid (lenI_in h1 h2 (by omega) (by omega : (11 : Int) ≤ 12))
  have i0 := idx 10 (.int .i64 30) w (by kernel_rfl)
  go_enter Tryd.func74, Tryd.ntmps74
  go_wp2_with fail
  go_ret
  exact ⟨by rw [HL.out]; rfl, rfl⟩

set_option maxRecDepth 100000 in
theorem len_12 (y : Int) (w : World) (h1 : 1 ≤ y) (h2 : y ≤ 9999) : Calls Tryd.prog 74 #[.int .i64 y, .int .i64 12] w fun e w' => e = .returned (.int .i64 (lenI y 12)) ∧ w = w' := by
  have HL := Lib.hid (lenI_in h1 h2 (by omega) (by omega : (12 : Int) ≤ 12))
  have i0 := idx 11 (.int .i64 31) w (by kernel_rfl)
  go_enter Tryd.func74, Tryd.ntmps74
  go_wp2_with fail
  go_ret
  exact ⟨by rw [HL.out]; rfl, rfl⟩

theorem len_any (y m : Int) (w : World) : Calls Tryd.prog 74 #[.int .i64 y, .int .i64 m] w fun e w' => e = .returned (.int .i64 (lenI y m)) ∧ w = w' := by
  by_cases h : 1 ≤ y ∧ y ≤ 9999 ∧ 1 ≤ m ∧ m ≤ 12
  · obtain ⟨h1, h2, h3, h4⟩ := h
    have h5 : m = 1 ∨ m = 2 ∨ m = 3 ∨ m = 4 ∨ m = 5 ∨ m = 6 ∨ m = 7 ∨ m = 8 ∨ m = 9 ∨ m = 10 ∨ m = 11 ∨ m = 12 := by omega
    rcases h5 with rfl | rfl | rfl | rfl | rfl | rfl | rfl | rfl | rfl | rfl | rfl | rfl
    · exact len_1 y w h1 h2
    · exact len_2 y w h1 h2
    · exact len_3 y w h1 h2
    · exact len_4 y w h1 h2
    · exact len_5 y w h1 h2
    · exact len_6 y w h1 h2
    · exact len_7 y w h1 h2
    · exact len_8 y w h1 h2
    · exact len_9 y w h1 h2
    · exact len_10 y w h1 h2
    · exact len_11 y w h1 h2
    · exact len_12 y w h1 h2
  · exact len_out y m w h
end Go.Proofs.YtngamlikhgilhaaDoor
