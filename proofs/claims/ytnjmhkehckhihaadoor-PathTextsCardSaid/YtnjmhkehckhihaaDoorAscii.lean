/- Contracts of package ascii and of its reference: the classes of bytes. -/
import Derived.Test.YtnjmhkehckhihaaDoorProg
import Derived.Test.YtnjmhkehckhihaaDoorBytes
import Derived.WalkKit
import Derived.Below
import Derived.Lib.Hide
import Derived.LoopTactic
import Derived.WalkSpells
import Derived.Outline
import Derived.KernelRfl
import Derived.Deep.QuietTactic
import Derived.BigQuiet
namespace Go.Proofs.YtnjmhkehckhihaaDoor
open Go.RowKit

theorem ret_bool {a b : Bool} (h : a = b) : Ending.returned (.bool a) = .returned (.bool b) := by rw [h]
/-- From one byte to another one. -/
def wi (c a b : Int) : Bool := decide (a ≤ c) && decide (c ≤ b)
theorem wi_iff {c a b : Int} : wi c a b = true ↔ a ≤ c ∧ c ≤ b := by simp [wi]
theorem within_any (c a b : Int) (w : World) : Calls Tryd.prog 35 #[.int .u8 c, .int .u8 a, .int .u8 b] w fun e w' => e = .returned (.bool (wi c a b)) ∧ w = w' := by
  by_cases h : a ≤ c
  · have hw : wi c a b = decide (c ≤ b) := by simp [wi, h]
    have HW := Lib.hid hw
    clear hw
    go_enter Tryd.func35, Tryd.ntmps35
    go_wp2
    go_ret
    exact ⟨ret_bool HW.out.symm, rfl⟩
  · have hw : wi c a b = false := by simp only [wi, h]; simp
    have HW := Lib.hid hw
    clear hw
    go_enter Tryd.func35, Tryd.ntmps35
    go_wp2
    go_ret
    exact ⟨ret_bool HW.out.symm, rfl⟩

/-- The bytes of a name. -/
def nameB (c : Int) : Bool := wi c 97 122 || wi c 65 90 || wi c 48 57 || c == 33 || wi c 35 39 || c == 42 || c == 43 || c == 45 || c == 46 || wi c 94 96 || c == 124 || c == 126
/-- The bytes of a value. -/
def octB (c : Int) : Bool := wi c 33 126 && !(c == 34) && !(c == 44) && !(c == 59) && !(c == 92)
/-- The bytes of a path. -/
def plainB (c : Int) : Bool := wi c 33 126 && !(c == 59)
set_option maxRecDepth 100000 in
theorem plain1_any (c : Int) (w : World) : Calls Tryd.prog 34 #[.int .u8 c] w fun e w' => e = .returned (.bool (plainB c)) ∧ w = w' := by
  cases e0 : (wi c 33 126)
  case false =>
    go_enter Tryd.func34, Tryd.ntmps34
    go_wp2_with (go_at_call 35; refine (within_any _ _ _ _).mono ?_; rintro e w' ⟨rfl, rfl⟩)
    go_ret
    exact ⟨ret_bool (by simp [plainB, e0]), rfl⟩
  case true =>
    cases e1 : (c == 59)
    case false =>
      have n1 : (c != 59) = true := by rw [bne, e1]; rfl
      go_enter Tryd.func34, Tryd.ntmps34
      go_wp2_with (go_at_call 35; refine (within_any _ _ _ _).mono ?_; rintro e w' ⟨rfl, rfl⟩)
      go_ret
      exact ⟨ret_bool (by simp [plainB, e0, e1]), rfl⟩
    case true =>
      have n1 : (c != 59) = false := by rw [bne, e1]; rfl
      go_enter Tryd.func34, Tryd.ntmps34
      go_wp2_with (go_at_call 35; refine (within_any _ _ _ _).mono ?_; rintro e w' ⟨rfl, rfl⟩)
      go_ret
      exact ⟨ret_bool (by simp [plainB, e0, e1]), rfl⟩
end Go.Proofs.YtnjmhkehckhihaaDoor
