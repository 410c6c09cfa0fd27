/- Contracts of package ascii and of its reference: the classes of bytes. -/
import Derived.Test.YtfbildneagjccaaProg
import Derived.Test.YtfbildneagjccaaBytes
import Derived.WalkKit
import Derived.Below
import Derived.Lib.Hide
import Derived.LoopTactic
import Derived.WalkSpells
import Derived.Outline
import Derived.KernelRfl
import Derived.Deep.QuietTactic
import Derived.BigQuiet
namespace Go.Proofs.Ytfbildneagjccaa
open Go.RowKit

theorem ret_bool {a b : Bool} (h : a = b) : Ending.returned (.bool a) = .returned (.bool b) := by rw [h]
/-- From one byte to another one. -/
def wi (c a b : Int) : Bool := decide (a ≤ c) && decide (c ≤ b)
theorem wi_iff {c a b : Int} : wi c a b = true ↔ a ≤ c ∧ c ≤ b := by simp [wi]
theorem within_any (c a b : Int) (w : World) : Calls Try.prog 60 #[.int .u8 c, .int .u8 a, .int .u8 b] w fun e w' => e = .returned (.bool (wi c a b)) ∧ w = w' := by
  by_cases h : a ≤ c
  · have hw : wi c a b = decide (c ≤ b) := by simp [wi, h]
    have HW := Lib.hid hw
    clear hw
    go_enter Try.func60, Try.ntmps60
    go_wp2
    go_ret
    exact ⟨ret_bool HW.out.symm, rfl⟩
  · have hw : wi c a b = false := by simp only [wi, h]; simp
    have HW := Lib.hid hw
    clear hw
    go_enter Try.func60, Try.ntmps60
    go_wp2
    go_ret
    exact ⟨ret_bool HW.out.symm, rfl⟩

/-- The bytes of a name. -/
def nameB (c : Int) : Bool := wi c 97 122 || wi c 65 90 || wi c 48 57 || c == 33 || wi c 35 39 || c == 42 || c == 43 || c == 45 || c == 46 || wi c 94 96 || c == 124 || c == 126
/-- The bytes of a value. -/
def octB (c : Int) : Bool := wi c 33 126 && !(c == 34) && !(c == 44) && !(c == 59) && !(c == 92)
/-- The bytes of a path. -/
def plainB (c : Int) : Bool := wi c 33 126 && !(c == 59)
end Go.Proofs.Ytfbildneagjccaa
