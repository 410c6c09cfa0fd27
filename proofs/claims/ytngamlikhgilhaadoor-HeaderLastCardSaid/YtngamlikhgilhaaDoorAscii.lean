/- Contracts of package ascii and of its reference: the classes of bytes. -/
import Derived.Test.YtngamlikhgilhaaDoorProg
import Derived.Test.YtngamlikhgilhaaDoorBytes
import Derived.WalkKit
import Derived.Below
import Derived.Lib.Hide
import Derived.LoopTactic
import Derived.WalkSpells
import Derived.Outline
import Derived.KernelRfl
import Derived.Deep.QuietTactic
import Derived.BigQuiet
namespace Go.Proofs.YtngamlikhgilhaaDoor
open Go.RowKit

theorem ret_bool {a b : Bool} (h : a = b) : Ending.returned (.bool a) = .returned (.bool b) := by rw [h]
/-- From one byte to another one. -/
def wi (c a b : Int) : Bool := decide (a ≤ c) && decide (c ≤ b)
theorem wi_iff {c a b : Int} : wi c a b = true ↔ a ≤ c ∧ c ≤ b := by simp [wi]
theorem within_any (c a b : Int) (w : World) : Calls Tryd.prog 23 #[.int .u8 c, .int .u8 a, .int .u8 b] w fun e w' => e = .returned (.bool (wi c a b)) ∧ w = w' := by
  by_cases h : a ≤ c
  · have hw : wi c a b = decide (c ≤ b) := by simp [wi, h]
    have HW := Lib.hid hw
    clear hw
    go_enter Tryd.func23, Tryd.ntmps23
    go_wp2
    go_ret
    exact ⟨ret_bool HW.out.symm, rfl⟩
  · have hw : wi c a b = false := by simp only [wi, h]; simp
    have HW := Lib.hid hw
    clear hw
    go_enter Tryd.func23, Tryd.ntmps23
    go_wp2
    go_ret
    exact ⟨ret_bool HW.out.symm, rfl⟩

/-- The bytes of a name. -/
def nameB (c : Int) : Bool := wi c 97 122 || wi c 65 90 || wi c 48 57 || c == 33 || wi c 35 39 || c == 42 || c == 43 || c == 45 || c == 46 || wi c 94 96 || c == 124 || c == 126
set_option maxRecDepth 100000 in
theorem tok1_any (c : Int) (w : World) : Calls Tryd.prog 71 #[.int .u8 c] w fun e w' => e = .returned (.bool (nameB c)) ∧ w = w' := by
  cases e0 : (wi c 97 122)
  case false =>
    cases e1 : (wi c 65 90)
    case false =>
      cases e2 : (wi c 48 57)
      case false =>
        cases e3 : (c == 33)
        case false =>
          cases e4 : (wi c 35 39)
          case false =>
            cases e5 : (c == 42)
            case false =>
              cases e6 : (c == 43)
              case false =>
                cases e7 : (c == 45)
                case false =>
                  cases e8 : (c == 46)
                  case false =>
                    cases e9 : (wi c 94 96)
                    case false =>
                      cases e10 : (c == 124)
                      case false =>
                        cases e11 : (c == 126)
                        case false =>
                          go_enter Tryd.func71, Tryd.ntmps71
                          go_wp2_with (go_at_call 23; refine (within_any _ _ _ _).mono ?_; rintro e w' ⟨rfl, rfl⟩)
                          go_ret
                          exact ⟨ret_bool (by simp [nameB, e0, e1, e2, e3, e4, e5, e6, e7, e8, e9, e10, e11]), rfl⟩
                        case true =>
                          go_enter Tryd.func71, Tryd.ntmps71
                          go_wp2_with (go_at_call 23; refine (within_any _ _ _ _).mono ?_; rintro e w' ⟨rfl, rfl⟩)
                          go_ret
                          exact ⟨ret_bool (by simp [nameB, e0, e1, e2, e3, e4, e5, e6, e7, e8, e9, e10, e11]), rfl⟩
                      case true =>
                        go_enter Tryd.func71, Tryd.ntmps71
                        go_wp2_with (go_at_call 23; refine (within_any _ _ _ _).mono ?_; rintro e w' ⟨rfl, rfl⟩)
                        go_ret
                        exact ⟨ret_bool (by simp [nameB, e0, e1, e2, e3, e4, e5, e6, e7, e8, e9, e10]), rfl⟩
                    case true =>
                      go_enter Tryd.func71, Tryd.ntmps71
                      go_wp2_with (go_at_call 23; refine (within_any _ _ _ _).mono ?_; rintro e w' ⟨rfl, rfl⟩)
                      go_ret
                      exact ⟨ret_bool (by simp [nameB, e0, e1, e2, e3, e4, e5, e6, e7, e8, e9]), rfl⟩
                  case true =>
                    go_enter Tryd.func71, Tryd.ntmps71
                    go_wp2_with (go_at_call 23; refine (within_any _ _ _ _).mono ?_; rintro e w' ⟨rfl, rfl⟩)
                    go_ret
                    exact ⟨ret_bool (by simp [nameB, e0, e1, e2, e3, e4, e5, e6, e7, e8]), rfl⟩
                case true =>
                  go_enter Tryd.func71, Tryd.ntmps71
                  go_wp2_with (go_at_call 23; refine (within_any _ _ _ _).mono ?_; rintro e w' ⟨rfl, rfl⟩)
                  go_ret
                  exact ⟨ret_bool (by simp [nameB, e0, e1, e2, e3, e4, e5, e6, e7]), rfl⟩
              case true =>
                go_enter Tryd.func71, Tryd.ntmps71
                go_wp2_with (go_at_call 23; refine (within_any _ _ _ _).mono ?_; rintro e w' ⟨rfl, rfl⟩)
                go_ret
                exact ⟨ret_bool (by simp [nameB, e0, e1, e2, e3, e4, e5, e6]), rfl⟩
            case true =>
              go_enter Tryd.func71, Tryd.ntmps71
              go_wp2_with (go_at_call 23; refine (within_any _ _ _ _).mono ?_; rintro e w' ⟨rfl, rfl⟩)
              go_ret
              exact ⟨ret_bool (by simp [nameB, e0, e1, e2, e3, e4, e5]), rfl⟩
          case true =>
            go_enter Tryd.func71, Tryd.ntmps71
            go_wp2_with (go_at_call 23; refine (within_any _ _ _ _).mono ?_; rintro e w' ⟨rfl, rfl⟩)
            go_ret
            exact ⟨ret_bool (by simp [nameB, e0, e1, e2, e3, e4]), rfl⟩
        case true =>
          go_enter Tryd.func71, Tryd.ntmps71
          go_wp2_with (go_at_call 23; refine (within_any _ _ _ _).mono ?_; rintro e w' ⟨rfl, rfl⟩)
          go_ret
          exact ⟨ret_bool (by simp [nameB, e0, e1, e2, e3]), rfl⟩
      case true =>
        go_enter Tryd.func71, Tryd.ntmps71
        go_wp2_with (go_at_call 23; refine (within_any _ _ _ _).mono ?_; rintro e w' ⟨rfl, rfl⟩)
        go_ret
        exact ⟨ret_bool (by simp [nameB, e0, e1, e2]), rfl⟩
    case true =>
      go_enter Tryd.func71, Tryd.ntmps71
      go_wp2_with (go_at_call 23; refine (within_any _ _ _ _).mono ?_; rintro e w' ⟨rfl, rfl⟩)
      go_ret
      exact ⟨ret_bool (by simp [nameB, e0, e1]), rfl⟩
  case true =>
    go_enter Tryd.func71, Tryd.ntmps71
    go_wp2_with (go_at_call 23; refine (within_any _ _ _ _).mono ?_; rintro e w' ⟨rfl, rfl⟩)
    go_ret
    exact ⟨ret_bool (by simp [nameB, e0]), rfl⟩
/-- The bytes of a value. -/
def octB (c : Int) : Bool := wi c 33 126 && !(c == 34) && !(c == 44) && !(c == 59) && !(c == 92)
set_option maxRecDepth 100000 in
theorem oct1_any (c : Int) (w : World) : Calls Tryd.prog 72 #[.int .u8 c] w fun e w' => e = .returned (.bool (octB c)) ∧ w = w' := by
  cases e0 : (wi c 33 126)
  case false =>
    go_enter Tryd.func72, Tryd.ntmps72
    go_wp2_with (go_at_call 23; refine (within_any _ _ _ _).mono ?_; rintro e w' ⟨rfl, rfl⟩)
    go_ret
    exact ⟨ret_bool (by simp [octB, e0]), rfl⟩
  case true =>
    cases e1 : (c == 34)
    case false =>
      cases e2 : (c == 44)
      case false =>
        cases e3 : (c == 59)
        case false =>
          cases e4 : (c == 92)
          case false =>
            have n1 : (c != 34) = true := by rw [bne, e1]; rfl
            have n2 : (c != 44) = true := by rw [bne, e2]; rfl
            have n3 : (c != 59) = true := by rw [bne, e3]; rfl
            have n4 : (c != 92) = true := by rw [bne, e4]; rfl
            go_enter Tryd.func72, Tryd.ntmps72
            go_wp2_with (go_at_call 23; refine (within_any _ _ _ _).mono ?_; rintro e w' ⟨rfl, rfl⟩)
            go_ret
            exact ⟨ret_bool (by simp [octB, e0, e1, e2, e3, e4]), rfl⟩
          case true =>
            have n1 : (c != 34) = true := by rw [bne, e1]; rfl
            have n2 : (c != 44) = true := by rw [bne, e2]; rfl
            have n3 : (c != 59) = true := by rw [bne, e3]; rfl
            have n4 : (c != 92) = false := by rw [bne, e4]; rfl
            go_enter Tryd.func72, Tryd.ntmps72
            go_wp2_with (go_at_call 23; refine (within_any _ _ _ _).mono ?_; rintro e w' ⟨rfl, rfl⟩)
            go_ret
            exact ⟨ret_bool (by simp [octB, e0, e1, e2, e3, e4]), rfl⟩
        case true =>
          have n1 : (c != 34) = true := by rw [bne, e1]; rfl
          have n2 : (c != 44) = true := by rw [bne, e2]; rfl
          have n3 : (c != 59) = false := by rw [bne, e3]; rfl
          go_enter Tryd.func72, Tryd.ntmps72
          go_wp2_with (go_at_call 23; refine (within_any _ _ _ _).mono ?_; rintro e w' ⟨rfl, rfl⟩)
          go_ret
          exact ⟨ret_bool (by simp [octB, e0, e1, e2, e3]), rfl⟩
      case true =>
        have n1 : (c != 34) = true := by rw [bne, e1]; rfl
        have n2 : (c != 44) = false := by rw [bne, e2]; rfl
        go_enter Tryd.func72, Tryd.ntmps72
        go_wp2_with (go_at_call 23; refine (within_any _ _ _ _).mono ?_; rintro e w' ⟨rfl, rfl⟩)
        go_ret
        exact ⟨ret_bool (by simp [octB, e0, e1, e2]), rfl⟩
    case true =>
      have n1 : (c != 34) = false := by rw [bne, e1]; rfl
      go_enter Tryd.func72, Tryd.ntmps72
      go_wp2_with (go_at_call 23; refine (within_any _ _ _ _).mono ?_; rintro e w' ⟨rfl, rfl⟩)
      go_ret
      exact ⟨ret_bool (by simp [octB, e0, e1]), rfl⟩
/-- The bytes of a path. -/
def plainB (c : Int) : Bool := wi c 33 126 && !(c == 59)
set_option maxRecDepth 100000 in
theorem plain1_any (c : Int) (w : World) : Calls Tryd.prog 85 #[.int .u8 c] w fun e w' => e = .returned (.bool (plainB c)) ∧ w = w' := by
  cases e0 : (wi c 33 126)
  case false =>
    go_enter Tryd.func85, Tryd.ntmps85
    go_wp2_with (go_at_call 23; refine (within_any _ _ _ _).mono ?_; rintro e w' ⟨rfl, rfl⟩)
    go_ret
    exact ⟨ret_bool (by simp [plainB, e0]), rfl⟩
  case true =>
    cases e1 : (c == 59)
    case false =>
      have n1 : (c != 59) = true := by rw [bne, e1]; rfl
      go_enter Tryd.func85, Tryd.ntmps85
      go_wp2_with (go_at_call 23; refine (within_any _ _ _ _).mono ?_; rintro e w' ⟨rfl, rfl⟩)
      go_ret
      exact ⟨ret_bool (by simp [plainB, e0, e1]), rfl⟩
    case true =>
      have n1 : (c != 59) = false := by rw [bne, e1]; rfl
      go_enter Tryd.func85, Tryd.ntmps85
      go_wp2_with (go_at_call 23; refine (within_any _ _ _ _).mono ?_; rintro e w' ⟨rfl, rfl⟩)
      go_ret
      exact ⟨ret_bool (by simp [plainB, e0, e1]), rfl⟩
end Go.Proofs.YtngamlikhgilhaaDoor
