/- The parts of a host: contracts of package host and of its reference. -/
import Derived.Test.YtngamlikhgilhaaDoorAsciiC
import Derived.Test.YtngamlikhgilhaaDoorLower
namespace Go.Proofs.YtngamlikhgilhaaDoor
open Go.RowKit

/-- May a byte stand in a part of a host, at an end of it or within? -/
def mayB (c : Int) (e : Bool) : Bool := wi c 97 122 || wi c 48 57 || (c == 45 && !e)
set_option maxRecDepth 100000 in
theorem may_any (c : Int) (e : Bool) (w : World) : Calls Tryd.prog 83 #[.int .u8 c, .bool e] w fun x w' => x = .returned (.bool (mayB c e)) ∧ w = w' := by
  have hp : (c ≤ 122 ∧ 97 ≤ c) ∨ (122 < c ∧ 97 ≤ c ∧ 48 ≤ c ∧ 57 < c) ∨ (c < 97 ∧ 48 ≤ c ∧ c ≤ 57) ∨ (c < 97 ∧ 48 ≤ c ∧ 57 < c) ∨ (c < 97 ∧ c < 48 ∧ c = 45) ∨ (c < 97 ∧ c < 48 ∧ c ≠ 45) := by omega
  rcases hp with ⟨h1, h2⟩ | ⟨h1, h2, h3, h4⟩ | ⟨h1, h2, h3⟩ | ⟨h1, h2, h3⟩ | ⟨h1, h2, rfl⟩ | ⟨h1, h2, h3⟩
  · have HV := Lib.hid (show mayB c e = true by unfold mayB wi; simp; omega)
    go_enter Tryd.func83, Tryd.ntmps83
    go_wp2_with fail
    go_ret
    exact ⟨ret_bool HV.out.symm, rfl⟩
  · have HV := Lib.hid (show mayB c e = false by unfold mayB wi; simp; omega)
    have h5 : (c == 45) = false := beq_eq_false_iff_ne.2 (by omega)
    go_enter Tryd.func83, Tryd.ntmps83
    go_wp2_with fail
    go_ret
    exact ⟨ret_bool (by rw [HV.out]; simp; omega), rfl⟩
  · have HV := Lib.hid (show mayB c e = true by unfold mayB wi; simp; omega)
    go_enter Tryd.func83, Tryd.ntmps83
    go_wp2_with fail
    go_ret
    exact ⟨ret_bool HV.out.symm, rfl⟩
  · have HV := Lib.hid (show mayB c e = false by unfold mayB wi; simp; omega)
    have h5 : (c == 45) = false := beq_eq_false_iff_ne.2 (by omega)
    go_enter Tryd.func83, Tryd.ntmps83
    go_wp2_with fail
    go_ret
    exact ⟨ret_bool (by rw [HV.out]; simp; omega), rfl⟩
  · have HV := Lib.hid (show mayB 45 e = !e by cases e <;> rfl)
    go_enter Tryd.func83, Tryd.ntmps83
    go_wp2_with fail
    go_ret
    exact ⟨ret_bool HV.out.symm, rfl⟩
  · have HV := Lib.hid (show mayB c e = false by unfold mayB wi; simp; omega)
    have h5 : (c == 45) = false := beq_eq_false_iff_ne.2 h3
    clear h3
    go_enter Tryd.func83, Tryd.ntmps83
    go_wp2_with fail
    go_ret
    exact ⟨ret_bool HV.out.symm, rfl⟩

/-- May a text stand between a host's dots? -/
def partB (s : ByteArray) : Bool := decide (1 ≤ s.size) && decide (s.size ≤ 63) && (List.range s.size).all fun k => mayB (at_ s k) (k == 0 || k == s.size - 1)
theorem part_small (s : ByteArray) (h : s.size < 1) : partB s = false := by unfold partB; simp; omega
theorem part_large (s : ByteArray) (h : 63 < s.size) : partB s = false := by unfold partB; simp; omega
theorem part_no (s : ByteArray) (k : Nat) (hk : k < s.size) (h : mayB (at_ s k) (k == 0 || k == s.size - 1) = false) : partB s = false := by
  unfold partB
  rw [Bool.and_eq_false_iff]
  right
  rw [List.all_eq_false]
  exact ⟨k, List.mem_range.2 hk, by simp [h]⟩
theorem part_yes (s : ByteArray) (h1 : 1 ≤ s.size) (h2 : s.size ≤ 63) (h : ∀ k, k < s.size → mayB (at_ s k) (k == 0 || k == s.size - 1) = true) : partB s = true := by
  unfold partB
  simp only [Bool.and_eq_true, decide_eq_true_eq]
  refine ⟨⟨h1, h2⟩, List.all_eq_true.2 fun k hk => h k (List.mem_range.1 hk)⟩
theorem part_iff (s : ByteArray) : partB s = true ↔ 1 ≤ s.size ∧ s.size ≤ 63 ∧ ∀ k, k < s.size → mayB (at_ s k) (k == 0 || k == s.size - 1) = true := by
  unfold partB
  simp only [Bool.and_eq_true, decide_eq_true_eq, List.all_eq_true, List.mem_range, and_assoc]

/-- Without the ends: a byte of a part. -/
def midB (c : Int) : Bool := wi c 97 122 || wi c 48 57 || c == 45
theorem mid_of_may {c : Int} {e : Bool} (h : mayB c e = true) : midB c = true := by
  unfold mayB at h
  unfold midB
  cases h1 : wi c 97 122 <;> cases h2 : wi c 48 57 <;> cases h3 : c == 45 <;> simp_all
theorem may_of_mid {c : Int} {e : Bool} (h : midB c = true) (he : e = true → (c == 45) = false) : mayB c e = true := by
  unfold midB at h
  unfold mayB
  cases e
  · simpa using h
  · have := he rfl
    simp only [this, Bool.or_false, Bool.false_and] at h ⊢
    exact h
theorem part_ref (s : ByteArray) (h1 : 1 ≤ s.size) (h2 : s.size ≤ 63) (h3 : (at_ s 0 == 45) = false) (h4 : (at_ s (s.size - 1) == 45) = false) (h : ∀ k, k < s.size → midB (at_ s k) = true) : partB s = true :=
  part_yes s h1 h2 fun k hk => may_of_mid (h k hk) fun he => by
    rw [Bool.or_eq_true, beq_iff_eq, beq_iff_eq] at he
    rcases he with rfl | rfl
    · exact h3
    · exact h4
theorem part_first (s : ByteArray) (h1 : 1 ≤ s.size) (h : (at_ s 0 == 45) = true) : partB s = false :=
  part_no s 0 h1 (by
    rw [beq_iff_eq] at h
    rw [h]
    rfl)
theorem part_last (s : ByteArray) (h1 : 1 ≤ s.size) (h : (at_ s (s.size - 1) == 45) = true) : partB s = false :=
  part_no s (s.size - 1) (by omega) (by
    rw [beq_iff_eq] at h
    rw [h]
    simp [mayB, wi])
theorem part_mid (s : ByteArray) (k : Nat) (hk : k < s.size) (h : midB (at_ s k) = false) : partB s = false :=
  part_no s k hk (by
    cases hm : mayB (at_ s k) (k == 0 || k == s.size - 1)
    · rfl
    · rw [mid_of_may hm] at h; cases h)
end Go.Proofs.YtngamlikhgilhaaDoor
