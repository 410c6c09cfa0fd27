/- Contracts of the reference's classes of bytes (package cracknelref01). -/
import Derived.Test.YtibgppghhpilpaaDoorAsciiC
namespace Go.Proofs.YtibgppghhpilpaaDoor
open Go.RowKit

theorem rname_any_0 (c : Int) (w : World) (h1 : 0 ≤ c) (h2 : c ≤ 32) : Calls Tryd.prog 26 #[.int .u8 c] w fun e w' => e = .returned (.bool (nameB c)) ∧ w = w' := by
  have hv : nameB c = false := by unfold nameB wi; simp; omega
  have HV := Lib.hid hv
  clear hv
  have e33 : (c == 33) = false := beq_eq_false_iff_ne.2 (by omega)
  have e42 : (c == 42) = false := beq_eq_false_iff_ne.2 (by omega)
  have e43 : (c == 43) = false := beq_eq_false_iff_ne.2 (by omega)
  have e45 : (c == 45) = false := beq_eq_false_iff_ne.2 (by omega)
  have e46 : (c == 46) = false := beq_eq_false_iff_ne.2 (by omega)
  have e124 : (c == 124) = false := beq_eq_false_iff_ne.2 (by omega)
  have e126 : (c == 126) = false := beq_eq_false_iff_ne.2 (by omega)
  go_enter Tryd.func26, Tryd.ntmps26
  go_wp2
  go_ret
  exact ⟨ret_bool (by first | exact HV.out.symm | (rw [HV.out]; simp; omega)), rfl⟩

theorem rname_any_33 (w : World) : Calls Tryd.prog 26 #[.int .u8 33] w fun e w' => e = .returned (.bool (nameB 33)) ∧ w = w' := by
  have hv : nameB 33 = true := by decide
  have HV := Lib.hid hv
  clear hv
  go_enter Tryd.func26, Tryd.ntmps26
  go_wp2
  go_ret
  exact ⟨ret_bool HV.out.symm, rfl⟩

theorem rname_any_34 (w : World) : Calls Tryd.prog 26 #[.int .u8 34] w fun e w' => e = .returned (.bool (nameB 34)) ∧ w = w' := by
  have hv : nameB 34 = false := by decide
  have HV := Lib.hid hv
  clear hv
  go_enter Tryd.func26, Tryd.ntmps26
  go_wp2
  go_ret
  exact ⟨ret_bool HV.out.symm, rfl⟩

theorem rname_any_35 (c : Int) (w : World) (h1 : 35 ≤ c) (h2 : c ≤ 39) : Calls Tryd.prog 26 #[.int .u8 c] w fun e w' => e = .returned (.bool (nameB c)) ∧ w = w' := by
  have hv : nameB c = true := by unfold nameB wi; simp; omega
  have HV := Lib.hid hv
  clear hv
  have e33 : (c == 33) = false := beq_eq_false_iff_ne.2 (by omega)
  have e42 : (c == 42) = false := beq_eq_false_iff_ne.2 (by omega)
  have e43 : (c == 43) = false := beq_eq_false_iff_ne.2 (by omega)
  have e45 : (c == 45) = false := beq_eq_false_iff_ne.2 (by omega)
  have e46 : (c == 46) = false := beq_eq_false_iff_ne.2 (by omega)
  have e124 : (c == 124) = false := beq_eq_false_iff_ne.2 (by omega)
  have e126 : (c == 126) = false := beq_eq_false_iff_ne.2 (by omega)
  go_enter Tryd.func26, Tryd.ntmps26
  go_wp2
  go_ret
  exact ⟨ret_bool (by first | exact HV.out.symm | (rw [HV.out]; simp; omega)), rfl⟩

theorem rname_any_40 (c : Int) (w : World) (h1 : 40 ≤ c) (h2 : c ≤ 41) : Calls Tryd.prog 26 #[.int .u8 c] w fun e w' => e = .returned (.bool (nameB c)) ∧ w = w' := by
  have hv : nameB c = false := by unfold nameB wi; simp; omega
  have HV := Lib.hid hv
  clear hv
  have e33 : (c == 33) = false := beq_eq_false_iff_ne.2 (by omega)
  have e42 : (c == 42) = false := beq_eq_false_iff_ne.2 (by omega)
  have e43 : (c == 43) = false := beq_eq_false_iff_ne.2 (by omega)
  have e45 : (c == 45) = false := beq_eq_false_iff_ne.2 (by omega)
  have e46 : (c == 46) = false := beq_eq_false_iff_ne.2 (by omega)
  have e124 : (c == 124) = false := beq_eq_false_iff_ne.2 (by omega)
  have e126 : (c == 126) = false := beq_eq_false_iff_ne.2 (by omega)
  go_enter Tryd.func26, Tryd.ntmps26
  go_wp2
  go_ret
  exact ⟨ret_bool (by first | exact HV.out.symm | (rw [HV.out]; simp; omega)), rfl⟩

theorem rname_any_42 (w : World) : Calls Tryd.prog 26 #[.int .u8 42] w fun e w' => e = .returned (.bool (nameB 42)) ∧ w = w' := by
  have hv : nameB 42 = true := by decide
  have HV := Lib.hid hv
  clear hv
  go_enter Tryd.func26, Tryd.ntmps26
  go_wp2
  go_ret
  exact ⟨ret_bool HV.out.symm, rfl⟩

theorem rname_any_43 (w : World) : Calls Tryd.prog 26 #[.int .u8 43] w fun e w' => e = .returned (.bool (nameB 43)) ∧ w = w' := by
  have hv : nameB 43 = true := by decide
  have HV := Lib.hid hv
  clear hv
  go_enter Tryd.func26, Tryd.ntmps26
  go_wp2
  go_ret
  exact ⟨ret_bool HV.out.symm, rfl⟩

theorem rname_any_44 (w : World) : Calls Tryd.prog 26 #[.int .u8 44] w fun e w' => e = .returned (.bool (nameB 44)) ∧ w = w' := by
  have hv : nameB 44 = false := by decide
  have HV := Lib.hid hv
  clear hv
  go_enter Tryd.func26, Tryd.ntmps26
  go_wp2
  go_ret
  exact ⟨ret_bool HV.out.symm, rfl⟩

theorem rname_any_45 (w : World) : Calls Tryd.prog 26 #[.int .u8 45] w fun e w' => e = .returned (.bool (nameB 45)) ∧ w = w' := by
  have hv : nameB 45 = true := by decide
  have HV := Lib.hid hv
  clear hv
  go_enter Tryd.func26, Tryd.ntmps26
  go_wp2
  go_ret
  exact ⟨ret_bool HV.out.symm, rfl⟩

theorem rname_any_46 (w : World) : Calls Tryd.prog 26 #[.int .u8 46] w fun e w' => e = .returned (.bool (nameB 46)) ∧ w = w' := by
  have hv : nameB 46 = true := by decide
  have HV := Lib.hid hv
  clear hv
  go_enter Tryd.func26, Tryd.ntmps26
  go_wp2
  go_ret
  exact ⟨ret_bool HV.out.symm, rfl⟩

theorem rname_any_47 (w : World) : Calls Tryd.prog 26 #[.int .u8 47] w fun e w' => e = .returned (.bool (nameB 47)) ∧ w = w' := by
  have hv : nameB 47 = false := by decide
  have HV := Lib.hid hv
  clear hv
  go_enter Tryd.func26, Tryd.ntmps26
  go_wp2
  go_ret
  exact ⟨ret_bool HV.out.symm, rfl⟩

theorem rname_any_48 (c : Int) (w : World) (h1 : 48 ≤ c) (h2 : c ≤ 57) : Calls Tryd.prog 26 #[.int .u8 c] w fun e w' => e = .returned (.bool (nameB c)) ∧ w = w' := by
  have hv : nameB c = true := by unfold nameB wi; simp; omega
  have HV := Lib.hid hv
  clear hv
  have e33 : (c == 33) = false := beq_eq_false_iff_ne.2 (by omega)
  have e42 : (c == 42) = false := beq_eq_false_iff_ne.2 (by omega)
  have e43 : (c == 43) = false := beq_eq_false_iff_ne.2 (by omega)
  have e45 : (c == 45) = false := beq_eq_false_iff_ne.2 (by omega)
  have e46 : (c == 46) = false := beq_eq_false_iff_ne.2 (by omega)
  have e124 : (c == 124) = false := beq_eq_false_iff_ne.2 (by omega)
  have e126 : (c == 126) = false := beq_eq_false_iff_ne.2 (by omega)
  go_enter Tryd.func26, Tryd.ntmps26
  go_wp2
  go_ret
  exact ⟨ret_bool (by first | exact HV.out.symm | (rw [HV.out]; simp; omega)), rfl⟩

theorem rname_any_58 (c : Int) (w : World) (h1 : 58 ≤ c) (h2 : c ≤ 64) : Calls Tryd.prog 26 #[.int .u8 c] w fun e w' => e = .returned (.bool (nameB c)) ∧ w = w' := by
  have hv : nameB c = false := by unfold nameB wi; simp; omega
  have HV := Lib.hid hv
  clear hv
  have e33 : (c == 33) = false := beq_eq_false_iff_ne.2 (by omega)
  have e42 : (c == 42) = false := beq_eq_false_iff_ne.2 (by omega)
  have e43 : (c == 43) = false := beq_eq_false_iff_ne.2 (by omega)
  have e45 : (c == 45) = false := beq_eq_false_iff_ne.2 (by omega)
  have e46 : (c == 46) = false := beq_eq_false_iff_ne.2 (by omega)
  have e124 : (c == 124) = false := beq_eq_false_iff_ne.2 (by omega)
  have e126 : (c == 126) = false := beq_eq_false_iff_ne.2 (by omega)
  go_enter Tryd.func26, Tryd.ntmps26
  go_wp2
  go_ret
  exact ⟨ret_bool (by first | exact HV.out.symm | (rw [HV.out]; simp; omega)), rfl⟩

theorem rname_any_65 (c : Int) (w : World) (h1 : 65 ≤ c) (h2 : c ≤ 90) : Calls Tryd.prog 26 #[.int .u8 c] w fun e w' => e = .returned (.bool (nameB c)) ∧ w = w' := by
  have hv : nameB c = true := by unfold nameB wi; simp; omega
  have HV := Lib.hid hv
  clear hv
  have e33 : (c == 33) = false := beq_eq_false_iff_ne.2 (by omega)
  have e42 : (c == 42) = false := beq_eq_false_iff_ne.2 (by omega)
  have e43 : (c == 43) = false := beq_eq_false_iff_ne.2 (by omega)
  have e45 : (c == 45) = false := beq_eq_false_iff_ne.2 (by omega)
  have e46 : (c == 46) = false := beq_eq_false_iff_ne.2 (by omega)
  have e124 : (c == 124) = false := beq_eq_false_iff_ne.2 (by omega)
  have e126 : (c == 126) = false := beq_eq_false_iff_ne.2 (by omega)
  go_enter Tryd.func26, Tryd.ntmps26
  go_wp2
  go_ret
  exact ⟨ret_bool (by first | exact HV.out.symm | (rw [HV.out]; simp; omega)), rfl⟩

theorem rname_any_91 (c : Int) (w : World) (h1 : 91 ≤ c) (h2 : c ≤ 93) : Calls Tryd.prog 26 #[.int .u8 c] w fun e w' => e = .returned (.bool (nameB c)) ∧ w = w' := by
  have hv : nameB c = false := by unfold nameB wi; simp; omega
  have HV := Lib.hid hv
  clear hv
  have e33 : (c == 33) = false := beq_eq_false_iff_ne.2 (by omega)
  have e42 : (c == 42) = false := beq_eq_false_iff_ne.2 (by omega)
  have e43 : (c == 43) = false := beq_eq_false_iff_ne.2 (by omega)
  have e45 : (c == 45) = false := beq_eq_false_iff_ne.2 (by omega)
  have e46 : (c == 46) = false := beq_eq_false_iff_ne.2 (by omega)
  have e124 : (c == 124) = false := beq_eq_false_iff_ne.2 (by omega)
  have e126 : (c == 126) = false := beq_eq_false_iff_ne.2 (by omega)
  go_enter Tryd.func26, Tryd.ntmps26
  go_wp2
  go_ret
  exact ⟨ret_bool (by first | exact HV.out.symm | (rw [HV.out]; simp; omega)), rfl⟩

theorem rname_any_94 (c : Int) (w : World) (h1 : 94 ≤ c) (h2 : c ≤ 96) : Calls Tryd.prog 26 #[.int .u8 c] w fun e w' => e = .returned (.bool (nameB c)) ∧ w = w' := by
  have hv : nameB c = true := by unfold nameB wi; simp; omega
  have HV := Lib.hid hv
  clear hv
  have e33 : (c == 33) = false := beq_eq_false_iff_ne.2 (by omega)
  have e42 : (c == 42) = false := beq_eq_false_iff_ne.2 (by omega)
  have e43 : (c == 43) = false := beq_eq_false_iff_ne.2 (by omega)
  have e45 : (c == 45) = false := beq_eq_false_iff_ne.2 (by omega)
  have e46 : (c == 46) = false := beq_eq_false_iff_ne.2 (by omega)
  have e124 : (c == 124) = false := beq_eq_false_iff_ne.2 (by omega)
  have e126 : (c == 126) = false := beq_eq_false_iff_ne.2 (by omega)
  go_enter Tryd.func26, Tryd.ntmps26
  go_wp2
  go_ret
  exact ⟨ret_bool (by first | exact HV.out.symm | (rw [HV.out]; simp; omega)), rfl⟩

theorem rname_any_97 (c : Int) (w : World) (h1 : 97 ≤ c) (h2 : c ≤ 122) : Calls Tryd.prog 26 #[.int .u8 c] w fun e w' => e = .returned (.bool (nameB c)) ∧ w = w' := by
  have hv : nameB c = true := by unfold nameB wi; simp; omega
  have HV := Lib.hid hv
  clear hv
  have e33 : (c == 33) = false := beq_eq_false_iff_ne.2 (by omega)
  have e42 : (c == 42) = false := beq_eq_false_iff_ne.2 (by omega)
  have e43 : (c == 43) = false := beq_eq_false_iff_ne.2 (by omega)
  have e45 : (c == 45) = false := beq_eq_false_iff_ne.2 (by omega)
  have e46 : (c == 46) = false := beq_eq_false_iff_ne.2 (by omega)
  have e124 : (c == 124) = false := beq_eq_false_iff_ne.2 (by omega)
  have e126 : (c == 126) = false := beq_eq_false_iff_ne.2 (by omega)
  go_enter Tryd.func26, Tryd.ntmps26
  go_wp2
  go_ret
  exact ⟨ret_bool (by first | exact HV.out.symm | (rw [HV.out]; simp; omega)), rfl⟩

theorem rname_any_123 (w : World) : Calls Tryd.prog 26 #[.int .u8 123] w fun e w' => e = .returned (.bool (nameB 123)) ∧ w = w' := by
  have hv : nameB 123 = false := by decide
  have HV := Lib.hid hv
  clear hv
  go_enter Tryd.func26, Tryd.ntmps26
  go_wp2
  go_ret
  exact ⟨ret_bool HV.out.symm, rfl⟩

theorem rname_any_124 (w : World) : Calls Tryd.prog 26 #[.int .u8 124] w fun e w' => e = .returned (.bool (nameB 124)) ∧ w = w' := by
  have hv : nameB 124 = true := by decide
  have HV := Lib.hid hv
  clear hv
  go_enter Tryd.func26, Tryd.ntmps26
  go_wp2
  go_ret
  exact ⟨ret_bool HV.out.symm, rfl⟩

theorem rname_any_125 (w : World) : Calls Tryd.prog 26 #[.int .u8 125] w fun e w' => e = .returned (.bool (nameB 125)) ∧ w = w' := by
  have hv : nameB 125 = false := by decide
  have HV := Lib.hid hv
  clear hv
  go_enter Tryd.func26, Tryd.ntmps26
  go_wp2
  go_ret
  exact ⟨ret_bool HV.out.symm, rfl⟩

theorem rname_any_126 (w : World) : Calls Tryd.prog 26 #[.int .u8 126] w fun e w' => e = .returned (.bool (nameB 126)) ∧ w = w' := by
  have hv : nameB 126 = true := by decide
  have HV := Lib.hid hv
  clear hv
  go_enter Tryd.func26, Tryd.ntmps26
  go_wp2
  go_ret
  exact ⟨ret_bool HV.out.symm, rfl⟩

theorem rname_any_127 (c : Int) (w : World) (h1 : 127 ≤ c) (h2 : c ≤ 255) : Calls Tryd.prog 26 #[.int .u8 c] w fun e w' => e = .returned (.bool (nameB c)) ∧ w = w' := by
  have hv : nameB c = false := by unfold nameB wi; simp; omega
  have HV := Lib.hid hv
  clear hv
  have e33 : (c == 33) = false := beq_eq_false_iff_ne.2 (by omega)
  have e42 : (c == 42) = false := beq_eq_false_iff_ne.2 (by omega)
  have e43 : (c == 43) = false := beq_eq_false_iff_ne.2 (by omega)
  have e45 : (c == 45) = false := beq_eq_false_iff_ne.2 (by omega)
  have e46 : (c == 46) = false := beq_eq_false_iff_ne.2 (by omega)
  have e124 : (c == 124) = false := beq_eq_false_iff_ne.2 (by omega)
  have e126 : (c == 126) = false := beq_eq_false_iff_ne.2 (by omega)
  go_enter Tryd.func26, Tryd.ntmps26
  go_wp2
  go_ret
  exact ⟨ret_bool (by first | exact HV.out.symm | (rw [HV.out]; simp; omega)), rfl⟩

theorem rname_any (c : Int) (w : World) (h0 : 0 ≤ c) (h1 : c < 256) : Calls Tryd.prog 26 #[.int .u8 c] w fun e w' => e = .returned (.bool (nameB c)) ∧ w = w' := by
  by_cases k0 : c ≤ 32
  · exact rname_any_0 c w (by omega) (by omega)
  by_cases k1 : c = 33
  · subst k1; exact rname_any_33 w
  by_cases k2 : c = 34
  · subst k2; exact rname_any_34 w
  by_cases k3 : c ≤ 39
  · exact rname_any_35 c w (by omega) (by omega)
  by_cases k4 : c ≤ 41
  · exact rname_any_40 c w (by omega) (by omega)
  by_cases k5 : c = 42
  · subst k5; exact rname_any_42 w
  by_cases k6 : c = 43
  · subst k6; exact rname_any_43 w
  by_cases k7 : c = 44
  · subst k7; exact rname_any_44 w
  by_cases k8 : c = 45
  · subst k8; exact rname_any_45 w
  by_cases k9 : c = 46
  · subst k9; exact rname_any_46 w
  by_cases k10 : c = 47
  · subst k10; exact rname_any_47 w
  by_cases k11 : c ≤ 57
  · exact rname_any_48 c w (by omega) (by omega)
  by_cases k12 : c ≤ 64
  · exact rname_any_58 c w (by omega) (by omega)
  by_cases k13 : c ≤ 90
  · exact rname_any_65 c w (by omega) (by omega)
  by_cases k14 : c ≤ 93
  · exact rname_any_91 c w (by omega) (by omega)
  by_cases k15 : c ≤ 96
  · exact rname_any_94 c w (by omega) (by omega)
  by_cases k16 : c ≤ 122
  · exact rname_any_97 c w (by omega) (by omega)
  by_cases k17 : c = 123
  · subst k17; exact rname_any_123 w
  by_cases k18 : c = 124
  · subst k18; exact rname_any_124 w
  by_cases k19 : c = 125
  · subst k19; exact rname_any_125 w
  by_cases k20 : c = 126
  · subst k20; exact rname_any_126 w
  exact rname_any_127 c w (by omega) (by omega)

theorem roctet_any_0 (c : Int) (w : World) (h1 : 0 ≤ c) (h2 : c ≤ 32) : Calls Tryd.prog 28 #[.int .u8 c] w fun e w' => e = .returned (.bool (octB c)) ∧ w = w' := by
  have hv : octB c = false := by unfold octB wi; simp; omega
  have HV := Lib.hid hv
  clear hv
  have e33 : (c == 33) = false := beq_eq_false_iff_ne.2 (by omega)
  go_enter Tryd.func28, Tryd.ntmps28
  go_wp2
  go_ret
  exact ⟨ret_bool (by first | exact HV.out.symm | (rw [HV.out]; simp; omega)), rfl⟩

theorem roctet_any_33 (w : World) : Calls Tryd.prog 28 #[.int .u8 33] w fun e w' => e = .returned (.bool (octB 33)) ∧ w = w' := by
  have hv : octB 33 = true := by decide
  have HV := Lib.hid hv
  clear hv
  go_enter Tryd.func28, Tryd.ntmps28
  go_wp2
  go_ret
  exact ⟨ret_bool HV.out.symm, rfl⟩

theorem roctet_any_34 (w : World) : Calls Tryd.prog 28 #[.int .u8 34] w fun e w' => e = .returned (.bool (octB 34)) ∧ w = w' := by
  have hv : octB 34 = false := by decide
  have HV := Lib.hid hv
  clear hv
  go_enter Tryd.func28, Tryd.ntmps28
  go_wp2
  go_ret
  exact ⟨ret_bool HV.out.symm, rfl⟩

theorem roctet_any_35 (c : Int) (w : World) (h1 : 35 ≤ c) (h2 : c ≤ 43) : Calls Tryd.prog 28 #[.int .u8 c] w fun e w' => e = .returned (.bool (octB c)) ∧ w = w' := by
  have hv : octB c = true := by unfold octB wi; simp; omega
  have HV := Lib.hid hv
  clear hv
  have e33 : (c == 33) = false := beq_eq_false_iff_ne.2 (by omega)
  go_enter Tryd.func28, Tryd.ntmps28
  go_wp2
  go_ret
  exact ⟨ret_bool (by first | exact HV.out.symm | (rw [HV.out]; simp; omega)), rfl⟩

theorem roctet_any_44 (w : World) : Calls Tryd.prog 28 #[.int .u8 44] w fun e w' => e = .returned (.bool (octB 44)) ∧ w = w' := by
  have hv : octB 44 = false := by decide
  have HV := Lib.hid hv
  clear hv
  go_enter Tryd.func28, Tryd.ntmps28
  go_wp2
  go_ret
  exact ⟨ret_bool HV.out.symm, rfl⟩

theorem roctet_any_45 (c : Int) (w : World) (h1 : 45 ≤ c) (h2 : c ≤ 58) : Calls Tryd.prog 28 #[.int .u8 c] w fun e w' => e = .returned (.bool (octB c)) ∧ w = w' := by
  have hv : octB c = true := by unfold octB wi; simp; omega
  have HV := Lib.hid hv
  clear hv
  have e33 : (c == 33) = false := beq_eq_false_iff_ne.2 (by omega)
  go_enter Tryd.func28, Tryd.ntmps28
  go_wp2
  go_ret
  exact ⟨ret_bool (by first | exact HV.out.symm | (rw [HV.out]; simp; omega)), rfl⟩

theorem roctet_any_59 (w : World) : Calls Tryd.prog 28 #[.int .u8 59] w fun e w' => e = .returned (.bool (octB 59)) ∧ w = w' := by
  have hv : octB 59 = false := by decide
  have HV := Lib.hid hv
  clear hv
  go_enter Tryd.func28, Tryd.ntmps28
  go_wp2
  go_ret
  exact ⟨ret_bool HV.out.symm, rfl⟩

theorem roctet_any_60 (c : Int) (w : World) (h1 : 60 ≤ c) (h2 : c ≤ 91) : Calls Tryd.prog 28 #[.int .u8 c] w fun e w' => e = .returned (.bool (octB c)) ∧ w = w' := by
  have hv : octB c = true := by unfold octB wi; simp; omega
  have HV := Lib.hid hv
  clear hv
  have e33 : (c == 33) = false := beq_eq_false_iff_ne.2 (by omega)
  go_enter Tryd.func28, Tryd.ntmps28
  go_wp2
  go_ret
  exact ⟨ret_bool (by first | exact HV.out.symm | (rw [HV.out]; simp; omega)), rfl⟩

theorem roctet_any_92 (w : World) : Calls Tryd.prog 28 #[.int .u8 92] w fun e w' => e = .returned (.bool (octB 92)) ∧ w = w' := by
  have hv : octB 92 = false := by decide
  have HV := Lib.hid hv
  clear hv
  go_enter Tryd.func28, Tryd.ntmps28
  go_wp2
  go_ret
  exact ⟨ret_bool HV.out.symm, rfl⟩

theorem roctet_any_93 (c : Int) (w : World) (h1 : 93 ≤ c) (h2 : c ≤ 126) : Calls Tryd.prog 28 #[.int .u8 c] w fun e w' => e = .returned (.bool (octB c)) ∧ w = w' := by
  have hv : octB c = true := by unfold octB wi; simp; omega
  have HV := Lib.hid hv
  clear hv
  have e33 : (c == 33) = false := beq_eq_false_iff_ne.2 (by omega)
  go_enter Tryd.func28, Tryd.ntmps28
  go_wp2
  go_ret
  exact ⟨ret_bool (by first | exact HV.out.symm | (rw [HV.out]; simp; omega)), rfl⟩

theorem roctet_any_127 (c : Int) (w : World) (h1 : 127 ≤ c) (h2 : c ≤ 255) : Calls Tryd.prog 28 #[.int .u8 c] w fun e w' => e = .returned (.bool (octB c)) ∧ w = w' := by
  have hv : octB c = false := by unfold octB wi; simp; omega
  have HV := Lib.hid hv
  clear hv
  have e33 : (c == 33) = false := beq_eq_false_iff_ne.2 (by omega)
  go_enter Tryd.func28, Tryd.ntmps28
  go_wp2
  go_ret
  exact ⟨ret_bool (by first | exact HV.out.symm | (rw [HV.out]; simp; omega)), rfl⟩

theorem roctet_any (c : Int) (w : World) (h0 : 0 ≤ c) (h1 : c < 256) : Calls Tryd.prog 28 #[.int .u8 c] w fun e w' => e = .returned (.bool (octB c)) ∧ w = w' := by
  by_cases k0 : c ≤ 32
  · exact roctet_any_0 c w (by omega) (by omega)
  by_cases k1 : c = 33
  · subst k1; exact roctet_any_33 w
  by_cases k2 : c = 34
  · subst k2; exact roctet_any_34 w
  by_cases k3 : c ≤ 43
  · exact roctet_any_35 c w (by omega) (by omega)
  by_cases k4 : c = 44
  · subst k4; exact roctet_any_44 w
  by_cases k5 : c ≤ 58
  · exact roctet_any_45 c w (by omega) (by omega)
  by_cases k6 : c = 59
  · subst k6; exact roctet_any_59 w
  by_cases k7 : c ≤ 91
  · exact roctet_any_60 c w (by omega) (by omega)
  by_cases k8 : c = 92
  · subst k8; exact roctet_any_92 w
  by_cases k9 : c ≤ 126
  · exact roctet_any_93 c w (by omega) (by omega)
  exact roctet_any_127 c w (by omega) (by omega)


set_option maxRecDepth 100000 in
theorem rtoken_any (s : ByteArray) (w : World) (hs : s.size ≤ 9223372036854775807) : Calls Tryd.prog 14 #[.string s] w fun e w' => e = .returned (.bool (tokB s)) ∧ w = w' := by
  go_enter Tryd.func14, Tryd.ntmps14
  go_wp2_with fail
  go_loop [3] (fun i => ∃ k : Nat, k ≤ s.size ∧ i = .int .i64 k ∧ Hid (((bs s).take k).all (fun c => nameB (c.toNat : Int)) = true)) (fun i => s.size - (intOf i).toNat)
  case atStart => exact ⟨0, Nat.zero_le _, rfl, Lib.hid (by simp)⟩
  case round =>
    obtain ⟨k, hk, rfl, HA⟩ := hrel
    by_cases hlt : k < s.size
    · have HX := Lib.hid (at_get s k hlt)
      obtain ⟨b1, b2⟩ := at_bd s k
      cases hb : nameB (at_ s k)
      · have HN := Lib.hid (all_no nameB s k hlt hb)
        have HT2 := Lib.hid (show tokB s = false by unfold tokB; rw [HN.out]; simp)
        go_wp2_with (go_at_call 26; rw [HX.out]; refine (rname_any _ _ b1 b2).mono ?_; rintro e w' ⟨rfl, rfl⟩)
        go_ret
        exact ⟨ret_bool HT2.out.symm, rfl⟩
      · have HT := Lib.hid (all_take nameB s k hlt)
        have HB := Lib.hid hb
        go_wp2_with (go_at_call 26; rw [HX.out]; refine (rname_any _ _ b1 b2).mono ?_; rintro e w' ⟨rfl, rfl⟩)
        go_round
        case rel => exact ⟨k + 1, by omega, by go_num, Lib.hid (by rw [HT.out, HA.out, HB.out]; rfl)⟩
        case measure => simp [intOf]; omega
    · have HY := Lib.hid (all_yes nameB s k (by omega) HA.out)
      have HT2 := Lib.hid (show tokB s = decide (0 < s.size) by
        unfold tokB
        rw [HY.out, size_bs]
        cases bs s <;> simp)
      go_wp2_with fail
      go_ret
      exact ⟨ret_bool HT2.out.symm, rfl⟩

set_option maxRecDepth 100000 in
theorem roctets_any (s : ByteArray) (w : World) (hs : s.size ≤ 9223372036854775807) : Calls Tryd.prog 16 #[.string s] w fun e w' => e = .returned (.bool (allB octB s)) ∧ w = w' := by
  go_enter Tryd.func16, Tryd.ntmps16
  go_wp2_with fail
  go_loop [3] (fun i => ∃ k : Nat, k ≤ s.size ∧ i = .int .i64 k ∧ Hid (((bs s).take k).all (fun c => octB (c.toNat : Int)) = true)) (fun i => s.size - (intOf i).toNat)
  case atStart => exact ⟨0, Nat.zero_le _, rfl, Lib.hid (by simp)⟩
  case round =>
    obtain ⟨k, hk, rfl, HA⟩ := hrel
    by_cases hlt : k < s.size
    · have HX := Lib.hid (at_get s k hlt)
      obtain ⟨b1, b2⟩ := at_bd s k
      cases hb : octB (at_ s k)
      · have HN := Lib.hid (all_no octB s k hlt hb)
        
        go_wp2_with (go_at_call 28; rw [HX.out]; refine (roctet_any _ _ b1 b2).mono ?_; rintro e w' ⟨rfl, rfl⟩)
        go_ret
        exact ⟨ret_bool HN.out.symm, rfl⟩
      · have HT := Lib.hid (all_take octB s k hlt)
        have HB := Lib.hid hb
        go_wp2_with (go_at_call 28; rw [HX.out]; refine (roctet_any _ _ b1 b2).mono ?_; rintro e w' ⟨rfl, rfl⟩)
        go_round
        case rel => exact ⟨k + 1, by omega, by go_num, Lib.hid (by rw [HT.out, HA.out, HB.out]; rfl)⟩
        case measure => simp [intOf]; omega
    · have HY := Lib.hid (all_yes octB s k (by omega) HA.out)
      go_wp2_with fail
      go_ret
      exact ⟨ret_bool HY.out.symm, rfl⟩

set_option maxRecDepth 100000 in
theorem rplain_any (s : ByteArray) (w : World) (hs : s.size ≤ 9223372036854775807) : Calls Tryd.prog 18 #[.string s] w fun e w' => e = .returned (.bool (allB plainB s)) ∧ w = w' := by
  go_enter Tryd.func18, Tryd.ntmps18
  go_wp2_with fail
  go_loop [3] (fun i => ∃ k : Nat, k ≤ s.size ∧ i = .int .i64 k ∧ Hid (((bs s).take k).all (fun c => plainB (c.toNat : Int)) = true)) (fun i => s.size - (intOf i).toNat)
  case atStart => exact ⟨0, Nat.zero_le _, rfl, Lib.hid (by simp)⟩
  case round =>
    obtain ⟨k, hk, rfl, HA⟩ := hrel
    by_cases hlt : k < s.size
    · have HX := Lib.hid (at_get s k hlt)
      have hp : ((s[k]).toNat : Int) < 33 ∨ (33 ≤ ((s[k]).toNat : Int) ∧ 126 < ((s[k]).toNat : Int)) ∨ (33 ≤ ((s[k]).toNat : Int) ∧ ((s[k]).toNat : Int) ≤ 126 ∧ (((s[k]).toNat : Int) == 59) = true) ∨ (33 ≤ ((s[k]).toNat : Int) ∧ ((s[k]).toNat : Int) ≤ 126 ∧ (((s[k]).toNat : Int) == 59) = false) := by
        cases h : (((s[k]).toNat : Int) == 59) <;> simp <;> omega
      rcases hp with h | ⟨h, h'⟩ | ⟨h, h', h3⟩ | ⟨h, h', h3⟩
      case inl | inr.inl =>
        have HN := Lib.hid (all_no plainB s k hlt (by rw [← HX.out]; unfold plainB wi; simp; omega))
        go_wp2_with fail
        go_ret
        exact ⟨ret_bool HN.out.symm, rfl⟩
      case inr.inr.inl =>
        have HN := Lib.hid (all_no plainB s k hlt (by rw [← HX.out]; unfold plainB; rw [h3]; simp))
        go_wp2_with fail
        go_ret
        exact ⟨ret_bool HN.out.symm, rfl⟩
      case inr.inr.inr =>
        have HT := Lib.hid (all_take plainB s k hlt)
        have HB := Lib.hid (show plainB (at_ s k) = true by rw [← HX.out]; unfold plainB wi; rw [h3]; simp; omega)
        go_wp2_with fail
        go_round
        case rel => exact ⟨k + 1, by omega, by go_num, Lib.hid (by rw [HT.out, HA.out, HB.out]; rfl)⟩
        case measure => simp [intOf]; omega
    · have HY := Lib.hid (all_yes plainB s k (by omega) HA.out)
      go_wp2_with fail
      go_ret
      exact ⟨ret_bool HY.out.symm, rfl⟩
end Go.Proofs.YtibgppghhpilpaaDoor
