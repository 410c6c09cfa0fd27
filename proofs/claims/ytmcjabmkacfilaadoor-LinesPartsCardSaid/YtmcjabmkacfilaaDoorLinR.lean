/- The contracts of the reference's safe, sign and Percent. -/
import Derived.Test.YtmcjabmkacfilaaDoorLinQ
import Derived.RegionTactic
import Derived.BigRegion
import Derived.Deep.RegionHeld
import Derived.Maps.AppendAt
namespace Go.Proofs.YtmcjabmkacfilaaDoor
open Go.RowKit Go.Shelf

theorem ne_nat {c : UInt8} {n : Nat} (h : c.toNat ≠ n) : c ≠ UInt8.ofNat n ∨ 256 ≤ n := by
  rcases Nat.lt_or_ge n 256 with h1 | h1
  · left; intro e; subst e; rw [UInt8.toNat_ofNat_of_lt' (by simpa using h1)] at h; exact h rfl
  · exact .inr h1
theorem safe_mark {c : UInt8} (h : ¬ (97 ≤ c.toNat ∧ c.toNat ≤ 122) ∧ ¬ (65 ≤ c.toNat ∧ c.toNat ≤ 90) ∧ ¬ (48 ≤ c.toNat ∧ c.toNat ≤ 57)) (h45 : c ≠ 45) (h46 : c ≠ 46) (h95 : c ≠ 95) (h126 : c ≠ 126) : safeB c = false := by
  unfold safeB hasB bs
  simp [h45, h46, h95, h126]
  omega
set_option maxRecDepth 100000 in
set_option maxHeartbeats 4000000 in
theorem rsafe_any (c : UInt8) (w : World) : Calls Tryd.prog 43 #[.int .u8 (c.toNat : Int)] w fun e w' => e = .returned (.bool (safeB c)) ∧ w = w' := by
  have hb : c.toNat < 256 := UInt8.toNat_lt c
  have hr : (0 ≤ c.toNat ∧ c.toNat ≤ 44) ∨ (45 ≤ c.toNat ∧ c.toNat ≤ 45) ∨ (46 ≤ c.toNat ∧ c.toNat ≤ 46) ∨ (47 ≤ c.toNat ∧ c.toNat ≤ 47) ∨ (48 ≤ c.toNat ∧ c.toNat ≤ 57) ∨ (58 ≤ c.toNat ∧ c.toNat ≤ 64) ∨ (65 ≤ c.toNat ∧ c.toNat ≤ 90) ∨ (91 ≤ c.toNat ∧ c.toNat ≤ 94) ∨ (95 ≤ c.toNat ∧ c.toNat ≤ 95) ∨ (96 ≤ c.toNat ∧ c.toNat ≤ 96) ∨ (97 ≤ c.toNat ∧ c.toNat ≤ 122) ∨ (123 ≤ c.toNat ∧ c.toNat ≤ 125) ∨ (126 ≤ c.toNat ∧ c.toNat ≤ 126) ∨ (127 ≤ c.toNat ∧ c.toNat ≤ 255) := by omega
  rcases hr with ⟨h1, h2⟩ | ⟨h1, h2⟩ | ⟨h1, h2⟩ | ⟨h1, h2⟩ | ⟨h1, h2⟩ | ⟨h1, h2⟩ | ⟨h1, h2⟩ | ⟨h1, h2⟩ | ⟨h1, h2⟩ | ⟨h1, h2⟩ | ⟨h1, h2⟩ | ⟨h1, h2⟩ | ⟨h1, h2⟩ | ⟨h1, h2⟩
  · have n45 : c ≠ 45 := fun h => by subst h; revert h1 h2; decide
    have n46 : c ≠ 46 := fun h => by subst h; revert h1 h2; decide
    have n95 : c ≠ 95 := fun h => by subst h; revert h1 h2; decide
    have n126 : c ≠ 126 := fun h => by subst h; revert h1 h2; decide
    have HN := Lib.hid (safe_mark (by omega) n45 n46 n95 n126)
    obtain ⟨p45, q45⟩ := ne_int (n := 45) (by decide) n45
    obtain ⟨p46, q46⟩ := ne_int (n := 46) (by decide) n46
    obtain ⟨p95, q95⟩ := ne_int (n := 95) (by decide) n95
    obtain ⟨p126, q126⟩ := ne_int (n := 126) (by decide) n126
    clear n45 n46 n95 n126
    have t0 : ¬ ((65 : Int) ≤ (c.toNat : Int)) := by omega
    have u0 : decide ((65 : Int) ≤ (c.toNat : Int)) = false := decide_eq_false t0
    have t1 : ((c.toNat : Int) ≤ (90 : Int)) := by omega
    have u1 : decide ((c.toNat : Int) ≤ (90 : Int)) = true := decide_eq_true t1
    have t2 : ¬ ((97 : Int) ≤ (c.toNat : Int)) := by omega
    have u2 : decide ((97 : Int) ≤ (c.toNat : Int)) = false := decide_eq_false t2
    have t3 : ((c.toNat : Int) ≤ (122 : Int)) := by omega
    have u3 : decide ((c.toNat : Int) ≤ (122 : Int)) = true := decide_eq_true t3
    have t4 : ¬ ((48 : Int) ≤ (c.toNat : Int)) := by omega
    have u4 : decide ((48 : Int) ≤ (c.toNat : Int)) = false := decide_eq_false t4
    have t5 : ((c.toNat : Int) ≤ (57 : Int)) := by omega
    have u5 : decide ((c.toNat : Int) ≤ (57 : Int)) = true := decide_eq_true t5
    rw [HN.out]
    clear h1 h2 hb
    go_enter Tryd.func43, Tryd.ntmps43
    go_wp2_with fail
    go_ret
    exact ⟨by simp; omega, rfl⟩
  · obtain rfl : c = 45 := UInt8.toNat_inj.1 (by show c.toNat = 45; omega)
    rw [show safeB 45 = true from by decide +kernel]
    clear h1 h2 hb
    go_enter Tryd.func43, Tryd.ntmps43
    go_wp2_with fail
    go_ret
    exact ⟨rfl, rfl⟩
  · obtain rfl : c = 46 := UInt8.toNat_inj.1 (by show c.toNat = 46; omega)
    rw [show safeB 46 = true from by decide +kernel]
    clear h1 h2 hb
    go_enter Tryd.func43, Tryd.ntmps43
    go_wp2_with fail
    go_ret
    exact ⟨rfl, rfl⟩
  · obtain rfl : c = 47 := UInt8.toNat_inj.1 (by show c.toNat = 47; omega)
    rw [show safeB 47 = false from by decide +kernel]
    clear h1 h2 hb
    go_enter Tryd.func43, Tryd.ntmps43
    go_wp2_with fail
    go_ret
    exact ⟨rfl, rfl⟩
  · have HN := Lib.hid (show safeB c = true by unfold safeB; simp; omega)
    have t0 : ¬ ((65 : Int) ≤ (c.toNat : Int)) := by omega
    have u0 : decide ((65 : Int) ≤ (c.toNat : Int)) = false := decide_eq_false t0
    have t1 : ((c.toNat : Int) ≤ (90 : Int)) := by omega
    have u1 : decide ((c.toNat : Int) ≤ (90 : Int)) = true := decide_eq_true t1
    have t2 : ¬ ((97 : Int) ≤ (c.toNat : Int)) := by omega
    have u2 : decide ((97 : Int) ≤ (c.toNat : Int)) = false := decide_eq_false t2
    have t3 : ((c.toNat : Int) ≤ (122 : Int)) := by omega
    have u3 : decide ((c.toNat : Int) ≤ (122 : Int)) = true := decide_eq_true t3
    have t4 : ((48 : Int) ≤ (c.toNat : Int)) := by omega
    have u4 : decide ((48 : Int) ≤ (c.toNat : Int)) = true := decide_eq_true t4
    have t5 : ((c.toNat : Int) ≤ (57 : Int)) := by omega
    have u5 : decide ((c.toNat : Int) ≤ (57 : Int)) = true := decide_eq_true t5
    rw [HN.out]
    clear h1 h2 hb
    go_enter Tryd.func43, Tryd.ntmps43
    go_wp2_with fail
    go_ret
    exact ⟨rfl, rfl⟩
  · have n45 : c ≠ 45 := fun h => by subst h; revert h1 h2; decide
    have n46 : c ≠ 46 := fun h => by subst h; revert h1 h2; decide
    have n95 : c ≠ 95 := fun h => by subst h; revert h1 h2; decide
    have n126 : c ≠ 126 := fun h => by subst h; revert h1 h2; decide
    have HN := Lib.hid (safe_mark (by omega) n45 n46 n95 n126)
    obtain ⟨p45, q45⟩ := ne_int (n := 45) (by decide) n45
    obtain ⟨p46, q46⟩ := ne_int (n := 46) (by decide) n46
    obtain ⟨p95, q95⟩ := ne_int (n := 95) (by decide) n95
    obtain ⟨p126, q126⟩ := ne_int (n := 126) (by decide) n126
    clear n45 n46 n95 n126
    have t0 : ¬ ((65 : Int) ≤ (c.toNat : Int)) := by omega
    have u0 : decide ((65 : Int) ≤ (c.toNat : Int)) = false := decide_eq_false t0
    have t1 : ((c.toNat : Int) ≤ (90 : Int)) := by omega
    have u1 : decide ((c.toNat : Int) ≤ (90 : Int)) = true := decide_eq_true t1
    have t2 : ¬ ((97 : Int) ≤ (c.toNat : Int)) := by omega
    have u2 : decide ((97 : Int) ≤ (c.toNat : Int)) = false := decide_eq_false t2
    have t3 : ((c.toNat : Int) ≤ (122 : Int)) := by omega
    have u3 : decide ((c.toNat : Int) ≤ (122 : Int)) = true := decide_eq_true t3
    have t4 : ((48 : Int) ≤ (c.toNat : Int)) := by omega
    have u4 : decide ((48 : Int) ≤ (c.toNat : Int)) = true := decide_eq_true t4
    have t5 : ¬ ((c.toNat : Int) ≤ (57 : Int)) := by omega
    have u5 : decide ((c.toNat : Int) ≤ (57 : Int)) = false := decide_eq_false t5
    rw [HN.out]
    clear h1 h2 hb
    go_enter Tryd.func43, Tryd.ntmps43
    go_wp2_with fail
    go_ret
    exact ⟨by simp; omega, rfl⟩
  · have HN := Lib.hid (show safeB c = true by unfold safeB; simp; omega)
    have t0 : ((65 : Int) ≤ (c.toNat : Int)) := by omega
    have u0 : decide ((65 : Int) ≤ (c.toNat : Int)) = true := decide_eq_true t0
    have t1 : ((c.toNat : Int) ≤ (90 : Int)) := by omega
    have u1 : decide ((c.toNat : Int) ≤ (90 : Int)) = true := decide_eq_true t1
    have t2 : ¬ ((97 : Int) ≤ (c.toNat : Int)) := by omega
    have u2 : decide ((97 : Int) ≤ (c.toNat : Int)) = false := decide_eq_false t2
    have t3 : ((c.toNat : Int) ≤ (122 : Int)) := by omega
    have u3 : decide ((c.toNat : Int) ≤ (122 : Int)) = true := decide_eq_true t3
    have t4 : ((48 : Int) ≤ (c.toNat : Int)) := by omega
    have u4 : decide ((48 : Int) ≤ (c.toNat : Int)) = true := decide_eq_true t4
    have t5 : ¬ ((c.toNat : Int) ≤ (57 : Int)) := by omega
    have u5 : decide ((c.toNat : Int) ≤ (57 : Int)) = false := decide_eq_false t5
    rw [HN.out]
    clear h1 h2 hb
    go_enter Tryd.func43, Tryd.ntmps43
    go_wp2_with fail
    go_ret
    exact ⟨rfl, rfl⟩
  · have n45 : c ≠ 45 := fun h => by subst h; revert h1 h2; decide
    have n46 : c ≠ 46 := fun h => by subst h; revert h1 h2; decide
    have n95 : c ≠ 95 := fun h => by subst h; revert h1 h2; decide
    have n126 : c ≠ 126 := fun h => by subst h; revert h1 h2; decide
    have HN := Lib.hid (safe_mark (by omega) n45 n46 n95 n126)
    obtain ⟨p45, q45⟩ := ne_int (n := 45) (by decide) n45
    obtain ⟨p46, q46⟩ := ne_int (n := 46) (by decide) n46
    obtain ⟨p95, q95⟩ := ne_int (n := 95) (by decide) n95
    obtain ⟨p126, q126⟩ := ne_int (n := 126) (by decide) n126
    clear n45 n46 n95 n126
    have t0 : ((65 : Int) ≤ (c.toNat : Int)) := by omega
    have u0 : decide ((65 : Int) ≤ (c.toNat : Int)) = true := decide_eq_true t0
    have t1 : ¬ ((c.toNat : Int) ≤ (90 : Int)) := by omega
    have u1 : decide ((c.toNat : Int) ≤ (90 : Int)) = false := decide_eq_false t1
    have t2 : ¬ ((97 : Int) ≤ (c.toNat : Int)) := by omega
    have u2 : decide ((97 : Int) ≤ (c.toNat : Int)) = false := decide_eq_false t2
    have t3 : ((c.toNat : Int) ≤ (122 : Int)) := by omega
    have u3 : decide ((c.toNat : Int) ≤ (122 : Int)) = true := decide_eq_true t3
    have t4 : ((48 : Int) ≤ (c.toNat : Int)) := by omega
    have u4 : decide ((48 : Int) ≤ (c.toNat : Int)) = true := decide_eq_true t4
    have t5 : ¬ ((c.toNat : Int) ≤ (57 : Int)) := by omega
    have u5 : decide ((c.toNat : Int) ≤ (57 : Int)) = false := decide_eq_false t5
    rw [HN.out]
    clear h1 h2 hb
    go_enter Tryd.func43, Tryd.ntmps43
    go_wp2_with fail
    go_ret
    exact ⟨by simp; omega, rfl⟩
  · obtain rfl : c = 95 := UInt8.toNat_inj.1 (by show c.toNat = 95; omega)
    rw [show safeB 95 = true from by decide +kernel]
    clear h1 h2 hb
    go_enter Tryd.func43, Tryd.ntmps43
    go_wp2_with fail
    go_ret
    exact ⟨rfl, rfl⟩
  · obtain rfl : c = 96 := UInt8.toNat_inj.1 (by show c.toNat = 96; omega)
    rw [show safeB 96 = false from by decide +kernel]
    clear h1 h2 hb
    go_enter Tryd.func43, Tryd.ntmps43
    go_wp2_with fail
    go_ret
    exact ⟨rfl, rfl⟩
  · have HN := Lib.hid (show safeB c = true by unfold safeB; simp; omega)
    have t0 : ((65 : Int) ≤ (c.toNat : Int)) := by omega
    have u0 : decide ((65 : Int) ≤ (c.toNat : Int)) = true := decide_eq_true t0
    have t1 : ¬ ((c.toNat : Int) ≤ (90 : Int)) := by omega
    have u1 : decide ((c.toNat : Int) ≤ (90 : Int)) = false := decide_eq_false t1
    have t2 : ((97 : Int) ≤ (c.toNat : Int)) := by omega
    have u2 : decide ((97 : Int) ≤ (c.toNat : Int)) = true := decide_eq_true t2
    have t3 : ((c.toNat : Int) ≤ (122 : Int)) := by omega
    have u3 : decide ((c.toNat : Int) ≤ (122 : Int)) = true := decide_eq_true t3
    have t4 : ((48 : Int) ≤ (c.toNat : Int)) := by omega
    have u4 : decide ((48 : Int) ≤ (c.toNat : Int)) = true := decide_eq_true t4
    have t5 : ¬ ((c.toNat : Int) ≤ (57 : Int)) := by omega
    have u5 : decide ((c.toNat : Int) ≤ (57 : Int)) = false := decide_eq_false t5
    rw [HN.out]
    clear h1 h2 hb
    go_enter Tryd.func43, Tryd.ntmps43
    go_wp2_with fail
    go_ret
    exact ⟨rfl, rfl⟩
  · have n45 : c ≠ 45 := fun h => by subst h; revert h1 h2; decide
    have n46 : c ≠ 46 := fun h => by subst h; revert h1 h2; decide
    have n95 : c ≠ 95 := fun h => by subst h; revert h1 h2; decide
    have n126 : c ≠ 126 := fun h => by subst h; revert h1 h2; decide
    have HN := Lib.hid (safe_mark (by omega) n45 n46 n95 n126)
    obtain ⟨p45, q45⟩ := ne_int (n := 45) (by decide) n45
    obtain ⟨p46, q46⟩ := ne_int (n := 46) (by decide) n46
    obtain ⟨p95, q95⟩ := ne_int (n := 95) (by decide) n95
    obtain ⟨p126, q126⟩ := ne_int (n := 126) (by decide) n126
    clear n45 n46 n95 n126
    have t0 : ((65 : Int) ≤ (c.toNat : Int)) := by omega
    have u0 : decide ((65 : Int) ≤ (c.toNat : Int)) = true := decide_eq_true t0
    have t1 : ¬ ((c.toNat : Int) ≤ (90 : Int)) := by omega
    have u1 : decide ((c.toNat : Int) ≤ (90 : Int)) = false := decide_eq_false t1
    have t2 : ((97 : Int) ≤ (c.toNat : Int)) := by omega
    have u2 : decide ((97 : Int) ≤ (c.toNat : Int)) = true := decide_eq_true t2
    have t3 : ¬ ((c.toNat : Int) ≤ (122 : Int)) := by omega
    have u3 : decide ((c.toNat : Int) ≤ (122 : Int)) = false := decide_eq_false t3
    have t4 : ((48 : Int) ≤ (c.toNat : Int)) := by omega
    have u4 : decide ((48 : Int) ≤ (c.toNat : Int)) = true := decide_eq_true t4
    have t5 : ¬ ((c.toNat : Int) ≤ (57 : Int)) := by omega
    have u5 : decide ((c.toNat : Int) ≤ (57 : Int)) = false := decide_eq_false t5
    rw [HN.out]
    clear h1 h2 hb
    go_enter Tryd.func43, Tryd.ntmps43
    go_wp2_with fail
    go_ret
    exact ⟨by simp; omega, rfl⟩
  · obtain rfl : c = 126 := UInt8.toNat_inj.1 (by show c.toNat = 126; omega)
    rw [show safeB 126 = true from by decide +kernel]
    clear h1 h2 hb
    go_enter Tryd.func43, Tryd.ntmps43
    go_wp2_with fail
    go_ret
    exact ⟨rfl, rfl⟩
  · have n45 : c ≠ 45 := fun h => by subst h; revert h1 h2; decide
    have n46 : c ≠ 46 := fun h => by subst h; revert h1 h2; decide
    have n95 : c ≠ 95 := fun h => by subst h; revert h1 h2; decide
    have n126 : c ≠ 126 := fun h => by subst h; revert h1 h2; decide
    have HN := Lib.hid (safe_mark (by omega) n45 n46 n95 n126)
    obtain ⟨p45, q45⟩ := ne_int (n := 45) (by decide) n45
    obtain ⟨p46, q46⟩ := ne_int (n := 46) (by decide) n46
    obtain ⟨p95, q95⟩ := ne_int (n := 95) (by decide) n95
    obtain ⟨p126, q126⟩ := ne_int (n := 126) (by decide) n126
    clear n45 n46 n95 n126
    have t0 : ((65 : Int) ≤ (c.toNat : Int)) := by omega
    have u0 : decide ((65 : Int) ≤ (c.toNat : Int)) = true := decide_eq_true t0
    have t1 : ¬ ((c.toNat : Int) ≤ (90 : Int)) := by omega
    have u1 : decide ((c.toNat : Int) ≤ (90 : Int)) = false := decide_eq_false t1
    have t2 : ((97 : Int) ≤ (c.toNat : Int)) := by omega
    have u2 : decide ((97 : Int) ≤ (c.toNat : Int)) = true := decide_eq_true t2
    have t3 : ¬ ((c.toNat : Int) ≤ (122 : Int)) := by omega
    have u3 : decide ((c.toNat : Int) ≤ (122 : Int)) = false := decide_eq_false t3
    have t4 : ((48 : Int) ≤ (c.toNat : Int)) := by omega
    have u4 : decide ((48 : Int) ≤ (c.toNat : Int)) = true := decide_eq_true t4
    have t5 : ¬ ((c.toNat : Int) ≤ (57 : Int)) := by omega
    have u5 : decide ((c.toNat : Int) ≤ (57 : Int)) = false := decide_eq_false t5
    rw [HN.out]
    clear h1 h2 hb
    go_enter Tryd.func43, Tryd.ntmps43
    go_wp2_with fail
    go_ret
    exact ⟨by simp; omega, rfl⟩
set_option maxRecDepth 100000 in
set_option maxHeartbeats 4000000 in
theorem rsign_any (n : Nat) (h : n < 16) (w : World) : Calls Tryd.prog 47 #[.int .u8 (n : Int)] w fun e w' => e = .returned (.int .u8 ((hexB n).toNat : Int)) ∧ w = w' := by
  have : n = 0 ∨ n = 1 ∨ n = 2 ∨ n = 3 ∨ n = 4 ∨ n = 5 ∨ n = 6 ∨ n = 7 ∨ n = 8 ∨ n = 9 ∨ n = 10 ∨ n = 11 ∨ n = 12 ∨ n = 13 ∨ n = 14 ∨ n = 15 := by omega
  rcases this with rfl | rfl | rfl | rfl | rfl | rfl | rfl | rfl | rfl | rfl | rfl | rfl | rfl | rfl | rfl | rfl
  all_goals
    clear h
    go_enter Tryd.func47, Tryd.ntmps47
    go_wp2_with fail
    go_ret
    exact ⟨rfl, rfl⟩
end Go.Proofs.YtmcjabmkacfilaaDoor
