/- The contracts of lines.safe and Percent. -/
import Derived.Test.YtmcjabmkacfilaaDoorLinI
namespace Go.Proofs.YtmcjabmkacfilaaDoor
open Go.RowKit Go.Shelf

def safeB (c : UInt8) : Bool := (decide (97 ≤ c.toNat) && decide (c.toNat ≤ 122)) || (decide (65 ≤ c.toNat) && decide (c.toNat ≤ 90)) || (decide (48 ≤ c.toNat) && decide (c.toNat ≤ 57)) || hasB c ⟨#[45, 46, 95, 126]⟩
set_option maxRecDepth 100000 in
set_option maxHeartbeats 2000000 in
theorem safe_any (c : UInt8) (w : World) : Calls Tryd.prog 46 #[.int .u8 (c.toNat : Int)] w fun e w' => e = .returned (.bool (safeB c)) ∧ w = w' := by
  have hb : c.toNat < 256 := UInt8.toNat_lt c
  have hr : (0 ≤ c.toNat ∧ c.toNat ≤ 47) ∨ (48 ≤ c.toNat ∧ c.toNat ≤ 57) ∨ (58 ≤ c.toNat ∧ c.toNat ≤ 64) ∨ (65 ≤ c.toNat ∧ c.toNat ≤ 90) ∨ (91 ≤ c.toNat ∧ c.toNat ≤ 96) ∨ (97 ≤ c.toNat ∧ c.toNat ≤ 122) ∨ (123 ≤ c.toNat ∧ c.toNat ≤ 255) := by omega
  rcases hr with ⟨h1, h2⟩ | ⟨h1, h2⟩ | ⟨h1, h2⟩ | ⟨h1, h2⟩ | ⟨h1, h2⟩ | ⟨h1, h2⟩ | ⟨h1, h2⟩
  · have HN := Lib.hid (show safeB c = hasB c ⟨#[45, 46, 95, 126]⟩ by unfold safeB; rw [Bool.or_eq_right_iff_imp]; intro h; simp at h; omega)
    have t0 : ¬ ((97 : Int) ≤ (c.toNat : Int)) := by omega
    have u0 : decide ((97 : Int) ≤ (c.toNat : Int)) = false := decide_eq_false t0
    have t1 : ((c.toNat : Int) ≤ (122 : Int)) := by omega
    have u1 : decide ((c.toNat : Int) ≤ (122 : Int)) = true := decide_eq_true t1
    have t2 : ¬ ((65 : Int) ≤ (c.toNat : Int)) := by omega
    have u2 : decide ((65 : Int) ≤ (c.toNat : Int)) = false := decide_eq_false t2
    have t3 : ((c.toNat : Int) ≤ (90 : Int)) := by omega
    have u3 : decide ((c.toNat : Int) ≤ (90 : Int)) = true := decide_eq_true t3
    have t4 : ¬ ((48 : Int) ≤ (c.toNat : Int)) := by omega
    have u4 : decide ((48 : Int) ≤ (c.toNat : Int)) = false := decide_eq_false t4
    have t5 : ((c.toNat : Int) ≤ (57 : Int)) := by omega
    have u5 : decide ((c.toNat : Int) ≤ (57 : Int)) = true := decide_eq_true t5
    rw [HN.out, ← has_ix]
    clear h1 h2 hb
    go_enter Tryd.func46, Tryd.ntmps46
    go_wp2_with fail
    refine (ixb_any ⟨#[45, 46, 95, 126]⟩ c _).mono ?_
    rintro e w1 ⟨rfl, rfl⟩
    go_wp2_with fail
    go_ret
    exact ⟨rfl, rfl⟩
  · have HN := Lib.hid (show safeB c = true by unfold safeB; simp; omega)
    have t0 : ¬ ((97 : Int) ≤ (c.toNat : Int)) := by omega
    have u0 : decide ((97 : Int) ≤ (c.toNat : Int)) = false := decide_eq_false t0
    have t1 : ((c.toNat : Int) ≤ (122 : Int)) := by omega
    have u1 : decide ((c.toNat : Int) ≤ (122 : Int)) = true := decide_eq_true t1
    have t2 : ¬ ((65 : Int) ≤ (c.toNat : Int)) := by omega
    have u2 : decide ((65 : Int) ≤ (c.toNat : Int)) = false := decide_eq_false t2
    have t3 : ((c.toNat : Int) ≤ (90 : Int)) := by omega
    have u3 : decide ((c.toNat : Int) ≤ (90 : Int)) = true := decide_eq_true t3
    have t4 : ((48 : Int) ≤ (c.toNat : Int)) := by omega
    have u4 : decide ((48 : Int) ≤ (c.toNat : Int)) = true := decide_eq_true t4
    have t5 : ((c.toNat : Int) ≤ (57 : Int)) := by omega
    have u5 : decide ((c.toNat : Int) ≤ (57 : Int)) = true := decide_eq_true t5
    rw [HN.out]
    clear h1 h2 hb
    go_enter Tryd.func46, Tryd.ntmps46
    go_wp2_with fail
    go_ret
    exact ⟨rfl, rfl⟩
  · have HN := Lib.hid (show safeB c = hasB c ⟨#[45, 46, 95, 126]⟩ by unfold safeB; rw [Bool.or_eq_right_iff_imp]; intro h; simp at h; omega)
    have t0 : ¬ ((97 : Int) ≤ (c.toNat : Int)) := by omega
    have u0 : decide ((97 : Int) ≤ (c.toNat : Int)) = false := decide_eq_false t0
    have t1 : ((c.toNat : Int) ≤ (122 : Int)) := by omega
    have u1 : decide ((c.toNat : Int) ≤ (122 : Int)) = true := decide_eq_true t1
    have t2 : ¬ ((65 : Int) ≤ (c.toNat : Int)) := by omega
    have u2 : decide ((65 : Int) ≤ (c.toNat : Int)) = false := decide_eq_false t2
    have t3 : ((c.toNat : Int) ≤ (90 : Int)) := by omega
    have u3 : decide ((c.toNat : Int) ≤ (90 : Int)) = true := decide_eq_true t3
    have t4 : ((48 : Int) ≤ (c.toNat : Int)) := by omega
    have u4 : decide ((48 : Int) ≤ (c.toNat : Int)) = true := decide_eq_true t4
    have t5 : ¬ ((c.toNat : Int) ≤ (57 : Int)) := by omega
    have u5 : decide ((c.toNat : Int) ≤ (57 : Int)) = false := decide_eq_false t5
    rw [HN.out, ← has_ix]
    clear h1 h2 hb
    go_enter Tryd.func46, Tryd.ntmps46
    go_wp2_with fail
    refine (ixb_any ⟨#[45, 46, 95, 126]⟩ c _).mono ?_
    rintro e w1 ⟨rfl, rfl⟩
    go_wp2_with fail
    go_ret
    exact ⟨rfl, rfl⟩
  · have HN := Lib.hid (show safeB c = true by unfold safeB; simp; omega)
    have t0 : ¬ ((97 : Int) ≤ (c.toNat : Int)) := by omega
    have u0 : decide ((97 : Int) ≤ (c.toNat : Int)) = false := decide_eq_false t0
    have t1 : ((c.toNat : Int) ≤ (122 : Int)) := by omega
    have u1 : decide ((c.toNat : Int) ≤ (122 : Int)) = true := decide_eq_true t1
    have t2 : ((65 : Int) ≤ (c.toNat : Int)) := by omega
    have u2 : decide ((65 : Int) ≤ (c.toNat : Int)) = true := decide_eq_true t2
    have t3 : ((c.toNat : Int) ≤ (90 : Int)) := by omega
    have u3 : decide ((c.toNat : Int) ≤ (90 : Int)) = true := decide_eq_true t3
    have t4 : ((48 : Int) ≤ (c.toNat : Int)) := by omega
    have u4 : decide ((48 : Int) ≤ (c.toNat : Int)) = true := decide_eq_true t4
    have t5 : ¬ ((c.toNat : Int) ≤ (57 : Int)) := by omega
    have u5 : decide ((c.toNat : Int) ≤ (57 : Int)) = false := decide_eq_false t5
    rw [HN.out]
    clear h1 h2 hb
    go_enter Tryd.func46, Tryd.ntmps46
    go_wp2_with fail
    go_ret
    exact ⟨rfl, rfl⟩
  · have HN := Lib.hid (show safeB c = hasB c ⟨#[45, 46, 95, 126]⟩ by unfold safeB; rw [Bool.or_eq_right_iff_imp]; intro h; simp at h; omega)
    have t0 : ¬ ((97 : Int) ≤ (c.toNat : Int)) := by omega
    have u0 : decide ((97 : Int) ≤ (c.toNat : Int)) = false := decide_eq_false t0
    have t1 : ((c.toNat : Int) ≤ (122 : Int)) := by omega
    have u1 : decide ((c.toNat : Int) ≤ (122 : Int)) = true := decide_eq_true t1
    have t2 : ((65 : Int) ≤ (c.toNat : Int)) := by omega
    have u2 : decide ((65 : Int) ≤ (c.toNat : Int)) = true := decide_eq_true t2
    have t3 : ¬ ((c.toNat : Int) ≤ (90 : Int)) := by omega
    have u3 : decide ((c.toNat : Int) ≤ (90 : Int)) = false := decide_eq_false t3
    have t4 : ((48 : Int) ≤ (c.toNat : Int)) := by omega
    have u4 : decide ((48 : Int) ≤ (c.toNat : Int)) = true := decide_eq_true t4
    have t5 : ¬ ((c.toNat : Int) ≤ (57 : Int)) := by omega
    have u5 : decide ((c.toNat : Int) ≤ (57 : Int)) = false := decide_eq_false t5
    rw [HN.out, ← has_ix]
    clear h1 h2 hb
    go_enter Tryd.func46, Tryd.ntmps46
    go_wp2_with fail
    refine (ixb_any ⟨#[45, 46, 95, 126]⟩ c _).mono ?_
    rintro e w1 ⟨rfl, rfl⟩
    go_wp2_with fail
    go_ret
    exact ⟨rfl, rfl⟩
  · have HN := Lib.hid (show safeB c = true by unfold safeB; simp; omega)
    have t0 : ((97 : Int) ≤ (c.toNat : Int)) := by omega
    have u0 : decide ((97 : Int) ≤ (c.toNat : Int)) = true := decide_eq_true t0
    have t1 : ((c.toNat : Int) ≤ (122 : Int)) := by omega
    have u1 : decide ((c.toNat : Int) ≤ (122 : Int)) = true := decide_eq_true t1
    have t2 : ((65 : Int) ≤ (c.toNat : Int)) := by omega
    have u2 : decide ((65 : Int) ≤ (c.toNat : Int)) = true := decide_eq_true t2
    have t3 : ¬ ((c.toNat : Int) ≤ (90 : Int)) := by omega
    have u3 : decide ((c.toNat : Int) ≤ (90 : Int)) = false := decide_eq_false t3
    have t4 : ((48 : Int) ≤ (c.toNat : Int)) := by omega
    have u4 : decide ((48 : Int) ≤ (c.toNat : Int)) = true := decide_eq_true t4
    have t5 : ¬ ((c.toNat : Int) ≤ (57 : Int)) := by omega
    have u5 : decide ((c.toNat : Int) ≤ (57 : Int)) = false := decide_eq_false t5
    rw [HN.out]
    clear h1 h2 hb
    go_enter Tryd.func46, Tryd.ntmps46
    go_wp2_with fail
    go_ret
    exact ⟨rfl, rfl⟩
  · have HN := Lib.hid (show safeB c = hasB c ⟨#[45, 46, 95, 126]⟩ by unfold safeB; rw [Bool.or_eq_right_iff_imp]; intro h; simp at h; omega)
    have t0 : ((97 : Int) ≤ (c.toNat : Int)) := by omega
    have u0 : decide ((97 : Int) ≤ (c.toNat : Int)) = true := decide_eq_true t0
    have t1 : ¬ ((c.toNat : Int) ≤ (122 : Int)) := by omega
    have u1 : decide ((c.toNat : Int) ≤ (122 : Int)) = false := decide_eq_false t1
    have t2 : ((65 : Int) ≤ (c.toNat : Int)) := by omega
    have u2 : decide ((65 : Int) ≤ (c.toNat : Int)) = true := decide_eq_true t2
    have t3 : ¬ ((c.toNat : Int) ≤ (90 : Int)) := by omega
    have u3 : decide ((c.toNat : Int) ≤ (90 : Int)) = false := decide_eq_false t3
    have t4 : ((48 : Int) ≤ (c.toNat : Int)) := by omega
    have u4 : decide ((48 : Int) ≤ (c.toNat : Int)) = true := decide_eq_true t4
    have t5 : ¬ ((c.toNat : Int) ≤ (57 : Int)) := by omega
    have u5 : decide ((c.toNat : Int) ≤ (57 : Int)) = false := decide_eq_false t5
    rw [HN.out, ← has_ix]
    clear h1 h2 hb
    go_enter Tryd.func46, Tryd.ntmps46
    go_wp2_with fail
    refine (ixb_any ⟨#[45, 46, 95, 126]⟩ c _).mono ?_
    rintro e w1 ⟨rfl, rfl⟩
    go_wp2_with fail
    go_ret
    exact ⟨rfl, rfl⟩
end Go.Proofs.YtmcjabmkacfilaaDoor
