/- The walk of the statement PathBelow. -/
import Derived.Test.YtnjmhkehckhihaaDoorPathK
import Derived.Test.YtnjmhkehckhihaaDoorQReg
namespace Go.Proofs.YtnjmhkehckhihaaDoor
open Go.RowKit

theorem below_one (a b : ByteArray) : matchB (a ++ ({ data := #[47] } : ByteArray) ++ b) a = true := by
  refine (match_iff _ _).2 ⟨47 :: bs b, ?_, .inr (.inr rfl)⟩
  rw [bs_append, bs_append, List.append_assoc]
  rfl
theorem end_slash (a : ByteArray) : endB (a ++ ({ data := #[47] } : ByteArray)) = true := by
  have hz : (a ++ ({ data := #[47] } : ByteArray)).size = a.size + 1 := by rw [ByteArray.size_append]; rfl
  have h1 : 0 < (a ++ ({ data := #[47] } : ByteArray)).size := by omega
  have h2 : (a ++ ({ data := #[47] } : ByteArray)).size - 1 < (a ++ ({ data := #[47] } : ByteArray)).size := by omega
  rw [end_at _ h1 h2, at_get _ _ h2]
  unfold at_
  rw [hz, bs_append, Nat.add_sub_cancel, size_bs]
  rw [List.getD_eq_getElem?_getD, List.getElem?_append_right (Nat.le_refl _), Nat.sub_self]
  rfl
theorem below_two (a b : ByteArray) : matchB (a ++ ({ data := #[47] } : ByteArray) ++ b) (a ++ ({ data := #[47] } : ByteArray)) = true := by
  refine (match_iff _ _).2 ⟨bs b, ?_, .inr (.inl (end_slash a))⟩
  rw [bs_append]
theorem below_any (a b : ByteArray) (h : 0 < b.size) : matchB (a ++ b) a = (endB a || at_ b 0 == 47) := by
  rw [Bool.eq_iff_iff, match_iff, Bool.or_eq_true, at_zero]
  constructor
  · rintro ⟨l, hl, h1⟩
    rw [bs_append] at hl
    have hb : bs b = l := List.append_cancel_left hl
    rcases h1 with h1 | h1 | h1
    · rw [h1] at hb; rw [size_bs, hb] at h; simp at h
    · exact .inl h1
    · exact .inr (by rw [hb]; exact h1)
  · intro h1
    exact ⟨bs b, bs_append a b, .inr h1⟩
theorem match_at {r c : ByteArray} {v : Bool} (W : World) (hr : r.size ≤ 9223372036854775807) (hc : c.size ≤ 9223372036854775807) (h : matchB r c = v) : Calls Tryd.prog 14 #[.string r, .string c] W fun e w' => e = .returned (.bool v) ∧ W = w' := by
  subst h
  exact match_any r c W hr hc
set_option maxHeartbeats 4000000 in
set_option maxRecDepth 100000 in
theorem below_empty (a b : ByteArray) (w : World) (ha : a.size ≤ 500) (hb : b.size ≤ 500) (hm : HasMax w) (h : b.size = 0) :
    Calls Tryd.prog 6 #[.string a, .string b] w fun e w' => e = .returned (.bool true) ∧ Below w.heap.size w w' := by
  have HM := Lib.hid hm
  have M1 := Lib.hid (below_one a b)
  have M2 := Lib.hid (below_two a b)
  have g0 : b.toList = [] := List.isEmpty_iff.1 ((empty_iff b).2 h)
  have M3 := Lib.hid h
  clear h
  clear hm
  have k1 : ¬ (9223372036854775807 < a.size + 1) := by omega
  have k2 : ¬ (9223372036854775807 < a.size + 1 + b.size) := by omega
  have k3 : ¬ (9223372036854775807 < a.size + b.size) := by omega
  have z0 : a.size ≤ 9223372036854775807 := by omega
  have Z1 := Lib.hid (show (a ++ ({ data := #[47] } : ByteArray)).size ≤ 9223372036854775807 by rw [ByteArray.size_append]; show a.size + 1 ≤ _; omega)
  have Z2 := Lib.hid (show (a ++ ({ data := #[47] } : ByteArray) ++ b).size ≤ 9223372036854775807 by rw [ByteArray.size_append, ByteArray.size_append]; show a.size + 1 + b.size ≤ _; omega)
  have Z3 := Lib.hid (show (a ++ b).size ≤ 9223372036854775807 by rw [ByteArray.size_append]; omega)
  go_enter Tryd.func6, Tryd.ntmps6
  go_wp2_with fail
  refine wp_region_class (by kernel_rfl) (by kernel_rfl) ?_
  repeat (go_big_quiet_step (first
    | (go_at_call 9; exact BW.call (alive_any _ (max_keep HM.out (BW.bel _))))
    | (go_at_call 14; first | with_reducible exact BW.same (match_at _ Z2.out z0 M1.out) | with_reducible exact BW.same (match_at _ Z2.out Z1.out M2.out))))
  refine wpQuiet_nil ?_
  rintro W ⟨x, rfl⟩
  have hx := x.bel
  go_wp2_with fail
  go_ret
  exact ⟨by simp, hx⟩
set_option maxHeartbeats 4000000 in
set_option maxRecDepth 100000 in
theorem below_slash (a b : ByteArray) (w : World) (ha : a.size ≤ 500) (hb : b.size ≤ 500) (hm : HasMax w) (h0 : 0 < b.size) (h1 : (((b[0]'h0).toNat : Int) == 47) = true) :
    Calls Tryd.prog 6 #[.string a, .string b] w fun e w' => e = .returned (.bool true) ∧ Below w.heap.size w w' := by
  have HM := Lib.hid hm
  have M1 := Lib.hid (below_one a b)
  have M2 := Lib.hid (below_two a b)
  have g0 : b.toList.isEmpty = false := by rw [← Bool.not_eq_true, empty_iff]; omega
  have g1 : b.toList ≠ [] := fun h => by rw [h] at g0; simp at g0
  have M3 := Lib.hid (show matchB (a ++ b) a = true by rw [below_any a b h0, ← at_get b 0 h0, h1]; simp)
  clear hm
  have k1 : ¬ (9223372036854775807 < a.size + 1) := by omega
  have k2 : ¬ (9223372036854775807 < a.size + 1 + b.size) := by omega
  have k3 : ¬ (9223372036854775807 < a.size + b.size) := by omega
  have z0 : a.size ≤ 9223372036854775807 := by omega
  have Z1 := Lib.hid (show (a ++ ({ data := #[47] } : ByteArray)).size ≤ 9223372036854775807 by rw [ByteArray.size_append]; show a.size + 1 ≤ _; omega)
  have Z2 := Lib.hid (show (a ++ ({ data := #[47] } : ByteArray) ++ b).size ≤ 9223372036854775807 by rw [ByteArray.size_append, ByteArray.size_append]; show a.size + 1 + b.size ≤ _; omega)
  have Z3 := Lib.hid (show (a ++ b).size ≤ 9223372036854775807 by rw [ByteArray.size_append]; omega)
  go_enter Tryd.func6, Tryd.ntmps6
  go_wp2_with fail
  refine wp_region_class (by kernel_rfl) (by kernel_rfl) ?_
  repeat (go_big_quiet_step (first
    | (go_at_call 9; exact BW.call (alive_any _ (max_keep HM.out (BW.bel _))))
    | (go_at_call 14; first | with_reducible exact BW.same (match_at _ Z2.out z0 M1.out) | with_reducible exact BW.same (match_at _ Z2.out Z1.out M2.out) | with_reducible exact BW.same (match_at _ Z3.out z0 M3.out))))
  refine wpQuiet_nil ?_
  rintro W ⟨x, rfl⟩
  have hx := x.bel
  go_wp2_with fail
  go_ret
  exact ⟨by simp, hx⟩
set_option maxHeartbeats 4000000 in
set_option maxRecDepth 100000 in
theorem below_bare (a b : ByteArray) (w : World) (ha : a.size ≤ 500) (hb : b.size ≤ 500) (hm : HasMax w) (h0 : 0 < b.size) (h1 : (((b[0]'h0).toNat : Int) == 47) = false) (h2 : a.size = 0) :
    Calls Tryd.prog 6 #[.string a, .string b] w fun e w' => e = .returned (.bool true) ∧ Below w.heap.size w w' := by
  have HM := Lib.hid hm
  have M1 := Lib.hid (below_one a b)
  have M2 := Lib.hid (below_two a b)
  have g0 : b.toList.isEmpty = false := by rw [← Bool.not_eq_true, empty_iff]; omega
  have g1 : b.toList ≠ [] := fun h => by rw [h] at g0; simp at g0
  have M3 := Lib.hid (show matchB (a ++ b) a = false by rw [below_any a b h0, ← at_get b 0 h0, h1, end_no h2]; rfl)
  have g2 : a.toList = [] := List.isEmpty_iff.1 ((empty_iff a).2 h2)
  clear h2
  clear hm
  have k1 : ¬ (9223372036854775807 < a.size + 1) := by omega
  have k2 : ¬ (9223372036854775807 < a.size + 1 + b.size) := by omega
  have k3 : ¬ (9223372036854775807 < a.size + b.size) := by omega
  have z0 : a.size ≤ 9223372036854775807 := by omega
  have Z1 := Lib.hid (show (a ++ ({ data := #[47] } : ByteArray)).size ≤ 9223372036854775807 by rw [ByteArray.size_append]; show a.size + 1 ≤ _; omega)
  have Z2 := Lib.hid (show (a ++ ({ data := #[47] } : ByteArray) ++ b).size ≤ 9223372036854775807 by rw [ByteArray.size_append, ByteArray.size_append]; show a.size + 1 + b.size ≤ _; omega)
  have Z3 := Lib.hid (show (a ++ b).size ≤ 9223372036854775807 by rw [ByteArray.size_append]; omega)
  go_enter Tryd.func6, Tryd.ntmps6
  go_wp2_with fail
  refine wp_region_class (by kernel_rfl) (by kernel_rfl) ?_
  repeat (go_big_quiet_step (first
    | (go_at_call 9; exact BW.call (alive_any _ (max_keep HM.out (BW.bel _))))
    | (go_at_call 14; first | with_reducible exact BW.same (match_at _ Z2.out z0 M1.out) | with_reducible exact BW.same (match_at _ Z2.out Z1.out M2.out) | with_reducible exact BW.same (match_at _ Z3.out z0 M3.out))))
  refine wpQuiet_nil ?_
  rintro W ⟨x, rfl⟩
  have hx := x.bel
  go_wp2_with fail
  go_ret
  exact ⟨by simp, hx⟩
set_option maxHeartbeats 4000000 in
set_option maxRecDepth 100000 in
theorem below_yes (a b : ByteArray) (w : World) (ha : a.size ≤ 500) (hb : b.size ≤ 500) (hm : HasMax w) (h0 : 0 < b.size) (h1 : (((b[0]'h0).toNat : Int) == 47) = false) (h2 : 0 < a.size) (h3 : a.size - 1 < a.size) (h4 : (((a[a.size - 1]'h3).toNat : Int) == 47) = true) :
    Calls Tryd.prog 6 #[.string a, .string b] w fun e w' => e = .returned (.bool true) ∧ Below w.heap.size w w' := by
  have HM := Lib.hid hm
  have M1 := Lib.hid (below_one a b)
  have M2 := Lib.hid (below_two a b)
  have g0 : b.toList.isEmpty = false := by rw [← Bool.not_eq_true, empty_iff]; omega
  have g1 : b.toList ≠ [] := fun h => by rw [h] at g0; simp at g0
  have g2 : a.toList.isEmpty = false := by rw [← Bool.not_eq_true, empty_iff]; omega
  have g3 : a.toList ≠ [] := fun h => by rw [h] at g2; simp at g2
  have k4 : (a.size : Int) - 1 < (a.size : Int) := by omega
  have k5 : (1 : Int) ≤ (a.size : Int) := by omega
  have M3 := Lib.hid (show matchB (a ++ b) a = true by rw [below_any a b h0, end_at a h2 h3, h4]; rfl)
  clear hm
  have k1 : ¬ (9223372036854775807 < a.size + 1) := by omega
  have k2 : ¬ (9223372036854775807 < a.size + 1 + b.size) := by omega
  have k3 : ¬ (9223372036854775807 < a.size + b.size) := by omega
  have z0 : a.size ≤ 9223372036854775807 := by omega
  have Z1 := Lib.hid (show (a ++ ({ data := #[47] } : ByteArray)).size ≤ 9223372036854775807 by rw [ByteArray.size_append]; show a.size + 1 ≤ _; omega)
  have Z2 := Lib.hid (show (a ++ ({ data := #[47] } : ByteArray) ++ b).size ≤ 9223372036854775807 by rw [ByteArray.size_append, ByteArray.size_append]; show a.size + 1 + b.size ≤ _; omega)
  have Z3 := Lib.hid (show (a ++ b).size ≤ 9223372036854775807 by rw [ByteArray.size_append]; omega)
  go_enter Tryd.func6, Tryd.ntmps6
  go_wp2_with fail
  refine wp_region_class (by kernel_rfl) (by kernel_rfl) ?_
  repeat (go_big_quiet_step (first
    | (go_at_call 9; exact BW.call (alive_any _ (max_keep HM.out (BW.bel _))))
    | (go_at_call 14; first | with_reducible exact BW.same (match_at _ Z2.out z0 M1.out) | with_reducible exact BW.same (match_at _ Z2.out Z1.out M2.out) | with_reducible exact BW.same (match_at _ Z3.out z0 M3.out))))
  refine wpQuiet_nil ?_
  rintro W ⟨x, rfl⟩
  have hx := x.bel
  go_wp2_with fail
  go_ret
  exact ⟨by simp, hx⟩
set_option maxHeartbeats 4000000 in
set_option maxRecDepth 100000 in
theorem below_no (a b : ByteArray) (w : World) (ha : a.size ≤ 500) (hb : b.size ≤ 500) (hm : HasMax w) (h0 : 0 < b.size) (h1 : (((b[0]'h0).toNat : Int) == 47) = false) (h2 : 0 < a.size) (h3 : a.size - 1 < a.size) (h4 : (((a[a.size - 1]'h3).toNat : Int) == 47) = false) :
    Calls Tryd.prog 6 #[.string a, .string b] w fun e w' => e = .returned (.bool true) ∧ Below w.heap.size w w' := by
  have HM := Lib.hid hm
  have M1 := Lib.hid (below_one a b)
  have M2 := Lib.hid (below_two a b)
  have g0 : b.toList.isEmpty = false := by rw [← Bool.not_eq_true, empty_iff]; omega
  have g1 : b.toList ≠ [] := fun h => by rw [h] at g0; simp at g0
  have g2 : a.toList.isEmpty = false := by rw [← Bool.not_eq_true, empty_iff]; omega
  have g3 : a.toList ≠ [] := fun h => by rw [h] at g2; simp at g2
  have k4 : (a.size : Int) - 1 < (a.size : Int) := by omega
  have k5 : (1 : Int) ≤ (a.size : Int) := by omega
  have M3 := Lib.hid (show matchB (a ++ b) a = false by rw [below_any a b h0, ← at_get b 0 h0, h1, end_at a h2 h3, h4]; rfl)
  clear hm
  have k1 : ¬ (9223372036854775807 < a.size + 1) := by omega
  have k2 : ¬ (9223372036854775807 < a.size + 1 + b.size) := by omega
  have k3 : ¬ (9223372036854775807 < a.size + b.size) := by omega
  have z0 : a.size ≤ 9223372036854775807 := by omega
  have Z1 := Lib.hid (show (a ++ ({ data := #[47] } : ByteArray)).size ≤ 9223372036854775807 by rw [ByteArray.size_append]; show a.size + 1 ≤ _; omega)
  have Z2 := Lib.hid (show (a ++ ({ data := #[47] } : ByteArray) ++ b).size ≤ 9223372036854775807 by rw [ByteArray.size_append, ByteArray.size_append]; show a.size + 1 + b.size ≤ _; omega)
  have Z3 := Lib.hid (show (a ++ b).size ≤ 9223372036854775807 by rw [ByteArray.size_append]; omega)
  go_enter Tryd.func6, Tryd.ntmps6
  go_wp2_with fail
  refine wp_region_class (by kernel_rfl) (by kernel_rfl) ?_
  repeat (go_big_quiet_step (first
    | (go_at_call 9; exact BW.call (alive_any _ (max_keep HM.out (BW.bel _))))
    | (go_at_call 14; first | with_reducible exact BW.same (match_at _ Z2.out z0 M1.out) | with_reducible exact BW.same (match_at _ Z2.out Z1.out M2.out) | with_reducible exact BW.same (match_at _ Z3.out z0 M3.out))))
  refine wpQuiet_nil ?_
  rintro W ⟨x, rfl⟩
  have hx := x.bel
  go_wp2_with fail
  go_ret
  exact ⟨by simp, hx⟩
set_option maxRecDepth 100000 in
theorem pathBelow_any (a b : ByteArray) (w : World) (_ : a.size ≤ 140737488351232) (_ : b.size ≤ 140737488351232) (hm : HasMax w) :
    Calls Tryd.prog 6 #[.string a, .string b] w fun e w' => e = .returned (.bool true) ∧ Below w.heap.size w w' := by
  by_cases hbig : 500 < a.size ∨ 500 < b.size
  · have HM := Lib.hid hm
    clear hm
    have hp : 500 < a.size ∨ (a.size ≤ 500 ∧ 500 < b.size) := by omega
    clear hbig
    rcases hp with h | ⟨h, h2⟩
    all_goals
      go_enter Tryd.func6, Tryd.ntmps6
      go_wp2_with fail
      refine (alive_any _ HM.out).mono ?_
      rintro e w1 ⟨rfl, hb1⟩
      go_wp2_with fail
      go_ret
      exact ⟨rfl, hb1⟩
  · have h1 : a.size ≤ 500 := by omega
    have h2 : b.size ≤ 500 := by omega
    by_cases h0 : 0 < b.size
    · cases hb : (((b[0]'h0).toNat : Int) == 47)
      · by_cases ha : 0 < a.size
        · have h3 : a.size - 1 < a.size := by omega
          cases h4 : (((a[a.size - 1]'h3).toNat : Int) == 47)
          · exact below_no a b w h1 h2 hm h0 hb ha h3 h4
          · exact below_yes a b w h1 h2 hm h0 hb ha h3 h4
        · exact below_bare a b w h1 h2 hm h0 hb (by omega)
      · exact below_slash a b w h1 h2 hm h0 hb
    · exact below_empty a b w h1 h2 hm (by omega)
end Go.Proofs.YtnjmhkehckhihaaDoor
