/- The walks of the statements CivilNext and CivilWeekdays. -/
import Derived.Test.YtceadjdficcbbaaCivilA
import Derived.Test.YtceadjdficcbbaaCivilS
import Derived.OpenShut
namespace Go.Proofs.Ytceadjdficcbbaa
open Go.RowKit

theorem next_day {y m d a b c : Int} (h : vld y m d) (h' : vld a b c) (e : num a b c = num y m d + 1) :
    (d < lenI y m ∧ a = y ∧ b = m ∧ c = d + 1) ∨ (¬d < lenI y m ∧ m < 12 ∧ a = y ∧ b = m + 1 ∧ c = 1) ∨ (¬d < lenI y m ∧ ¬m < 12 ∧ m = 12 ∧ a = y + 1 ∧ b = 1 ∧ c = 1) := by
  have h0 := h
  obtain ⟨h1, h2, h3, h4, h5, h6⟩ := h
  rw [lenI_in h1 h2 h3 h4]
  by_cases hd : d < mlen (leapB y) m
  · obtain ⟨e1, e2, e3⟩ := num_inj h' (show vld y m (d + 1) from ⟨h1, h2, h3, h4, by omega, by omega⟩) (by rw [e]; unfold num; omega)
    exact .inl ⟨hd, e1, e2, e3⟩
  · have hc := cum_succ (leapB y) m h3 h4
    have hm := mlen_bd (leapB y) (m + 1)
    by_cases hm12 : m < 12
    · obtain ⟨e1, e2, e3⟩ := num_inj h' (show vld y (m + 1) 1 from ⟨h1, h2, by omega, by omega, by omega, by omega⟩) (by rw [e]; unfold num; omega)
      exact .inr (.inl ⟨hd, hm12, e1, e2, e3⟩)
    · have hm2 : m = 12 := by omega
      subst hm2
      have hy : y < 9999 := by
        rcases Int.lt_or_le y 9999 with h | h
        · exact h
        · have h9 := (num_bd h').2
          have h8 := ahead_succ y
          rw [show y + 1 = 10000 by omega, ahead_10000] at h8
          rw [show (12 : Int) + 1 = 13 by omega, cum_13] at hc
          rw [e] at h9
          unfold num at h9
          unfold ylen at h8
          omega
      have hs := ahead_succ y
      have hm3 := mlen_bd (leapB (y + 1)) 1
      obtain ⟨e1, e2, e3⟩ := num_inj h' (show vld (y + 1) 1 1 from ⟨by omega, by omega, by omega, by omega, by omega, by omega⟩) (by
        rw [e]
        rw [show (12 : Int) + 1 = 13 by omega, cum_13] at hc
        unfold num
        rw [cum_1]
        unfold ylen at hs
        omega)
      exact .inr (.inr ⟨hd, hm12, rfl, e1, e2, e3⟩)

set_option maxRecDepth 100000 in
theorem civilNext_far (n : Int) (w : World) (h : 1099511627776 < n) :
    Calls Try.prog 5 #[.int .i64 n] w fun e w' => e = .returned (.bool true) ∧ Below w.heap.size w w' := by
  go_enter Try.func5, Try.ntmps5
  go_wp2_with fail
  refine (alive_any _).mono ?_
  rintro e w1 ⟨rfl, hb⟩
  go_wp2_with fail
  go_ret
  exact ⟨by simp, hb⟩

set_option maxRecDepth 100000 in
theorem civilNext_none (n : Int) (w : World) (h0 : n ≤ 1099511627776) (h1 : -9223372036854775808 ≤ n) (h : n < -719163 ∨ 2932897 ≤ n) :
    Calls Try.prog 5 #[.int .i64 n] w fun e w' => e = .returned (.bool true) ∧ Below w.heap.size w w' := by
  have h2 : n + 1 < -719162 ∨ 2932897 ≤ n + 1 := by omega
  have h3 : n < -719162 ∨ 2932897 ≤ n := by omega
  go_enter Try.func5, Try.ntmps5
  go_wp2_with fail
  refine (date_no n _ h3).mono ?_
  rintro e w1 ⟨rfl, rfl⟩
  go_wp2_with fail
  refine (date_no (n + 1) _ h2).mono ?_
  rintro e w1 ⟨rfl, rfl⟩
  go_wp2_with fail
  refine (alive_any _).mono ?_
  rintro e w1 ⟨rfl, hb⟩
  go_wp2_with fail
  go_ret
  exact ⟨by simp, hb⟩

set_option maxRecDepth 100000 in
theorem civilNext_first (w : World) :
    Calls Try.prog 5 #[.int .i64 (-719163)] w fun e w' => e = .returned (.bool true) ∧ Below w.heap.size w w' := by
  go_enter Try.func5, Try.ntmps5
  go_wp2_with fail
  refine (date_no _ _ (by omega)).mono ?_
  rintro e w1 ⟨rfl, rfl⟩
  go_wp2_with fail
  refine (date_yes _ _ (by omega) (by omega)).mono ?_
  rintro e w1 ⟨y, m, d, rfl, hv, hn, rfl⟩
  clear hv hn
  go_wp2_with fail
  refine (alive_any _).mono ?_
  rintro e w1 ⟨rfl, hb⟩
  go_wp2_with fail
  go_ret
  exact ⟨by simp, hb⟩

set_option maxRecDepth 100000 in
theorem civilNext_last (w : World) :
    Calls Try.prog 5 #[.int .i64 2932896] w fun e w' => e = .returned (.bool true) ∧ Below w.heap.size w w' := by
  go_enter Try.func5, Try.ntmps5
  go_wp2_with fail
  refine (date_yes _ _ (by omega) (by omega)).mono ?_
  rintro e w1 ⟨y, m, d, rfl, hv, hn, rfl⟩
  clear hv hn
  go_wp2_with fail
  refine (date_no _ _ (by omega)).mono ?_
  rintro e w1 ⟨rfl, rfl⟩
  go_wp2_with fail
  refine (alive_any _).mono ?_
  rintro e w1 ⟨rfl, hb⟩
  go_wp2_with fail
  go_ret
  exact ⟨by simp, hb⟩

set_option maxRecDepth 100000 in
theorem civilNext_in (n : Int) (w : World) (h0 : -719162 ≤ n) (h1 : n < 2932896) :
    Calls Try.prog 5 #[.int .i64 n] w fun e w' => e = .returned (.bool true) ∧ Below w.heap.size w w' := by
  go_enter Try.func5, Try.ntmps5
  go_wp2_with fail
  refine (date_yes n _ (by omega) (by omega)).mono ?_
  rintro e w1 ⟨y, m, d, rfl, hv, hn, rfl⟩
  have HN := Lib.hid hn
  clear hn
  go_wp2_with fail
  refine (date_yes (n + 1) _ (by omega) (by omega)).mono ?_
  rintro e w1 ⟨a, b, c, rfl, hv', hn', rfl⟩
  have hx := next_day hv hv' (by rw [hn', HN.out])
  clear hn' HN
  have hd1 := hv.2.2.2.2.1
  have hd2 := (vld_len.1 hv).2
  have hd3 := (lenI_bd y m).2
  have hy1 := hv.1
  have hy2 := hv.2.1
  have hm1 := hv.2.2.1
  have hm2 := hv.2.2.2.1
  clear hv hv'
  rcases hx with ⟨k1, rfl, rfl, rfl⟩ | ⟨k1, k2, rfl, rfl, rfl⟩ | ⟨k1, k2, rfl, rfl, rfl, rfl⟩
  all_goals
    go_wp2_with fail
    refine (len_any _ _ _).mono ?_
    rintro e w1 ⟨rfl, rfl⟩
    go_wp2_with fail
    refine (alive_any _).mono ?_
    rintro e w1 ⟨rfl, hb⟩
    go_wp2_with fail
    go_ret
    exact ⟨by simp, hb⟩

theorem civilNext_any (n : Int) (w : World) (h : (Lit.int .i64 n).wf = true) :
    Calls Try.prog 5 #[.int .i64 n] w fun e w' => e = .returned (.bool true) ∧ Below w.heap.size w w' := by
  have hw : -9223372036854775808 ≤ n := (bounds_i64 h).1
  by_cases h1 : 1099511627776 < n
  · exact civilNext_far n w h1
  · by_cases h2 : n < -719163 ∨ 2932897 ≤ n
    · exact civilNext_none n w (by omega) hw h2
    · by_cases h3 : n = -719163
      · subst h3; exact civilNext_first w
      · by_cases h4 : n = 2932896
        · subst h4; exact civilNext_last w
        · exact civilNext_in n w (by omega) (by omega)

theorem wday_next (n : Int) : 0 ≤ wday n ∧ wday n < 7 ∧ wday (n + 7) = wday n ∧ wday (n + 1) = (wday n + 1) % 7 := by unfold wday; omega

set_option maxRecDepth 100000 in
theorem civilWeekdays_far (n : Int) (w : World) (h : 1152921504606846976 < n ∨ (¬1152921504606846976 < n ∧ n < -1152921504606846976)) :
    Calls Try.prog 6 #[.int .i64 n] w fun e w' => e = .returned (.bool true) ∧ Below w.heap.size w w' := by
  rcases h with h | ⟨h, h'⟩
  all_goals
    go_enter Try.func6, Try.ntmps6
    go_wp2_with fail
    refine (wday_any n _).mono ?_
    rintro e w1 ⟨rfl, rfl⟩
    go_wp2_with fail
    refine (alive_any _).mono ?_
    rintro e w1 ⟨rfl, hb⟩
    go_wp2_with fail
    refine (rwday_any n _).mono ?_
    rintro e w2 ⟨rfl, rfl⟩
    go_wp2_with fail
    go_ret
    exact ⟨by simp, hb⟩
set_option maxRecDepth 100000 in
theorem civilWeekdays_in (n : Int) (w : World) (h1 : n ≤ 1152921504606846976) (h2 : -1152921504606846976 ≤ n) :
    Calls Try.prog 6 #[.int .i64 n] w fun e w' => e = .returned (.bool true) ∧ Below w.heap.size w w' := by
  obtain ⟨k1, k2, k3, k4⟩ := wday_next n
  have K3 := Lib.hid k3
  have K4 := Lib.hid k4
  clear k3 k4
  go_enter Try.func6, Try.ntmps6
  go_wp2_with fail
  refine (wday_any n _).mono ?_
  rintro e w1 ⟨rfl, rfl⟩
  go_wp2_with fail
  refine (alive_any _).mono ?_
  rintro e w1 ⟨rfl, hb⟩
  go_wp2_with fail
  refine (rwday_any n _).mono ?_
  rintro e w2 ⟨rfl, rfl⟩
  go_wp2_with fail
  refine (wday_any (n + 7) _).mono ?_
  rintro e w2 ⟨rfl, rfl⟩
  rw [K3.out]
  go_wp2_with fail
  refine (wday_any (n + 1) _).mono ?_
  rintro e w2 ⟨rfl, rfl⟩
  rw [K4.out]
  go_wp2_with fail
  go_ret
  exact ⟨by simp, hb⟩
theorem civilWeekdays_any (n : Int) (w : World) (_ : (Lit.int .i64 n).wf = true) :
    Calls Try.prog 6 #[.int .i64 n] w fun e w' => e = .returned (.bool true) ∧ Below w.heap.size w w' := by
  by_cases h : 1152921504606846976 < n ∨ (¬1152921504606846976 < n ∧ n < -1152921504606846976)
  · exact civilWeekdays_far n w h
  · exact civilWeekdays_in n w (by omega) (by omega)
end Go.Proofs.Ytceadjdficcbbaa
