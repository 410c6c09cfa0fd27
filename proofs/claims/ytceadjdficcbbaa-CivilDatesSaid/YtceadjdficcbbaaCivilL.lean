/- The walks of the statements CivilDays, CivilDates, CivilNext and CivilWeekdays. -/
import Derived.Test.YtceadjdficcbbaaCivilA
import Derived.Test.YtceadjdficcbbaaCivilS
namespace Go.Proofs.Ytceadjdficcbbaa
open Go.RowKit

set_option maxRecDepth 100000 in
theorem civilDays_any (y m d : Int) (w : World) (_ : (Lit.int .i64 y).wf = true) (_ : (Lit.int .i64 m).wf = true) (_ : (Lit.int .i64 d).wf = true) :
    Calls Try.prog 3 #[.int .i64 y, .int .i64 m, .int .i64 d] w fun e w' => e = .returned (.bool true) ∧ Below w.heap.size w w' := by
  by_cases hv : vld y m d
  · have HV := Lib.hid hv
    go_enter Try.func3, Try.ntmps3
    go_wp2_with fail
    refine (days_yes y m d _ hv).mono ?_
    rintro e w1 ⟨rfl, rfl⟩
    go_wp2_with fail
    refine (rdays_yes y m d _ hv).mono ?_
    rintro e w1 ⟨rfl, rfl⟩
    go_wp2_with fail
    refine (date_yes (num y m d) _ (num_bd hv).1 (by have := (num_bd hv).2; omega)).mono ?_
    rintro e w1 ⟨y', m', d', rfl, hv', hn, rfl⟩
    obtain ⟨rfl, rfl, rfl⟩ := num_inj hv' HV.out hn
    clear hn hv' hv
    go_wp2_with fail
    refine (alive_any _).mono ?_
    rintro e w1 ⟨rfl, hb⟩
    go_wp2_with fail
    refine (len_any y' m' _).mono ?_
    rintro e w2 ⟨rfl, rfl⟩
    go_wp2_with fail
    refine (rlen_any y' m' _).mono ?_
    rintro e w2 ⟨rfl, rfl⟩
    go_wp2_with fail
    refine (leap_any y' _).mono ?_
    rintro e w2 ⟨rfl, rfl⟩
    go_wp2_with fail
    refine (rleap_any y' _).mono ?_
    rintro e w2 ⟨rfl, rfl⟩
    go_wp2_with fail
    go_ret
    exact ⟨by simp, hb⟩
  · go_enter Try.func3, Try.ntmps3
    go_wp2_with fail
    refine (days_no y m d _ hv).mono ?_
    rintro e w1 ⟨rfl, rfl⟩
    go_wp2_with fail
    refine (rdays_no y m d _ hv).mono ?_
    rintro e w1 ⟨rfl, rfl⟩
    go_wp2_with fail
    refine (date_yes 0 _ (by omega) (by omega)).mono ?_
    rintro e w1 ⟨y', m', d', rfl, hv', hn, rfl⟩
    clear hn hv' hv
    go_wp2_with fail
    refine (alive_any _).mono ?_
    rintro e w1 ⟨rfl, hb⟩
    go_wp2_with fail
    refine (len_any y m _).mono ?_
    rintro e w2 ⟨rfl, rfl⟩
    go_wp2_with fail
    refine (rlen_any y m _).mono ?_
    rintro e w2 ⟨rfl, rfl⟩
    go_wp2_with fail
    refine (leap_any y _).mono ?_
    rintro e w2 ⟨rfl, rfl⟩
    go_wp2_with fail
    refine (rleap_any y _).mono ?_
    rintro e w2 ⟨rfl, rfl⟩
    go_wp2_with fail
    go_ret
    exact ⟨by simp, hb⟩

set_option maxRecDepth 100000 in
theorem civilDates_any (n : Int) (w : World) (_ : (Lit.int .i64 n).wf = true) :
    Calls Try.prog 4 #[.int .i64 n] w fun e w' => e = .returned (.bool true) ∧ Below w.heap.size w w' := by
  by_cases h : -719162 ≤ n ∧ n < 2932897
  · obtain ⟨h1, h2⟩ := h
    go_enter Try.func4, Try.ntmps4
    go_wp2_with fail
    refine (date_yes n _ h1 h2).mono ?_
    rintro e w1 ⟨y, m, d, rfl, hv, hn, rfl⟩
    have HN := Lib.hid hn
    clear hn
    go_wp2_with fail
    refine (rdate_yes n _ h1 h2).mono ?_
    rintro e w1 ⟨y', m', d', rfl, hv', hn', rfl⟩
    obtain ⟨rfl, rfl, rfl⟩ := num_inj hv' hv (hn'.trans HN.out.symm)
    clear hn' hv'
    go_wp2_with fail
    refine (days_yes y' m' d' _ hv).mono ?_
    rintro e w1 ⟨rfl, rfl⟩
    rw [HN.out]
    go_wp2_with fail
    refine (alive_any _).mono ?_
    rintro e w1 ⟨rfl, hb⟩
    go_wp2_with fail
    go_ret
    exact ⟨by simp, hb⟩
  · have h' : n < -719162 ∨ 2932897 ≤ n := by omega
    clear h
    go_enter Try.func4, Try.ntmps4
    go_wp2_with fail
    refine (date_no n _ h').mono ?_
    rintro e w1 ⟨rfl, rfl⟩
    go_wp2_with fail
    refine (rdate_no n _ h').mono ?_
    rintro e w1 ⟨rfl, rfl⟩
    go_wp2_with fail
    refine (days_no 0 0 0 _ (by unfold vld; omega)).mono ?_
    rintro e w1 ⟨rfl, rfl⟩
    go_wp2_with fail
    refine (alive_any _).mono ?_
    rintro e w1 ⟨rfl, hb⟩
    go_wp2_with fail
    go_ret
    exact ⟨by simp, hb⟩
end Go.Proofs.Ytceadjdficcbbaa
