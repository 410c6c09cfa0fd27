/- The first part of the statements' work: the function alive comes to true. -/
import Derived.Test.YtceadjdficcbbaaCivilC
namespace Go.Proofs.Ytceadjdficcbbaa
open Go.RowKit

set_option maxRecDepth 100000 in
theorem alive_any (w : World) : Calls Try.prog 13 #[] w fun e w' => e = .returned (.bool true) ∧ Below w.heap.size w w' := by
  go_enter Try.func13, Try.ntmps13
  go_wp2_with fail
  refine (days_yes 2000 3 1 _ (by unfold vld; decide)).mono ?_
  rintro e w1 ⟨rfl, rfl⟩
  rw [show num 2000 3 1 = 11017 by decide]
  go_wp2_with fail
  refine (date_yes (-1) _ (by omega) (by omega)).mono ?_
  rintro e w1 ⟨y, m, d, rfl, hv, hn, rfl⟩
  obtain ⟨rfl, rfl, rfl⟩ := num_inj hv (show vld 1969 12 31 by unfold vld; decide) (by rw [hn]; decide)
  clear hv hn
  go_wp2_with fail
  refine (days_no 2001 2 29 _ (by unfold vld; decide)).mono ?_
  rintro e w1 ⟨rfl, rfl⟩
  go_wp2_with fail
  refine (epoch_yes 9999 12 31 23 59 59 _ (by unfold vclk vld; decide)).mono ?_
  rintro e w1 ⟨rfl, hb1⟩
  rw [show secs 9999 12 31 23 59 59 = 253402300799 by decide]
  go_wp2_with fail
  refine (of_yes (-1) _ (by omega) (by omega)).mono ?_
  rintro e w2 ⟨y, m, d, h, n, s, rfl, hv, hs, hb2⟩
  obtain ⟨rfl, rfl, rfl, rfl, rfl, rfl⟩ := secs_inj hv (show vclk 1969 12 31 23 59 59 by unfold vclk vld; decide) (by rw [hs]; decide)
  clear hv hs
  have hb3 : Below w.heap.size w w2 := hb1.trans (hb2.mono hb1.size)
  clear hb1 hb2
  simp only [clkV]
  go_wp2_with fail
  refine (leap_any 2000 _).mono ?_
  rintro e w3 ⟨rfl, rfl⟩
  rw [show leapB 2000 = true by decide]
  go_wp2_with fail
  refine (leap_any 1900 _).mono ?_
  rintro e w3 ⟨rfl, rfl⟩
  rw [show leapB 1900 = false by decide]
  go_wp2_with fail
  refine (len_any 2004 2 _).mono ?_
  rintro e w3 ⟨rfl, rfl⟩
  rw [show lenI 2004 2 = 29 by decide]
  go_wp2_with fail
  refine (wday_any 0 _).mono ?_
  rintro e w3 ⟨rfl, rfl⟩
  rw [show wday 0 = 4 by decide]
  go_wp2_with fail
  refine (wday_any (-5) _).mono ?_
  rintro e w3 ⟨rfl, rfl⟩
  rw [show wday (-5) = 6 by decide]
  go_wp2_with fail
  go_ret
  exact ⟨rfl, hb3.alloc hb3.size _⟩
end Go.Proofs.Ytceadjdficcbbaa
