/- Walk: DateCookies. -/
import Derived.Test.YtfbildneagjccaaDateZC
import Derived.Test.YtfbildneagjccaaDateP
namespace Go.Proofs.Ytfbildneagjccaa
open Go.RowKit

set_option maxHeartbeats 1000000 in
set_option maxRecDepth 100000 in
theorem dateCookies_any (s : ByteArray) (w : World) (_ : s.size ≤ 140737488351232) :
    Calls Try.prog 3 #[.string s] w fun e w' => e = .returned (.bool true) ∧ Below w.heap.size w w' := by
  by_cases hbig : 1000 < s.size
  · go_enter Try.func3, Try.ntmps3
    go_wp2_with fail
    refine (dalive_any _).mono ?_
    rintro e w1 ⟨rfl, hb1⟩
    go_wp2_with fail
    go_ret
    exact ⟨rfl, hb1⟩
  · obtain ⟨t, b, hc⟩ := cookie_two s
    have HC := Lib.hid hc
    clear hc
    go_enter Try.func3, Try.ntmps3
    go_wp2_with fail
    refine (cookie_any s _ (by omega)).mono ?_
    rintro e w1 ⟨rfl, hb1⟩
    rw [HC.out]
    go_wp2_with fail
    refine (rcookie_any s _ (by omega)).mono ?_
    rintro e w2 ⟨rfl, hb2⟩
    rw [HC.out]
    go_wp2_with fail
    refine (dalive_any _).mono ?_
    rintro e w4 ⟨rfl, hb4⟩
    have hB := Bsnoc (Bsnoc hb1 hb2) hb4
    clear hb1 hb2 hb4
    go_wp2_with fail
    go_ret
    exact ⟨by simp, hB⟩
end Go.Proofs.Ytfbildneagjccaa
