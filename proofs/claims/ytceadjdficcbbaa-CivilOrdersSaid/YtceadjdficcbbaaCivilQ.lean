/- The walk of the statement CivilOrders. -/
import Derived.Test.YtceadjdficcbbaaCivilP
namespace Go.Proofs.Ytceadjdficcbbaa
open Go.RowKit

theorem epoch_any (y m d h n s : Int) (w : World) :
    Calls Try.prog 21 #[.agg #[.int .i64 y, .int .i64 m, .int .i64 d, .int .i64 h, .int .i64 n, .int .i64 s]] w fun e w' => ∃ t is, e = .returned (.tuple #[.int .i64 t, .bool is]) ∧ ((is = true ∧ vclk y m d h n s ∧ t = secs y m d h n s) ∨ is = false) ∧ Below w.heap.size w w' := by
  by_cases hv : vclk y m d h n s
  · refine (epoch_yes y m d h n s w hv).mono ?_
    rintro e w' ⟨rfl, hb⟩
    exact ⟨_, _, rfl, .inl ⟨rfl, hv, rfl⟩, hb⟩
  · refine (epoch_no y m d h n s w hv).mono ?_
    rintro e w' ⟨rfl, hb⟩
    exact ⟨_, _, rfl, .inr rfl, hb⟩

theorem clt_secs {y m d h n s y' m' d' h' n' s' : Int} (v : vclk y m d h n s) (v' : vclk y' m' d' h' n' s') : clt y m d h n s y' m' d' h' n' s' ↔ secs y m d h n s < secs y' m' d' h' n' s' := by
  constructor
  · exact secs_lt v v'
  · intro hlt
    by_cases h1 : clt y m d h n s y' m' d' h' n' s'
    · exact h1
    · by_cases h2 : clt y' m' d' h' n' s' y m d h n s
      · have := secs_lt v' v h2; omega
      · have : y = y' ∧ m = m' ∧ d = d' ∧ h = h' ∧ n = n' ∧ s = s' := by unfold clt dlt at h1 h2; omega
        obtain ⟨rfl, rfl, rfl, rfl, rfl, rfl⟩ := this
        omega

set_option maxRecDepth 100000 in
theorem civilOrders_walk (y m d h n s y' m' d' h' n' s' : Int) (w : World) :
    Calls Try.prog 9 #[.agg #[.int .i64 y, .int .i64 m, .int .i64 d, .int .i64 h, .int .i64 n, .int .i64 s], .agg #[.int .i64 y', .int .i64 m', .int .i64 d', .int .i64 h', .int .i64 n', .int .i64 s']] w fun e w' => e = .returned (.bool true) ∧ Below w.heap.size w w' := by
  go_enter Try.func9, Try.ntmps9
  go_wp2_with fail
  refine (epoch_any y m d h n s _).mono ?_
  rintro e w1 ⟨t, is, rfl, h1, hb1⟩
  have H1 := Lib.hid h1
  clear h1
  obtain ⟨hc1, hf1⟩ := bcell hb1
  have hz1 : w.heap.size < w1.heap.size := by have := hb1.size; simp at this; omega
  have hz1' : w.heap.size + 1 < w1.heap.size := by have := hb1.size; simp at this; omega
  go_wp2_with fail
  refine (epoch_any y' m' d' h' n' s' _).mono ?_
  rintro e w2 ⟨t', is', rfl, h2, hb2⟩
  have H2 := Lib.hid h2
  clear h2
  obtain ⟨hc2, hf2⟩ := bcell hb2
  have hz2 : w.heap.size < w2.heap.size := Nat.lt_of_lt_of_le hz1 hb2.size
  have hz2' : w.heap.size + 1 < w2.heap.size := Nat.lt_of_lt_of_le hz1' hb2.size
  go_wp2_with fail
  refine (alive_any _).mono ?_
  rintro e w3 ⟨rfl, hb3⟩
  obtain ⟨hc3, hf3⟩ := bcell hb3
  have hz3 : w.heap.size < w3.heap.size := Nat.lt_of_lt_of_le hz2 hb3.size
  have hz3' : w.heap.size + 1 < w3.heap.size := Nat.lt_of_lt_of_le hz2' hb3.size
  have hB3 : Below w.heap.size w w3 := Below.snoc (Below.snoc (Below.snoc (Below.box (Below.box (Below.refl _ _) _) _) hb1) hb2) hb3
  cases is
  · go_wp2_with fail
    go_ret
    exact ⟨by simp, hB3⟩
  · cases is'
    · go_wp2_with fail
      go_ret
      exact ⟨by simp, hB3⟩
    · have hk1 : vclk y m d h n s ∧ t = secs y m d h n s := by
        rcases H1.out with ⟨-, h1, h2⟩ | h
        · exact ⟨h1, h2⟩
        · cases h
      have hk2 : vclk y' m' d' h' n' s' ∧ t' = secs y' m' d' h' n' s' := by
        rcases H2.out with ⟨-, h1, h2⟩ | h
        · exact ⟨h1, h2⟩
        · cases h
      have HK1 := Lib.hid hk1
      have HK2 := Lib.hid hk2
      clear hk1 hk2 H1 H2
      go_wp2_with fail
      refine (later_any _ _ _ _ _ _ _ _ _ _ _ _ _).mono ?_
      rintro e w4 ⟨r, rfl, hr, hb4⟩
      have HR : Hid (decide (t' < t) = r) := Lib.hid (by
        obtain ⟨v1, e1⟩ := HK1.out
        obtain ⟨v2, e2⟩ := HK2.out
        rw [clt_secs v2 v1] at hr
        rw [Bool.eq_iff_iff, hr, e1, e2]
        simp)
      clear hr
      obtain ⟨hc4, hf4⟩ := bcell hb4
      have hz4 : w.heap.size < w4.heap.size := Nat.lt_of_lt_of_le hz3 hb4.size
      have hz4' : w.heap.size + 1 < w4.heap.size := Nat.lt_of_lt_of_le hz3' hb4.size
      have hr1 : (decide (t' < t) == r) = true := by rw [HR.out]; simp
      go_wp2_with fail
      refine (later_any _ _ _ _ _ _ _ _ _ _ _ _ _).mono ?_
      rintro e w5 ⟨r2, rfl, hr2, hb5⟩
      have hr3 : (decide (t < t') == r2) = true := by
        obtain ⟨v1, e1⟩ := HK1.out
        obtain ⟨v2, e2⟩ := HK2.out
        rw [clt_secs v1 v2] at hr2
        rw [beq_iff_eq, Bool.eq_iff_iff, hr2, e1, e2]
        simp
      clear hr2
      go_wp2_with fail
      go_ret
      exact ⟨by simp, Below.snoc (Below.snoc hB3 hb4) hb5⟩
end Go.Proofs.Ytceadjdficcbbaa
