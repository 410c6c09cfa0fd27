/- Contracts of the program's calendar, third part: days of the week, clocks and their seconds. -/
import Derived.Test.YtngamlikhgilhaaDoorCivilB
namespace Go.Proofs.YtngamlikhgilhaaDoor
open Go.RowKit

theorem tparts (t b : Int) (_hb : 0 < b) : t = b * t.tdiv b + t.tmod b ∧ (0 ≤ t → 0 ≤ t.tmod b ∧ t.tmod b < b) ∧ (t < 0 → -b < t.tmod b ∧ t.tmod b ≤ 0) := by
  refine ⟨(Int.mul_tdiv_add_tmod t b).symm, fun h => ⟨Int.tmod_nonneg _ h, Int.tmod_lt_of_pos _ _hb⟩, fun h => ?_⟩
  have h1 : (-t).tmod b = -(t.tmod b) := Int.neg_tmod t b
  have h2 := Int.tmod_nonneg (a := -t) b (by omega)
  have h3 := Int.tmod_lt_of_pos (-t) _hb
  omega

theorem wday_any (n : Int) (w : World) : Calls Tryd.prog 64 #[.int .i64 n] w fun e w' => e = .returned (.int .i64 (wday n)) ∧ w = w' := by
  obtain ⟨h1, h2, h3⟩ := tparts n 7 (by omega)
  have hb1 : -7 < n.tmod 7 := by omega
  have hb2 : n.tmod 7 < 7 := by omega
  have HW := Lib.hid (show wday n = (n.tmod 7 + 11) % 7 by unfold wday; omega)
  clear h1 h2 h3
  go_enter Tryd.func64, Tryd.ntmps64
  go_wp2
  go_ret
  exact ⟨ret_int (by rw [HW.out]), rfl⟩

theorem not_vclk {y m d h n s : Int} (hv : vld y m d) (hn : ¬vclk y m d h n s) : h < 0 ∨ (0 ≤ h ∧ 23 < h) ∨ (0 ≤ h ∧ h ≤ 23 ∧ n < 0) ∨ (0 ≤ h ∧ h ≤ 23 ∧ 0 ≤ n ∧ 59 < n) ∨ (0 ≤ h ∧ h ≤ 23 ∧ 0 ≤ n ∧ n ≤ 59 ∧ s < 0) ∨ (0 ≤ h ∧ h ≤ 23 ∧ 0 ≤ n ∧ n ≤ 59 ∧ 0 ≤ s ∧ 59 < s) := by
  unfold vclk at hn
  have : ¬(0 ≤ h ∧ h ≤ 23 ∧ 0 ≤ n ∧ n ≤ 59 ∧ 0 ≤ s ∧ s ≤ 59) := fun h1 => hn ⟨hv, h1⟩
  omega

set_option maxRecDepth 100000 in
theorem epoch_no (y m d h n s : Int) (w : World) (hn : ¬vclk y m d h n s) :
    Calls Tryd.prog 32 #[.agg #[.int .i64 y, .int .i64 m, .int .i64 d, .int .i64 h, .int .i64 n, .int .i64 s]] w fun e w' => e = .returned (.tuple #[.int .i64 0, .bool false]) ∧ Below w.heap.size w w' := by
  by_cases hv : vld y m d
  · have h1 := not_vclk hv hn
    rcases h1 with h1 | ⟨h1, h2⟩ | ⟨h1, h2, h3⟩ | ⟨h1, h2, h3, h4⟩ | ⟨h1, h2, h3, h4, h5⟩ | ⟨h1, h2, h3, h4, h5, h6⟩
    all_goals
      go_enter Tryd.func32, Tryd.ntmps32
      go_wp2_with fail
      refine (days_yes y m d _ hv).mono ?_
      rintro e w' ⟨rfl, rfl⟩
      go_wp2_with fail
      go_ret2
      exact ⟨rfl, (Below.refl _ w).alloc (Nat.le_refl _) _⟩
  · go_enter Tryd.func32, Tryd.ntmps32
    go_wp2_with fail
    refine (days_no y m d _ hv).mono ?_
    rintro e w' ⟨rfl, rfl⟩
    go_wp2_with fail
    go_ret2
    exact ⟨rfl, (Below.refl _ w).alloc (Nat.le_refl _) _⟩

set_option maxRecDepth 100000 in
theorem epoch_yes (y m d h n s : Int) (w : World) (hv : vclk y m d h n s) :
    Calls Tryd.prog 32 #[.agg #[.int .i64 y, .int .i64 m, .int .i64 d, .int .i64 h, .int .i64 n, .int .i64 s]] w fun e w' => e = .returned (.tuple #[.int .i64 (secs y m d h n s), .bool true]) ∧ Below w.heap.size w w' := by
  have HS := Lib.hid (rfl : secs y m d h n s = 86400 * num y m d + 3600 * h + 60 * n + s)
  obtain ⟨hv, h1, h2, h3, h4, h5, h6⟩ := hv
  obtain ⟨hb1, hb2⟩ := num_bd hv
  go_enter Tryd.func32, Tryd.ntmps32
  go_wp2_with fail
  refine (days_yes y m d _ hv).mono ?_
  rintro e w' ⟨rfl, rfl⟩
  go_wp2_with fail
  go_ret2
  exact ⟨by rw [show secs y m d h n s = 86400 * num y m d + 3600 * h + 60 * n + s from rfl]; rfl, (Below.refl _ w).alloc (Nat.le_refl _) _⟩

/-- The value of a clock. -/
def clkV (y m d h n s : Int) : Value := .agg #[.int .i64 y, .int .i64 m, .int .i64 d, .int .i64 h, .int .i64 n, .int .i64 s]
/-- What seconds tell. -/
def OfP (t : Int) (w : World) (e : Ending) (w' : World) : Prop := ∃ y m d h n s : Int, e = .returned (.tuple #[clkV y m d h n s, .bool true]) ∧ vclk y m d h n s ∧ secs y m d h n s = t ∧ Below w.heap.size w w'

theorem of_end {t q r y m d : Int} {w w' : World} (hv : vld y m d) (hn : num y m d = q) (h0 : 0 ≤ r) (h1 : r < 86400) (ht : t = 86400 * q + r) (hb : Below w.heap.size w w') :
    OfP t w (.returned (.tuple #[.agg #[.int .i64 y, .int .i64 m, .int .i64 d, .int .i64 (r / 3600), .int .i64 (r % 3600 / 60), .int .i64 (r % 60)], .bool true])) w' :=
  ⟨y, m, d, r / 3600, r % 3600 / 60, r % 60, rfl, ⟨hv, by omega, by omega, by omega, by omega, by omega, by omega⟩, by unfold secs; omega, hb⟩

set_option maxRecDepth 100000 in
theorem of_pos (t : Int) (w : World) (h1 : 0 ≤ t) (h2 : t ≤ 253402300799) : Calls Tryd.prog 82 #[.int .i64 t] w (OfP t w) := by
  go_enter Tryd.func82, Tryd.ntmps82
  go_wp2_with fail
  refine (date_yes _ _ (by omega) (by omega)).mono ?_
  rintro e w' ⟨y, m, d, rfl, hv, hn, rfl⟩
  have HN := Lib.hid hn
  clear hn
  go_wp2_with fail
  refine bodyPost_ret (v := .tuple #[.agg #[.int .i64 y, .int .i64 m, .int .i64 d, .int .i64 (t % 86400 / 3600), .int .i64 (t % 86400 % 3600 / 60), .int .i64 (t % 86400 % 60)], .bool true]) (by simp [results, Tryd.results82, go_sem]) rfl ?_
  refine of_end hv HN.out (by omega) (by omega) (by omega) ?_
  exact (Below.refl _ _).alloc (Nat.le_refl _) _

set_option maxRecDepth 100000 in
theorem of_neg (t : Int) (w : World) (h1 : -62135596800 ≤ t) (h2 : t < 0) (h3 : t.tmod 86400 < 0) : Calls Tryd.prog 82 #[.int .i64 t] w (OfP t w) := by
  obtain ⟨p1, -, p3⟩ := tparts t 86400 (by omega)
  have b1 : -86400 < t.tmod 86400 := (p3 h2).1
  have b2 : -720000 ≤ t.tdiv 86400 := by omega
  have b3 : t.tdiv 86400 ≤ 0 := by omega
  have HP := Lib.hid p1
  clear p1 p3
  go_enter Tryd.func82, Tryd.ntmps82
  go_wp2_with fail
  refine (date_yes _ _ (by have := HP.out; omega) (by omega)).mono ?_
  rintro e w' ⟨y, m, d, rfl, hv, hn, rfl⟩
  have HN := Lib.hid hn
  clear hn
  go_wp2_with fail
  refine bodyPost_ret (v := .tuple #[.agg #[.int .i64 y, .int .i64 m, .int .i64 d, .int .i64 ((t.tmod 86400 + 86400) / 3600), .int .i64 ((t.tmod 86400 + 86400) % 3600 / 60), .int .i64 ((t.tmod 86400 + 86400) % 60)], .bool true]) (by simp [results, Tryd.results82, go_sem]) rfl ?_
  refine of_end hv HN.out (by omega) (by omega) (by have := HP.out; omega) ?_
  exact (Below.refl _ _).alloc (Nat.le_refl _) _

set_option maxRecDepth 100000 in
theorem of_zero (t : Int) (w : World) (h1 : -62135596800 ≤ t) (h2 : t < 0) (h3 : t.tmod 86400 = 0) : Calls Tryd.prog 82 #[.int .i64 t] w (OfP t w) := by
  obtain ⟨p1, -, p3⟩ := tparts t 86400 (by omega)
  have b2 : -720000 ≤ t.tdiv 86400 := by omega
  have b3 : t.tdiv 86400 ≤ 0 := by omega
  have HP := Lib.hid p1
  clear p1 p3
  go_enter Tryd.func82, Tryd.ntmps82
  go_wp2_with fail
  refine (date_yes _ _ (by have := HP.out; omega) (by omega)).mono ?_
  rintro e w' ⟨y, m, d, rfl, hv, hn, rfl⟩
  have HN := Lib.hid hn
  clear hn
  go_wp2_with fail
  refine bodyPost_ret (v := .tuple #[.agg #[.int .i64 y, .int .i64 m, .int .i64 d, .int .i64 (0 / 3600), .int .i64 (0 % 3600 / 60), .int .i64 (0 % 60)], .bool true]) (by simp [results, Tryd.results82, go_sem]) rfl ?_
  refine of_end hv HN.out (by omega) (by omega) (by have := HP.out; omega) ?_
  exact (Below.refl _ _).alloc (Nat.le_refl _) _

theorem of_yes (t : Int) (w : World) (h1 : -62135596800 ≤ t) (h2 : t ≤ 253402300799) : Calls Tryd.prog 82 #[.int .i64 t] w (OfP t w) := by
  by_cases h0 : 0 ≤ t
  · exact of_pos t w h0 h2
  · have h3 := ((tparts t 86400 (by omega)).2.2 (by omega)).2
    by_cases h4 : t.tmod 86400 = 0
    · exact of_zero t w h1 (by omega) h4
    · exact of_neg t w h1 (by omega) (by omega)

set_option maxRecDepth 100000 in
theorem of_no (t : Int) (w : World) (h : t < -62135596800 ∨ 253402300799 < t) (hw : -9223372036854775808 ≤ t ∧ t ≤ 9223372036854775807) : Calls Tryd.prog 82 #[.int .i64 t] w fun e w' => e = .returned (.tuple #[clkV 0 0 0 0 0 0, .bool false]) ∧ Below w.heap.size w w' := by
  obtain ⟨p1, p2, p3⟩ := tparts t 86400 (by omega)
  have h' : 253402300799 < t ∨ (t < -62135596800 ∧ t.tmod 86400 < 0) ∨ (t < -62135596800 ∧ t.tmod 86400 = 0) := by
    rcases h with h | h
    · have := p3 (by omega); omega
    · exact .inl h
  clear h
  rcases h' with h | ⟨h, h3⟩ | ⟨h, h3⟩
  · have h0 := p2 (by omega)
    have b1 : t.tdiv 86400 ≤ 200000000000000 := by omega
    have b2 : 2932897 ≤ t.tdiv 86400 := by omega
    clear p1 p2 p3 hw h0
    go_enter Tryd.func82, Tryd.ntmps82
    go_wp2_with fail
    refine (date_no _ _ (by omega)).mono ?_
    rintro e w' ⟨rfl, rfl⟩
    go_wp2_with fail
    exact bodyPost_ret (v := .tuple #[.agg #[.int .i64 0, .int .i64 0, .int .i64 0, .int .i64 0, .int .i64 0, .int .i64 0], .bool false]) (by simp [results, Tryd.results82, go_sem]) rfl ⟨rfl, (Below.refl _ _).alloc (Nat.le_refl _) _⟩
  · have b1 : -86400 < t.tmod 86400 := (p3 (by omega)).1
    have b2 : -200000000000000 ≤ t.tdiv 86400 := by omega
    have b3 : t.tdiv 86400 ≤ 0 := by omega
    have b4 : t.tdiv 86400 - 1 < -719162 := by omega
    clear p1 p2 p3 hw
    go_enter Tryd.func82, Tryd.ntmps82
    go_wp2_with fail
    refine (date_no _ _ (by omega)).mono ?_
    rintro e w' ⟨rfl, rfl⟩
    go_wp2_with fail
    exact bodyPost_ret (v := .tuple #[.agg #[.int .i64 0, .int .i64 0, .int .i64 0, .int .i64 0, .int .i64 0, .int .i64 0], .bool false]) (by simp [results, Tryd.results82, go_sem]) rfl ⟨rfl, (Below.refl _ _).alloc (Nat.le_refl _) _⟩
  · have b2 : -200000000000000 ≤ t.tdiv 86400 := by omega
    have b4 : t.tdiv 86400 < -719162 := by omega
    clear p1 p2 p3 hw
    go_enter Tryd.func82, Tryd.ntmps82
    go_wp2_with fail
    refine (date_no _ _ (by omega)).mono ?_
    rintro e w' ⟨rfl, rfl⟩
    go_wp2_with fail
    exact bodyPost_ret (v := .tuple #[.agg #[.int .i64 0, .int .i64 0, .int .i64 0, .int .i64 0, .int .i64 0, .int .i64 0], .bool false]) (by simp [results, Tryd.results82, go_sem]) rfl ⟨rfl, (Below.refl _ _).alloc (Nat.le_refl _) _⟩
end Go.Proofs.YtngamlikhgilhaaDoor
