/- Contracts of the reference's calendar, second part: dates, days of the week, clocks. -/
import Derived.Test.YtfbildneagjccaaCivilR
namespace Go.Proofs.Ytfbildneagjccaa
open Go.RowKit

theorem rdate_no (n : Int) (w : World) (h : n < -719162 ∨ 2932897 ≤ n) : Calls Try.prog 55 #[.int .i64 n] w fun e w' => e = .returned (.tuple #[.int .i64 0, .int .i64 0, .int .i64 0, .bool false]) ∧ w = w' := by
  have h' : n < -719162 ∨ (-719162 ≤ n ∧ 2932896 < n) := by omega
  clear h
  rcases h' with h | ⟨h, h'⟩
  all_goals
    go_enter Try.func55, Try.ntmps55
    go_wp2_with fail
    refine bodyPost_ret (results_tmp4 rfl _ _ _) rfl ?_
    exact ⟨rfl, rfl⟩

set_option maxRecDepth 100000 in
theorem rdate_yes (n : Int) (w : World) (h1 : -719162 ≤ n) (h2 : n < 2932897) : Calls Try.prog 55 #[.int .i64 n] w (DateP n w) := by
  have A0 := Lib.hid ahead_1970
  have hd1 : decide (n < -719162) = false := by simp; omega
  have hd2 : decide (2932896 < n) = false := by simp; omega
  go_enter Try.func55, Try.ntmps55
  go_wp2_with fail
  go_loop [0, 6] (fun a t => ∃ r y : Int, 1 ≤ y ∧ y ≤ 1970 ∧ (r < 0 ∨ 0 ≤ r ∧ r ≤ 4000000) ∧ -719162 ≤ r ∧ r + ahead y - 719162 = n ∧ a = .int .i64 r ∧ t = .int .i64 y) (fun _ t => (intOf t).toNat)
  case atStart => exact ⟨n, 1970, by omega, by omega, by omega, by omega, by rw [A0.out]; omega, rfl, rfl⟩
  case round =>
    obtain ⟨r, y, hy1, hy2, hr0, hr1, hn, rfl, rfl⟩ := hrel
    have HN := Lib.hid hn
    have hr2 : r ≤ 4000000 := by omega
    clear hn hr0
    by_cases hlt : r < 0
    · have hy3 : 1 < y := by
        rcases Int.lt_or_le 1 y with h | h
        · exact h
        · have h8 := HN.out
          rw [show y = 1 by omega, ahead_1] at h8
          omega
      have HC := Lib.hid (ahead_succ (y - 1))
      obtain ⟨hm1, hm2⟩ := ylen_bd (y - 1)
      go_wp2_with (go_at_call 62; refine (rlong_any (y - 1) _).mono ?_; rintro e w' ⟨rfl, rfl⟩)
      go_round
      case rel => exact ⟨r + ylen (y - 1), y - 1, by omega, by omega, by omega, by omega, by have h8 := HC.out; have h9 := HN.out; rw [show y - 1 + 1 = y by omega] at h8; omega, rfl, rfl⟩
      case measure => simp [intOf]; omega
    · go_wp2_with fail
      go_loop [0, 6] (fun a t => ∃ r y : Int, 1 ≤ y ∧ y ≤ 9999 ∧ 0 ≤ r ∧ r ≤ 4000000 ∧ r + ahead y - 719162 = n ∧ a = .int .i64 r ∧ t = .int .i64 y) (fun a _ => (intOf a).toNat)
      case atStart => exact ⟨r, y, by omega, by omega, by omega, by omega, HN.out, rfl, rfl⟩
      case round =>
        clear HN hr1 hr2 hlt hy1 hy2
        obtain ⟨r, y, hy1, hy2, hr1, hr2, hn, rfl, rfl⟩ := hrel
        have HN := Lib.hid hn
        clear hn
        have HC := Lib.hid (ahead_succ y)
        obtain ⟨hm1, hm2⟩ := ylen_bd y
        by_cases hlt : ylen y ≤ r
        · have hy3 : y < 9999 := by
            rcases Int.lt_or_le y 9999 with h | h
            · exact h
            · have h8 := HN.out
              have h9 := HC.out
              rw [show y + 1 = 10000 by omega, ahead_10000] at h9
              omega
          go_wp2_with (go_at_call 62; refine (rlong_any y _).mono ?_; rintro e w' ⟨rfl, rfl⟩)
          go_round
          case rel => exact ⟨r - ylen y, y + 1, by omega, by omega, by omega, by omega, by have h8 := HC.out; have h9 := HN.out; omega, rfl, rfl⟩
          case measure => simp [intOf]; omega
        · have hlt' : decide (ylen y ≤ r) = false := by simp; omega
          have hr3 : r < ylen y := by omega
          go_wp2_with (go_at_call 62; refine (rlong_any y _).mono ?_; rintro e w' ⟨rfl, rfl⟩)
          clear hlt
          go_loop [0, 7] (fun a k => ∃ r' m : Int, 1 ≤ m ∧ m ≤ 12 ∧ 0 ≤ r' ∧ r' ≤ 400 ∧ cum (leapB y) m + r' < ylen y ∧ r' + cum (leapB y) m = r ∧ a = .int .i64 r' ∧ k = .int .i64 m) (fun _ k => (12 - intOf k).toNat)
          case atStart => exact ⟨r, 1, by omega, by omega, by omega, by omega, by rw [cum_1]; omega, by rw [cum_1]; omega, rfl, rfl⟩
          case round =>
            obtain ⟨q, m, hm3, hm4, hq1, hq2, hq3, hq, rfl, rfl⟩ := hrel
            have HQ := Lib.hid hq
            clear hq
            obtain ⟨cb1, cb2⟩ := cum_bd (leapB y) m hm3 (by omega)
            obtain ⟨lb1, lb2⟩ := lenI_bd y m
            have HC2 := Lib.hid (cum_succ (leapB y) m hm3 hm4)
            have HL := Lib.hid (lenI_in hy1 hy2 hm3 hm4)
            by_cases hc : lenI y m ≤ q
            · have hm5 : m < 12 := by
                rcases Int.lt_or_le m 12 with h | h
                · exact h
                · have h1 := HC2.out
                  have h2 := HL.out
                  rw [show m + 1 = 13 by omega, cum_13] at h1
                  unfold ylen at hq3
                  omega
              go_wp2_with (go_at_call 61; refine (rlen_any y m _).mono ?_; rintro e w' ⟨rfl, rfl⟩)
              go_round
              case rel => exact ⟨q - lenI y m, m + 1, by omega, by omega, by omega, by omega, by rw [HC2.out, ← HL.out]; omega, by rw [HC2.out, ← HL.out]; have := HQ.out; omega, rfl, rfl⟩
              case measure => simp [intOf]; omega
            · go_wp2_with (go_at_call 61; refine (rlen_any y m _).mono ?_; rintro e w' ⟨rfl, rfl⟩)
              refine bodyPost_ret (results_tmp4 rfl _ _ _) rfl ?_
              exact date_end hy1 hy2 hm3 hm4 hq1 (by omega) (by have := HQ.out; have := HN.out; omega)

theorem rwday_any (n : Int) (w : World) : Calls Try.prog 39 #[.int .i64 n] w fun e w' => e = .returned (.int .i64 (wday n)) ∧ w = w' := by
  obtain ⟨h1, h2, h3⟩ := tparts n 7 (by omega)
  have hb1 : -7 < n.tmod 7 := by omega
  have hb2 : n.tmod 7 < 7 := by omega
  by_cases h0 : n.tmod 7 < 0
  · have HW := Lib.hid (show wday n = (n.tmod 7 + 7 + 4) % 7 by unfold wday; omega)
    clear h1 h2 h3
    go_enter Try.func39, Try.ntmps39
    go_wp2
    go_ret
    exact ⟨ret_int (by rw [HW.out]), rfl⟩
  · have HW := Lib.hid (show wday n = (n.tmod 7 + 4) % 7 by unfold wday; omega)
    clear h1 h2 h3
    go_enter Try.func39, Try.ntmps39
    go_wp2
    go_ret
    exact ⟨ret_int (by rw [HW.out]), rfl⟩

set_option maxRecDepth 100000 in
theorem repoch_no (y m d h n s : Int) (w : World) (hn : ¬vclk y m d h n s) :
    Calls Try.prog 32 #[.agg #[.int .i64 y, .int .i64 m, .int .i64 d, .int .i64 h, .int .i64 n, .int .i64 s]] w fun e w' => e = .returned (.tuple #[.int .i64 0, .bool false]) ∧ Below w.heap.size w w' := by
  by_cases hv : vld y m d
  · have h1 := not_vclk hv hn
    rcases h1 with h1 | ⟨h1, h2⟩ | ⟨h1, h2, h3⟩ | ⟨h1, h2, h3, h4⟩ | ⟨h1, h2, h3, h4, h5⟩ | ⟨h1, h2, h3, h4, h5, h6⟩
    all_goals
      go_enter Try.func32, Try.ntmps32
      go_wp2_with fail
      refine (rdays_yes y m d _ hv).mono ?_
      rintro e w' ⟨rfl, rfl⟩
      go_wp2_with fail
      go_ret2
      exact ⟨rfl, (Below.refl _ w).alloc (Nat.le_refl _) _⟩
  · go_enter Try.func32, Try.ntmps32
    go_wp2_with fail
    refine (rdays_no y m d _ hv).mono ?_
    rintro e w' ⟨rfl, rfl⟩
    go_wp2_with fail
    go_ret2
    exact ⟨rfl, (Below.refl _ w).alloc (Nat.le_refl _) _⟩

set_option maxRecDepth 100000 in
theorem repoch_yes (y m d h n s : Int) (w : World) (hv : vclk y m d h n s) :
    Calls Try.prog 32 #[.agg #[.int .i64 y, .int .i64 m, .int .i64 d, .int .i64 h, .int .i64 n, .int .i64 s]] w fun e w' => e = .returned (.tuple #[.int .i64 (secs y m d h n s), .bool true]) ∧ Below w.heap.size w w' := by
  obtain ⟨hv, h1, h2, h3, h4, h5, h6⟩ := hv
  obtain ⟨hb1, hb2⟩ := num_bd hv
  go_enter Try.func32, Try.ntmps32
  go_wp2_with fail
  refine (rdays_yes y m d _ hv).mono ?_
  rintro e w' ⟨rfl, rfl⟩
  go_wp2_with fail
  go_ret2
  exact ⟨by rw [show secs y m d h n s = 86400 * num y m d + 3600 * h + 60 * n + s from rfl]; rfl, (Below.refl _ w).alloc (Nat.le_refl _) _⟩

theorem of_end2 {t q r y m d : Int} {w w' : World} (hv : vld y m d) (hn : num y m d = q) (h0 : 0 ≤ r) (h1 : r < 86400) (ht : t = 86400 * q + r) (hb : Below w.heap.size w w') :
    OfP t w (.returned (.tuple #[.agg #[.int .i64 y, .int .i64 m, .int .i64 d, .int .i64 (r / 3600), .int .i64 (r / 60 % 60), .int .i64 (r % 60)], .bool true])) w' :=
  ⟨y, m, d, r / 3600, r / 60 % 60, r % 60, rfl, ⟨hv, by omega, by omega, by omega, by omega, by omega, by omega⟩, by unfold secs; omega, hb⟩

set_option maxRecDepth 100000 in
theorem rof_no (t : Int) (w : World) (h : t < -62135596800 ∨ 253402300799 < t) : Calls Try.prog 38 #[.int .i64 t] w fun e w' => e = .returned (.tuple #[clkV 0 0 0 0 0 0, .bool false]) ∧ Below w.heap.size w w' := by
  have h' : t < -62135596800 ∨ (-62135596800 ≤ t ∧ 253402300799 < t) := by omega
  clear h
  rcases h' with h | ⟨h, h'⟩
  all_goals
    go_enter Try.func38, Try.ntmps38
    go_wp2_with fail
    exact bodyPost_ret (v := .tuple #[.agg #[.int .i64 0, .int .i64 0, .int .i64 0, .int .i64 0, .int .i64 0, .int .i64 0], .bool false]) (by simp [results, Try.results38, go_sem]) rfl ⟨rfl, (Below.refl _ _).alloc (Nat.le_refl _) _⟩

set_option maxRecDepth 100000 in
theorem rof_pos (t : Int) (w : World) (h1 : 0 ≤ t) (h2 : t ≤ 253402300799) : Calls Try.prog 38 #[.int .i64 t] w (OfP t w) := by
  have h3 : ¬ t < t / 86400 * 86400 := by omega
  go_enter Try.func38, Try.ntmps38
  go_wp2_with fail
  refine (rdate_yes _ _ (by omega) (by omega)).mono ?_
  rintro e w' ⟨y, m, d, rfl, hv, hn, rfl⟩
  have HN := Lib.hid hn
  clear hn
  go_wp2_with fail
  refine bodyPost_ret (v := .tuple #[.agg #[.int .i64 y, .int .i64 m, .int .i64 d, .int .i64 ((t - 86400 * (t / 86400)) / 3600), .int .i64 ((t - 86400 * (t / 86400)) / 60 % 60), .int .i64 ((t - 86400 * (t / 86400)) % 60)], .bool true]) (by simp [results, Try.results38, go_sem]) rfl ?_
  refine of_end2 hv HN.out (by omega) (by omega) (by omega) ?_
  exact (Below.refl _ _).alloc (Nat.le_refl _) _

set_option maxRecDepth 100000 in
theorem rof_neg (t : Int) (w : World) (h1 : -62135596800 ≤ t) (h2 : t < 0) (h3 : t.tmod 86400 < 0) : Calls Try.prog 38 #[.int .i64 t] w (OfP t w) := by
  obtain ⟨p1, -, p3⟩ := tparts t 86400 (by omega)
  have b1 : -86400 < t.tmod 86400 := (p3 h2).1
  have b2 : -720000 ≤ t.tdiv 86400 := by omega
  have b3 : t.tdiv 86400 ≤ 0 := by omega
  have b4 : t < t.tdiv 86400 * 86400 := by omega
  have HP := Lib.hid p1
  clear p1 p3
  go_enter Try.func38, Try.ntmps38
  go_wp2_with fail
  refine (rdate_yes _ _ (by have := HP.out; omega) (by omega)).mono ?_
  rintro e w' ⟨y, m, d, rfl, hv, hn, rfl⟩
  have HN := Lib.hid hn
  clear hn
  have b5 : 0 ≤ t - 86400 * (t.tdiv 86400 - 1) := by have := HP.out; omega
  have b6 : t - 86400 * (t.tdiv 86400 - 1) < 86400 := by have := HP.out; omega
  go_wp2_with fail
  refine bodyPost_ret (v := .tuple #[.agg #[.int .i64 y, .int .i64 m, .int .i64 d, .int .i64 ((t - 86400 * (t.tdiv 86400 - 1)) / 3600), .int .i64 ((t - 86400 * (t.tdiv 86400 - 1)) / 60 % 60), .int .i64 ((t - 86400 * (t.tdiv 86400 - 1)) % 60)], .bool true]) (by simp [results, Try.results38, go_sem]) rfl ?_
  refine of_end2 hv HN.out b5 b6 (by omega) ?_
  exact (Below.refl _ _).alloc (Nat.le_refl _) _

set_option maxRecDepth 100000 in
theorem rof_zero (t : Int) (w : World) (h1 : -62135596800 ≤ t) (h2 : t < 0) (h3 : t.tmod 86400 = 0) : Calls Try.prog 38 #[.int .i64 t] w (OfP t w) := by
  obtain ⟨p1, -, p3⟩ := tparts t 86400 (by omega)
  have b2 : -720000 ≤ t.tdiv 86400 := by omega
  have b3 : t.tdiv 86400 ≤ 0 := by omega
  have b4 : ¬ t < t.tdiv 86400 * 86400 := by omega
  have HP := Lib.hid p1
  have H3 := Lib.hid h3
  clear p1 p3 h3
  go_enter Try.func38, Try.ntmps38
  go_wp2_with fail
  refine (rdate_yes _ _ (by have := HP.out; have := H3.out; omega) (by omega)).mono ?_
  rintro e w' ⟨y, m, d, rfl, hv, hn, rfl⟩
  have HN := Lib.hid hn
  clear hn
  have b5 : 0 ≤ t - 86400 * t.tdiv 86400 := by have := HP.out; have := H3.out; omega
  have b6 : t - 86400 * t.tdiv 86400 < 86400 := by have := HP.out; have := H3.out; omega
  go_wp2_with fail
  refine bodyPost_ret (v := .tuple #[.agg #[.int .i64 y, .int .i64 m, .int .i64 d, .int .i64 ((t - 86400 * t.tdiv 86400) / 3600), .int .i64 ((t - 86400 * t.tdiv 86400) / 60 % 60), .int .i64 ((t - 86400 * t.tdiv 86400) % 60)], .bool true]) (by simp [results, Try.results38, go_sem]) rfl ?_
  refine of_end2 hv HN.out b5 b6 (by omega) ?_
  exact (Below.refl _ _).alloc (Nat.le_refl _) _

theorem rof_yes (t : Int) (w : World) (h1 : -62135596800 ≤ t) (h2 : t ≤ 253402300799) : Calls Try.prog 38 #[.int .i64 t] w (OfP t w) := by
  by_cases h0 : 0 ≤ t
  · exact rof_pos t w h0 h2
  · have h3 := ((tparts t 86400 (by omega)).2.2 (by omega)).2
    by_cases h4 : t.tmod 86400 = 0
    · exact rof_zero t w h1 (by omega) h4
    · exact rof_neg t w h1 (by omega) (by omega)
end Go.Proofs.Ytfbildneagjccaa
