/- Contracts of the reference's calendar (package cracknelref09): what each function hands back, for all arguments. -/
import Derived.Test.YtfbildneagjccaaCivilC
namespace Go.Proofs.Ytfbildneagjccaa
open Go.RowKit

set_option maxRecDepth 100000 in
theorem rleap_any (y : Int) (w : World) : Calls Try.prog 66 #[.int .i64 y] w fun e w' => e = .returned (.bool (leapB y)) ∧ w = w' := by
  cases h1 : (y.tmod 4 == 0) <;> cases h2 : (y.tmod 100 == 0) <;> cases h3 : (y.tmod 400 == 0)
  all_goals
    have h2n : (y.tmod 100 != 0) = !(y.tmod 100 == 0) := rfl
    rw [h2] at h2n
    simp only [Bool.not_true, Bool.not_false] at h2n
    go_enter Try.func66, Try.ntmps66
    go_wp2
    go_ret
    exact ⟨by simp [leapB, h1, h2, h3], rfl⟩

theorem rlong_any (y : Int) (w : World) : Calls Try.prog 62 #[.int .i64 y] w fun e w' => e = .returned (.int .i64 (ylen y)) ∧ w = w' := by
  cases hb : leapB y
  all_goals
    have HY := Lib.hid (show ylen y = if leapB y then 366 else 365 from rfl)
    have HB := Lib.hid hb
    clear hb
    go_enter Try.func62, Try.ntmps62
    go_wp2_with fail
    refine (rleap_any y _).mono ?_
    rintro e w' ⟨rfl, rfl⟩
    rw [HB.out]
    go_wp2_with fail
    go_ret
    exact ⟨by unfold ylen; rw [HB.out]; rfl, rfl⟩

theorem rlen_out (y m : Int) (w : World) (h : ¬(1 ≤ y ∧ y ≤ 9999)) : Calls Try.prog 61 #[.int .i64 y, .int .i64 m] w fun e w' => e = .returned (.int .i64 (lenI y m)) ∧ w = w' := by
  have HL := Lib.hid (show lenI y m = 0 from if_neg (by omega))
  have h' : y < 1 ∨ (1 ≤ y ∧ 9999 < y) := by omega
  clear h
  rcases h' with h | ⟨h, h'⟩
  all_goals
    go_enter Try.func61, Try.ntmps61
    go_wp2
    go_ret
    exact ⟨by rw [HL.out]; rfl, rfl⟩
theorem rlen_odd (y m : Int) (w : World) (h1 : 1 ≤ y) (h2 : y ≤ 9999) (h : m < 1 ∨ 12 < m) : Calls Try.prog 61 #[.int .i64 y, .int .i64 m] w fun e w' => e = .returned (.int .i64 (lenI y m)) ∧ w = w' := by
  have HL := Lib.hid (show lenI y m = 0 from if_neg (by omega))
  have e1 : (m == 1) = false := beq_eq_false_iff_ne.2 (by omega)
  have e2 : (m == 2) = false := beq_eq_false_iff_ne.2 (by omega)
  have e3 : (m == 3) = false := beq_eq_false_iff_ne.2 (by omega)
  have e4 : (m == 4) = false := beq_eq_false_iff_ne.2 (by omega)
  have e5 : (m == 5) = false := beq_eq_false_iff_ne.2 (by omega)
  have e6 : (m == 6) = false := beq_eq_false_iff_ne.2 (by omega)
  have e7 : (m == 7) = false := beq_eq_false_iff_ne.2 (by omega)
  have e8 : (m == 8) = false := beq_eq_false_iff_ne.2 (by omega)
  have e9 : (m == 9) = false := beq_eq_false_iff_ne.2 (by omega)
  have e10 : (m == 10) = false := beq_eq_false_iff_ne.2 (by omega)
  have e11 : (m == 11) = false := beq_eq_false_iff_ne.2 (by omega)
  have e12 : (m == 12) = false := beq_eq_false_iff_ne.2 (by omega)
  clear h
  go_enter Try.func61, Try.ntmps61
  go_wp2
  go_ret
  exact ⟨by rw [HL.out]; rfl, rfl⟩

theorem rlen_1 (y : Int) (w : World) (h1 : 1 ≤ y) (h2 : y ≤ 9999) : Calls Try.prog 61 #[.int .i64 y, .int .i64 1] w fun e w' => e = .returned (.int .i64 (lenI y 1)) ∧ w = w' := by
  have HL := Lib.hid (lenI_in h1 h2 (by omega) (by omega : (1 : Int) ≤ 12))
  go_enter Try.func61, Try.ntmps61
  go_wp2_with fail
  go_ret
  exact ⟨by rw [HL.out]; rfl, rfl⟩

theorem rlen_2 (y : Int) (w : World) (h1 : 1 ≤ y) (h2 : y ≤ 9999) : Calls Try.prog 61 #[.int .i64 y, .int .i64 2] w fun e w' => e = .returned (.int .i64 (lenI y 2)) ∧ w = w' := by
  have HL := Lib.hid (lenI_in h1 h2 (by omega) (by omega : (2 : Int) ≤ 12))
  cases hb : leapB y
  all_goals
    have HB := Lib.hid hb
    clear hb
    go_enter Try.func61, Try.ntmps61
    go_wp2_with fail
    refine (rleap_any y _).mono ?_
    rintro e w' ⟨rfl, rfl⟩
    rw [HB.out]
    go_wp2_with fail
    go_ret
    exact ⟨by rw [HL.out, HB.out]; rfl, rfl⟩

theorem rlen_3 (y : Int) (w : World) (h1 : 1 ≤ y) (h2 : y ≤ 9999) : Calls Try.prog 61 #[.int .i64 y, .int .i64 3] w fun e w' => e = .returned (.int .i64 (lenI y 3)) ∧ w = w' := by
  have HL := Lib.hid (lenI_in h1 h2 (by omega) (by omega : (3 : Int) ≤ 12))
  go_enter Try.func61, Try.ntmps61
  go_wp2_with fail
  go_ret
  exact ⟨by rw [HL.out]; rfl, rfl⟩

theorem rlen_4 (y : Int) (w : World) (h1 : 1 ≤ y) (h2 : y ≤ 9999) : Calls Try.prog 61 #[.int .i64 y, .int .i64 4] w fun e w' => e = .returned (.int .i64 (lenI y 4)) ∧ w = w' := by
  have HL := Lib.hid (lenI_in h1 h2 (by omega) (by omega : (4 : Int) ≤ 12))
  go_enter Try.func61, Try.ntmps61
  go_wp2_with fail
  go_ret
  exact ⟨by rw [HL.out]; rfl, rfl⟩

theorem rlen_5 (y : Int) (w : World) (h1 : 1 ≤ y) (h2 : y ≤ 9999) : Calls Try.prog 61 #[.int .i64 y, .int .i64 5] w fun e w' => e = .returned (.int .i64 (lenI y 5)) ∧ w = w' := by
  have HL := Lib.hid (lenI_in h1 h2 (by omega) (by omega : (5 : Int) ≤ 12))
  go_enter Try.func61, Try.ntmps61
  go_wp2_with fail
  go_ret
  exact ⟨by rw [HL.out]; rfl, rfl⟩

theorem rlen_6 (y : Int) (w : World) (h1 : 1 ≤ y) (h2 : y ≤ 9999) : Calls Try.prog 61 #[.int .i64 y, .int .i64 6] w fun e w' => e = .returned (.int .i64 (lenI y 6)) ∧ w = w' := by
  have HL := Lib.hid (lenI_in h1 h2 (by omega) (by omega : (6 : Int) ≤ 12))
  go_enter Try.func61, Try.ntmps61
  go_wp2_with fail
  go_ret
  exact ⟨by rw [HL.out]; rfl, rfl⟩

theorem rlen_7 (y : Int) (w : World) (h1 : 1 ≤ y) (h2 : y ≤ 9999) : Calls Try.prog 61 #[.int .i64 y, .int .i64 7] w fun e w' => e = .returned (.int .i64 (lenI y 7)) ∧ w = w' := by
  have HL := Lib.hid (lenI_in h1 h2 (by omega) (by omega : (7 : Int) ≤ 12))
  go_enter Try.func61, Try.ntmps61
  go_wp2_with fail
  go_ret
  exact ⟨by rw [HL.out]; rfl, rfl⟩

theorem rlen_8 (y : Int) (w : World) (h1 : 1 ≤ y) (h2 : y ≤ 9999) : Calls Try.prog 61 #[.int .i64 y, .int .i64 8] w fun e w' => e = .returned (.int .i64 (lenI y 8)) ∧ w = w' := by
  have HL := Lib.hid (lenI_in h1 h2 (by omega) (by omega : (8 : Int) ≤ 12))
  go_enter Try.func61, Try.ntmps61
  go_wp2_with fail
  go_ret
  exact ⟨by rw [HL.out]; rfl, rfl⟩

theorem rlen_9 (y : Int) (w : World) (h1 : 1 ≤ y) (h2 : y ≤ 9999) : Calls Try.prog 61 #[.int .i64 y, .int .i64 9] w fun e w' => e = .returned (.int .i64 (lenI y 9)) ∧ w = w' := by
  have HL := Lib.hid (lenI_in h1 h2 (by omega) (by omega : (9 : Int) ≤ 12))
  go_enter Try.func61, Try.ntmps61
  go_wp2_with fail
  go_ret
  exact ⟨by rw [HL.out]; rfl, rfl⟩

theorem rlen_10 (y : Int) (w : World) (h1 : 1 ≤ y) (h2 : y ≤ 9999) : Calls Try.prog 61 #[.int .i64 y, .int .i64 10] w fun e w' => e = .returned (.int .i64 (lenI y 10)) ∧ w = w' := by
  have HL := Lib.hid (lenI_in h1 h2 (by omega) (by omega : (10 : Int) ≤ 12))
  go_enter Try.func61, Try.ntmps61
  go_wp2_with fail
  go_ret
  exact ⟨by rw [HL.out]; rfl, rfl⟩

theorem rlen_11 (y : Int) (w : World) (h1 : 1 ≤ y) (h2 : y ≤ 9999) : Calls Try.prog 61 #[.int .i64 y, .int .i64 11] w fun e w' => e = .returned (.int .i64 (lenI y 11)) ∧ w = w' := by
  have HL := Lib.hid (lenI_in h1 h2 (by omega) (by omega : (11 : Int) ≤ 12))
  go_enter Try.func61, Try.ntmps61
  go_wp2_with fail
  go_ret
  exact ⟨by rw [HL.out]; rfl, rfl⟩

theorem rlen_12 (y : Int) (w : World) (h1 : 1 ≤ y) (h2 : y ≤ 9999) : Calls Try.prog 61 #[.int .i64 y, .int .i64 12] w fun e w' => e = .returned (.int .i64 (lenI y 12)) ∧ w = w' := by
  have HL := Lib.hid (lenI_in h1 h2 (by omega) (by omega : (12 : Int) ≤ 12))
  go_enter Try.func61, Try.ntmps61
  go_wp2_with fail
  go_ret
  exact ⟨by rw [HL.out]; rfl, rfl⟩

theorem rlen_any (y m : Int) (w : World) : Calls Try.prog 61 #[.int .i64 y, .int .i64 m] w fun e w' => e = .returned (.int .i64 (lenI y m)) ∧ w = w' := by
  by_cases h : 1 ≤ y ∧ y ≤ 9999
  · obtain ⟨h1, h2⟩ := h
    have h5 : (m < 1 ∨ 12 < m) ∨ m = 1 ∨ m = 2 ∨ m = 3 ∨ m = 4 ∨ m = 5 ∨ m = 6 ∨ m = 7 ∨ m = 8 ∨ m = 9 ∨ m = 10 ∨ m = 11 ∨ m = 12 := by omega
    rcases h5 with h5 | rfl | rfl | rfl | rfl | rfl | rfl | rfl | rfl | rfl | rfl | rfl | rfl
    · exact rlen_odd y m w h1 h2 h5
    · exact rlen_1 y w h1 h2
    · exact rlen_2 y w h1 h2
    · exact rlen_3 y w h1 h2
    · exact rlen_4 y w h1 h2
    · exact rlen_5 y w h1 h2
    · exact rlen_6 y w h1 h2
    · exact rlen_7 y w h1 h2
    · exact rlen_8 y w h1 h2
    · exact rlen_9 y w h1 h2
    · exact rlen_10 y w h1 h2
    · exact rlen_11 y w h1 h2
    · exact rlen_12 y w h1 h2
  · exact rlen_out y m w h

theorem rdays_no (y m d : Int) (w : World) (h : ¬vld y m d) : Calls Try.prog 51 #[.int .i64 y, .int .i64 m, .int .i64 d] w fun e w' => e = .returned (.tuple #[.int .i64 0, .bool false]) ∧ w = w' := by
  have h' : d < 1 ∨ (1 ≤ d ∧ lenI y m < d) := by rw [vld_len] at h; omega
  clear h
  rcases h' with h | ⟨h, h'⟩
  · go_enter Try.func51, Try.ntmps51
    go_wp2_with fail
    go_ret2
    exact ⟨rfl, rfl⟩
  · go_enter Try.func51, Try.ntmps51
    go_wp2_with fail
    refine (rlen_any y m _).mono ?_
    rintro e w' ⟨rfl, rfl⟩
    go_wp2_with fail
    go_ret2
    exact ⟨rfl, rfl⟩

set_option maxRecDepth 100000 in
theorem rdays_yes (y m d : Int) (w : World) (h : vld y m d) : Calls Try.prog 51 #[.int .i64 y, .int .i64 m, .int .i64 d] w fun e w' => e = .returned (.tuple #[.int .i64 (num y m d), .bool true]) ∧ w = w' := by
  obtain ⟨h5, h6⟩ := vld_len.1 h
  have h6' : ¬ lenI y m < d := by omega
  obtain ⟨h1, h2, h3, h4, -, -⟩ := h
  have hl := (lenI_bd y m).2
  have HN := Lib.hid (show num y m d = ahead y + d - 1 - 719162 + cum (leapB y) m by unfold num; omega)
  have A0 := Lib.hid ahead_1970
  go_enter Try.func51, Try.ntmps51
  go_wp2_with fail
  refine (rlen_any y m _).mono ?_
  rintro e w' ⟨rfl, rfl⟩
  go_wp2_with fail
  go_loop [8, 9] (fun n i => ∃ k r : Int, 1970 ≤ k ∧ (k ≤ y ∨ k = 1970) ∧ i = .int .i64 k ∧ r = d - 1 + ahead k - 719162 ∧ n = .int .i64 r) (fun _ i => (y - intOf i).toNat)
  case atStart => exact ⟨1970, d - 1, by omega, by omega, rfl, by rw [A0.out]; omega, rfl⟩
  case round =>
    obtain ⟨k, r, hk1, hk2, rfl, hr, rfl⟩ := hrel
    have HR := Lib.hid hr
    obtain ⟨ha1, ha2⟩ := ahead_bd (show 1 ≤ k by omega) (show k ≤ 10000 by omega)
    have hr1 : -800000 ≤ r := by omega
    have hr2 : r ≤ 4000000 := by omega
    clear hr
    by_cases hlt : k < y
    · have HC := Lib.hid (ahead_succ k)
      obtain ⟨hm1, hm2⟩ := ylen_bd k
      go_wp2_with (go_at_call 62; refine (rlong_any k _).mono ?_; rintro e w' ⟨rfl, rfl⟩)
      go_round
      case rel => exact ⟨k + 1, r + ylen k, by omega, by omega, rfl, by rw [HC.out]; have := HR.out; omega, rfl⟩
      case measure => simp [intOf]; omega
    · go_wp2_with fail
      go_loop [8, 10] (fun n i => ∃ j q : Int, y ≤ j ∧ 1 ≤ j ∧ (j ≤ 1970 ∨ j = y) ∧ i = .int .i64 j ∧ q = r - ahead (if 1970 ≤ j then 1970 else j) + ahead (if 1970 ≤ y then 1970 else y) + 0 * j ∧ n = .int .i64 q) (fun _ i => (1970 - intOf i).toNat)
      case atStart => exact ⟨y, r, by omega, by omega, by omega, rfl, by omega, rfl⟩
      case round =>
        obtain ⟨j, q, hj1, hj0, hj2, rfl, hq, rfl⟩ := hrel
        have HQ := Lib.hid hq
        have hq1 : -5000000 ≤ q := by
          have := ahead_bd (y := if 1970 ≤ j then 1970 else j) (by split <;> omega) (by split <;> omega)
          have := ahead_bd (y := if 1970 ≤ y then 1970 else y) (by split <;> omega) (by split <;> omega)
          omega
        have hq2 : q ≤ 9000000 := by
          have := ahead_bd (y := if 1970 ≤ j then 1970 else j) (by split <;> omega) (by split <;> omega)
          have := ahead_bd (y := if 1970 ≤ y then 1970 else y) (by split <;> omega) (by split <;> omega)
          omega
        clear hq
        by_cases hlt2 : j < 1970
        · have HC := Lib.hid (ahead_succ j)
          obtain ⟨hm1, hm2⟩ := ylen_bd j
          go_wp2_with (go_at_call 62; refine (rlong_any j _).mono ?_; rintro e w' ⟨rfl, rfl⟩)
          go_round
          case rel =>
            refine ⟨j + 1, q - ylen j, by omega, by omega, by omega, rfl, ?_, rfl⟩
            have h7 := HQ.out
            rw [if_neg (by omega : ¬(1970 ≤ j))] at h7
            have h8 : (if 1970 ≤ j + 1 then (1970 : Int) else j + 1) = j + 1 := by split <;> omega
            rw [h8, HC.out]
            omega
          case measure => simp [intOf]; omega
        · have HZ := Lib.hid (show q = d - 1 - 719162 + ahead y by
            have h7 := HQ.out
            have h8 := HR.out
            rw [if_pos (by omega : 1970 ≤ j)] at h7
            by_cases h9 : 1970 ≤ y
            · rw [if_pos h9] at h7
              rw [show y = k by omega]
              omega
            · rw [if_neg h9] at h7
              rw [show k = 1970 by omega] at h8
              omega)
          clear HQ HR
          go_wp2_with fail
          go_loop [8, 11] (fun n i => ∃ k q' : Int, 1 ≤ k ∧ k ≤ m ∧ i = .int .i64 k ∧ q' = q + cum (leapB y) k ∧ n = .int .i64 q') (fun _ i => (m - intOf i).toNat)
          case atStart => exact ⟨1, q, by omega, by omega, rfl, by rw [cum_1]; omega, rfl⟩
          case round =>
            obtain ⟨k, q', hk1, hk2, rfl, hq', rfl⟩ := hrel
            obtain ⟨hc1, hc2⟩ := cum_bd (leapB y) k hk1 (by omega)
            have HQ' := Lib.hid hq'
            have hq3 : -6000000 ≤ q' := by omega
            have hq4 : q' ≤ 10000000 := by omega
            clear hq'
            by_cases hlt3 : k < m
            · have HC := Lib.hid (cum_succ (leapB y) k hk1 (by omega))
              have HL := Lib.hid (lenI_in h1 h2 hk1 (by omega : k ≤ 12))
              obtain ⟨hm1, hm2⟩ := lenI_bd y k
              go_wp2_with (go_at_call 61; refine (rlen_any y k _).mono ?_; rintro e w' ⟨rfl, rfl⟩)
              go_round
              case rel => exact ⟨k + 1, q' + lenI y k, by omega, by omega, rfl, by rw [HC.out, HL.out]; have := HQ'.out; omega, rfl⟩
              case measure => simp [intOf]; omega
            · go_wp2_with fail
              go_ret2
              exact ⟨by rw [HN.out, show q' = ahead y + d - 1 - 719162 + cum (leapB y) m by rw [HQ'.out, HZ.out, show k = m by omega]; omega]; rfl, rfl⟩
end Go.Proofs.Ytfbildneagjccaa
