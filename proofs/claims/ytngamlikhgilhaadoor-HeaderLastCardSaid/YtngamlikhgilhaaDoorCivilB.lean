/- Contracts of the program's calendar, second part: days and dates. -/
import Derived.Test.YtngamlikhgilhaaDoorCivil
import Derived.Deep.LoopGhost
import Derived.WalkMore
namespace Go.Proofs.YtngamlikhgilhaaDoor
open Go.RowKit

theorem ahead_any (y : Int) (w : World) (h1 : 1 ≤ y) (h2 : y ≤ 10000) : Calls Tryd.prog 75 #[.int .i64 y] w fun e w' => e = .returned (.int .i64 (ahead y)) ∧ w = w' := by
  go_enter Tryd.func75, Tryd.ntmps75
  go_wp2
  go_ret
  exact ⟨ret_int (by unfold ahead; omega), rfl⟩

theorem days_no (y m d : Int) (w : World) (h : ¬vld y m d) : Calls Tryd.prog 51 #[.int .i64 y, .int .i64 m, .int .i64 d] w fun e w' => e = .returned (.tuple #[.int .i64 0, .bool false]) ∧ w = w' := by
  have h' : d < 1 ∨ (1 ≤ d ∧ lenI y m < d) := by rw [vld_len] at h; omega
  clear h
  rcases h' with h | ⟨h, h'⟩
  · go_enter Tryd.func51, Tryd.ntmps51
    go_wp2_with fail
    go_ret2
    exact ⟨rfl, rfl⟩
  · go_enter Tryd.func51, Tryd.ntmps51
    go_wp2_with fail
    refine (len_any y m _).mono ?_
    rintro e w' ⟨rfl, rfl⟩
    go_wp2_with fail
    go_ret2
    exact ⟨rfl, rfl⟩

set_option maxRecDepth 100000 in
theorem days_yes (y m d : Int) (w : World) (h : vld y m d) : Calls Tryd.prog 51 #[.int .i64 y, .int .i64 m, .int .i64 d] w fun e w' => e = .returned (.tuple #[.int .i64 (num y m d), .bool true]) ∧ w = w' := by
  obtain ⟨h5, h6⟩ := vld_len.1 h
  have h6' : ¬ lenI y m < d := by omega
  obtain ⟨h1, h2, h3, h4, -, -⟩ := h
  obtain ⟨h7, h8⟩ := ahead_bd h1 (by omega)
  have hl := (lenI_bd y m).2
  have HN := Lib.hid (show num y m d = ahead y + d - 1 - 719162 + cum (leapB y) m by unfold num; omega)
  go_enter Tryd.func51, Tryd.ntmps51
  go_wp2_with fail
  refine (len_any y m _).mono ?_
  rintro e w' ⟨rfl, rfl⟩
  go_wp2_with fail
  refine (ahead_any y _ h1 (by omega)).mono ?_
  rintro e w' ⟨rfl, rfl⟩
  go_wp2_with fail
  go_loop [8, 9] (fun n i => ∃ k : Int, 1 ≤ k ∧ k ≤ m ∧ i = .int .i64 k ∧ n = .int .i64 (ahead y + d - 1 - 719162 + cum (leapB y) k)) (fun _ i => (m - intOf i).toNat)
  case atStart => exact ⟨1, by omega, by omega, rfl, by rw [cum_1]; simp⟩
  case round =>
    obtain ⟨k, hk1, hk2, rfl, rfl⟩ := hrel
    obtain ⟨hc1, hc2⟩ := cum_bd (leapB y) k hk1 (by omega)
    by_cases hlt : k < m
    · have HC := Lib.hid (cum_succ (leapB y) k hk1 (by omega))
      have HL := Lib.hid (lenI_in h1 h2 hk1 (by omega : k ≤ 12))
      obtain ⟨hm1, hm2⟩ := lenI_bd y k
      go_wp2_with (go_at_call 74; refine (len_any y k _).mono ?_; rintro e w' ⟨rfl, rfl⟩)
      go_round
      case rel => exact ⟨k + 1, by omega, by omega, rfl, by rw [HC.out, HL.out]; congr 1; omega⟩
      case measure => simp [intOf]; omega
    · obtain rfl : k = m := by omega
      go_wp2_with fail
      go_ret2
      exact ⟨by rw [HN.out]; rfl, rfl⟩

theorem results_tmp4 {fn : Func} {t u v x : Tmp} (h : fn.results = #[.tmp t, .tmp u, .tmp v, .tmp x]) (tmps : Array Value) (P : Program) (w : World) :
    (results fn tmps).run P w = .ok (.tuple #[tmps.getD t undef, tmps.getD u undef, tmps.getD v undef, tmps.getD x undef]) w := by simp [results, h]

theorem date_no (n : Int) (w : World) (h : n < -719162 ∨ 2932897 ≤ n) : Calls Tryd.prog 91 #[.int .i64 n] w fun e w' => e = .returned (.tuple #[.int .i64 0, .int .i64 0, .int .i64 0, .bool false]) ∧ w = w' := by
  have h' : n < -719162 ∨ (-719162 ≤ n ∧ 2932897 ≤ n) := by omega
  clear h
  rcases h' with h | ⟨h, h'⟩
  all_goals
    go_enter Tryd.func91, Tryd.ntmps91
    go_wp2_with fail
    go_step3
    go_wp2_with fail
    rw [Exit.noGoto_ret]
    refine bodyPost_ret (results_tmp4 rfl _ _ _) rfl ?_
    exact ⟨rfl, rfl⟩

/-- What a day's number tells. -/
def DateP (n : Int) (w : World) (e : Ending) (w' : World) : Prop := ∃ y m d : Int, e = .returned (.tuple #[.int .i64 y, .int .i64 m, .int .i64 d, .bool true]) ∧ vld y m d ∧ num y m d = n ∧ w = w'
theorem date_end {n y m r : Int} {w : World} (h1 : 1 ≤ y) (h2 : y ≤ 9999) (h3 : 1 ≤ m) (h4 : m ≤ 12) (h5 : 0 ≤ r) (h6 : r < lenI y m) (h7 : r = n + 719162 - ahead y - cum (leapB y) m) :
    DateP n w (.returned (.tuple #[.int .i64 y, .int .i64 m, .int .i64 (r + 1), .bool true])) w := by
  refine ⟨y, m, r + 1, rfl, ⟨h1, h2, h3, h4, by omega, by rw [← lenI_in h1 h2 h3 h4]; omega⟩, by unfold num; omega, rfl⟩

set_option maxRecDepth 100000 in
theorem date_yes (n : Int) (w : World) (h1 : -719162 ≤ n) (h2 : n < 2932897) : Calls Tryd.prog 91 #[.int .i64 n] w (DateP n w) := by
  obtain ⟨g1, g2⟩ := ahead_guess_le (n := n + 719162) (by omega) (by omega)
  have g3 := ahead_guess (n := n + 719162) (by omega) (by omega)
  have hd1 : decide (n < -719162) = false := by simp; omega
  have hd2 : decide (2932897 ≤ n) = false := by simp; omega
  go_enter Tryd.func91, Tryd.ntmps91
  go_wp2_with fail
  go_step3
  go_wp2_with fail
  go_loop [7] (fun t => ∃ y : Int, 1 ≤ y ∧ y ≤ 9999 ∧ ahead y ≤ n + 719162 ∧ t = .int .i64 y) (fun t => (9999 - intOf t).toNat)
  case atStart => exact ⟨_, g1, g2, g3, rfl⟩
  case round =>
    clear g1 g2 g3
    obtain ⟨y, hy1, hy2, hy3, rfl⟩ := hrel
    by_cases hc : y < 9999 ∧ ahead (y + 1) ≤ n + 719162
    · obtain ⟨hlt, hd⟩ := hc
      go_wp2_with (go_at_call 75; refine (ahead_any _ _ (by omega) (by omega)).mono ?_; rintro e w' ⟨rfl, rfl⟩)
      go_round
      case rel => exact ⟨y + 1, by omega, by omega, hd, rfl⟩
      case measure => simp [intOf]; omega
    · have hz : n + 719162 < ahead (y + 1) := by
        by_cases e : y = 9999
        · rw [e]; show _ < ahead 10000; rw [ahead_10000]; omega
        · omega
      obtain ⟨hb1, hb2⟩ := ahead_bd hy1 (show y ≤ 10000 by omega)
      have hs : n + 719162 < ahead y + ylen y := by rw [← ahead_succ]; exact hz
      clear hc
      have hdb : decide (ahead (y + 1) ≤ n + 719162) = false := by simp; omega
      by_cases hlt : y < 9999
      all_goals
        go_wp2_with (go_at_call 75; refine (ahead_any _ _ (by omega) (by omega)).mono ?_; rintro e w' ⟨rfl, rfl⟩)
        go_step3
        go_wp2_with fail
        clear hz
        go_loop [6, 8] (fun r k => ∃ m r' : Int, 1 ≤ m ∧ m ≤ 12 ∧ k = .int .i64 m ∧ 0 ≤ r' ∧ r' ≤ 400 ∧ cum (leapB y) m + r' < ylen y ∧ r' + cum (leapB y) m = n + 719162 - ahead y ∧ r = .int .i64 r') (fun _ k => (12 - intOf k).toNat)
        case atStart => exact ⟨1, n + 719162 - ahead y, by omega, by omega, rfl, by omega, by have := ylen_bd y; omega, by rw [cum_1]; omega, by rw [cum_1]; omega, rfl⟩
        case round =>
          obtain ⟨m, r, hm1, hm2, rfl, hr1, hr3, hr2, hr, rfl⟩ := hrel
          have HR := Lib.hid hr
          clear hr
          obtain ⟨cb1, cb2⟩ := cum_bd (leapB y) m hm1 (by omega)
          obtain ⟨lb1, lb2⟩ := lenI_bd y m
          have HC := Lib.hid (cum_succ (leapB y) m hm1 hm2)
          have HL := Lib.hid (lenI_in hy1 hy2 hm1 hm2)
          by_cases hc : r < lenI y m
          · go_wp2_with (go_at_call 74; refine (len_any _ _ _).mono ?_; rintro e w' ⟨rfl, rfl⟩)
            try rw [Exit.noGoto_ret]
            refine bodyPost_ret (results_tmp4 rfl _ _ _) rfl ?_
            exact date_end hy1 hy2 hm1 hm2 hr1 hc (by have := HR.out; omega)
          · have hm3 : m < 12 := by
              rcases Int.lt_or_le m 12 with h | h
              · exact h
              · have h1 := HC.out
                have h2 := HL.out
                rw [show m + 1 = 13 by omega, cum_13] at h1
                unfold ylen at hr2
                omega
            go_wp2_with (go_at_call 74; refine (len_any _ _ _).mono ?_; rintro e w' ⟨rfl, rfl⟩)
            go_round
            case rel => exact ⟨m + 1, r - lenI y m, by omega, by omega, rfl, by omega, by omega, by rw [HC.out, ← HL.out]; omega, by rw [HC.out, ← HL.out]; have := HR.out; omega, rfl⟩
            case measure => simp [intOf]; omega
end Go.Proofs.YtngamlikhgilhaaDoor
