/- Years of two and of four digits: the plain law. -/
import Derived.Test.YtfbildneagjccaaDateR
import Derived.Test.YtfbildneagjccaaDateQ
namespace Go.Proofs.Ytfbildneagjccaa
open Go.RowKit

def yearT (w n : Nat) : ByteArray := (⟨#[49, 32, 74, 97, 110, 32]⟩ : ByteArray) ++ fixS w n ++ (⟨#[32, 48, 48, 58, 48, 48, 58, 48, 48]⟩ : ByteArray)
theorem year_bs (w n : Nat) : bs (yearT w n) = fixL 1 1 ++ (32 :: (bs (monS 0) ++ (32 :: (fixL w n ++ (32 :: bs (handS 0 0 0)))))) := by
  unfold yearT
  simp only [bs_append, List.append_assoc]
  rfl
theorem year_words (w n : Nat) (hw : 0 < w) : wordsS (yearT w n) = [fixS 1 1, monS 0, fixS w n, handS 0 0 0] := by
  obtain ⟨-, -, m1, m2⟩ := mon_facts 0 (by decide)
  obtain ⟨t1, t2⟩ := hand_noPart 0 0 0
  have p32 : partsB (((32 : UInt8).toNat : Nat) : Int) = true := by decide
  unfold wordsS
  rw [year_bs, wordsA_cut _ _ _ (fix_noPart 1 1) (fix_ne 1 1 (by decide)) p32, wordsA_cut _ _ _ m1 m2 p32, wordsA_cut _ _ _ (fix_noPart w n) (fix_ne w n hw) p32, wordsA_end _ t1 t2]
  rfl
theorem year_found (w n : Nat) (h1 : 2 ≤ w) (h2 : w ≤ 4) (hn : n < 10 ^ w) : foundL (wordsS (yearT w n)) = ⟨true, true, true, true, n, 1, 1, 0, 0, 0⟩ := by
  obtain ⟨m0, m1, -, -⟩ := mon_facts 0 (by decide)
  rw [year_words w n (by omega)]
  unfold foundL
  simp only [List.foldl_cons, List.foldl_nil]
  rw [next_day (f := f0) (w := 1) (by decide) (by decide) (by decide) rfl, next_month m0 m1 rfl, next_year hn h1 h2 rfl rfl rfl, next_time (by decide) (by decide) (by decide) rfl]
  rfl
theorem jan_clk {y : Int} (h1 : 1 ≤ y) (h2 : y ≤ 9999) : vclk y 1 1 0 0 0 := by
  refine ⟨⟨h1, h2, by decide, by decide, by decide, ?_⟩, by decide, by decide, by decide, by decide, by decide, by decide⟩
  have := (mlen_bd (leapB y) 1).1
  omega
theorem year_yes (w n : Nat) (h1 : 2 ≤ w) (h2 : w ≤ 4) (hn : n < 10 ^ w) (h3 : n < 10000) (y : Nat) (hy : cent n = y) (h4 : 1601 ≤ y) : cookieV (yearT w n) = .tuple #[.int .i64 (secs y 1 1 0 0 0), .bool true] := by
  have hv : (y : Int) ≤ 9999 := by rw [← hy]; unfold cent; split <;> (try split) <;> omega
  unfold cookieV
  rw [year_found w n h1 h2 hn]
  unfold fdV
  simp only [hy]
  rw [if_pos ⟨rfl, by omega, jan_clk (by omega) hv⟩]
theorem year_no (w n : Nat) (h1 : 2 ≤ w) (h2 : w ≤ 4) (hn : n < 10 ^ w) (h4 : cent n < 1601) : cookieV (yearT w n) = .tuple #[.int .i64 0, .bool false] := by
  unfold cookieV
  rw [year_found w n h1 h2 hn]
  unfold fdV
  simp only
  rw [if_neg (by rintro ⟨-, h, -⟩; omega)]
theorem jan_secs (y : Int) : secs y 1 1 0 0 0 = 86400 * (ahead y - 719162) := by
  unfold secs num
  rw [cum_1]
  omega
theorem jan_neg {y : Int} (h : y < 1970) : secs y 1 1 0 0 0 < 0 := by
  have := ahead_lt h
  rw [ahead_1970] at this
  rw [jan_secs]
  omega
theorem jan_pos {y : Int} (h : 1970 ≤ y) : 0 ≤ secs y 1 1 0 0 0 := by
  have := ahead_mono h
  rw [ahead_1970] at this
  rw [jan_secs]
  omega
theorem jan_ck (y : Nat) (h1 : 1 ≤ y) (h2 : y ≤ 9999) : CkN (secs y 1 1 0 0 0) y 1 1 0 0 0 := ⟨jan_clk (by omega) (by omega), rfl, by omega, by decide, by decide, by decide, by decide, by decide, by decide⟩
theorem cent_two (n : Nat) (h : n < 100) : 1970 ≤ cent n ∧ cent n ≤ 2069 := by unfold cent; split <;> (try split) <;> omega
theorem iso_front (y : Nat) : (isoS y 1 1 0 0 0).extract 0 4 = fixS 4 y := by
  apply bs_inj
  rw [bs_extract]
  unfold isoS
  rw [bs_append, bs_append, bs_append, bs_append, bs_append, bs_append]
  simp only [List.append_assoc, List.drop_zero]
  exact List.take_left' (fixL_len 4 y)
theorem iso_back (y : Nat) : (isoS y 1 1 0 0 0).extract 4 20 = ⟨#[45, 48, 49, 45, 48, 49, 84, 48, 48, 58, 48, 48, 58, 48, 48, 90]⟩ := by
  apply bs_inj
  rw [bs_extract, List.take_of_length_le (by rw [← size_bs, isoS_size]; exact Nat.le_refl _)]
  unfold isoS
  simp only [bs_append, List.append_assoc]
  rw [show bs (fixS 4 y) = fixL 4 y from rfl, List.drop_left' (fixL_len 4 y)]
  rfl
theorem fix_back (n : Nat) : (fixS 4 n).extract 2 4 = fixS 2 (n % 100) := by
  apply bs_inj
  rw [bs_extract, List.take_of_length_le (by rw [← size_bs, fixS_size]; exact Nat.le_refl _)]
  show (fixL 4 n).drop 2 = fixL 2 (n % 100)
  rw [fixL_cons 3 n, fixL_cons 2 n, fixL_cons 1 n, fixL_cons 0 n, fixL_cons 1 (n % 100), fixL_cons 0 (n % 100), show n / 10 ^ 1 % 10 = n % 100 / 10 ^ 1 % 10 by omega, show n / 10 ^ 0 % 10 = n % 100 / 10 ^ 0 % 10 by omega]
  rfl
theorem four_digits (n : Nat) (h : n < 10000) : fixL 4 n = [UInt8.ofNat (48 + n / 1000), UInt8.ofNat (48 + n / 100 % 10), UInt8.ofNat (48 + n / 10 % 10), UInt8.ofNat (48 + n % 10)] := by
  rw [fixL_cons, fixL_cons, fixL_cons, fixL_cons, show n / 10 ^ 3 % 10 = n / 1000 by omega, show n / 10 ^ 2 % 10 = n / 100 % 10 by omega, show n / 10 ^ 1 % 10 = n / 10 % 10 by omega, show n / 10 ^ 0 % 10 = n % 10 by omega]
  rfl
theorem conv_four (W : World) (n : Nat) (h : n < 10000) (cs : Array Value) (hc : cs = #[.int .u8 (48 + (n : Int) / 1000), .int .u8 (48 + (n : Int) / 100 % 10), .int .u8 (48 + (n : Int) / 10 % 10), .int .u8 (48 + (n : Int) % 10)]) :
    (convert 30 9 (.slice (some ⟨W.heap.size, 0, none⟩) 4 4)).run Try.prog (W.alloc (.cells cs 5)) = .ok (.string (fixS 4 n)) (W.alloc (.cells cs 5)) := by
  subst hc
  refine conv_back _ W.heap.size 4 4 (fixL 4 n) (fixL_len 4 n) ?_
  rw [four_digits n h]
  intro j hj
  have hj4 : j < 4 := hj
  have e : j = 0 ∨ j = 1 ∨ j = 2 ∨ j = 3 := by omega
  have v : ∀ m : Nat, m < 10 → ((UInt8.ofNat (48 + m)).toNat : Int) = 48 + (m : Int) := by
    intro m hm
    rw [UInt8.toNat_ofNat', Nat.mod_eq_of_lt (by omega)]
    omega
  rcases e with rfl | rfl | rfl | rfl
  · refine ⟨?_, by go_simp⟩
    rw [World.cell?_alloc_new]
    show some (Value.int .u8 (48 + (n : Int) / 1000)) = _
    rw [show [UInt8.ofNat (48 + n / 1000), UInt8.ofNat (48 + n / 100 % 10), UInt8.ofNat (48 + n / 10 % 10), UInt8.ofNat (48 + n % 10)][0] = UInt8.ofNat (48 + n / 1000) from rfl, v _ (by omega)]
    rfl
  · refine ⟨?_, by go_simp⟩
    rw [World.cell?_alloc_new]
    show some (Value.int .u8 (48 + (n : Int) / 100 % 10)) = _
    rw [show [UInt8.ofNat (48 + n / 1000), UInt8.ofNat (48 + n / 100 % 10), UInt8.ofNat (48 + n / 10 % 10), UInt8.ofNat (48 + n % 10)][1] = UInt8.ofNat (48 + n / 100 % 10) from rfl, v _ (by omega)]
    rfl
  · refine ⟨?_, by go_simp⟩
    rw [World.cell?_alloc_new]
    show some (Value.int .u8 (48 + (n : Int) / 10 % 10)) = _
    rw [show [UInt8.ofNat (48 + n / 1000), UInt8.ofNat (48 + n / 100 % 10), UInt8.ofNat (48 + n / 10 % 10), UInt8.ofNat (48 + n % 10)][2] = UInt8.ofNat (48 + n / 10 % 10) from rfl, v _ (by omega)]
    rfl
  · refine ⟨?_, by go_simp⟩
    rw [World.cell?_alloc_new]
    show some (Value.int .u8 (48 + (n : Int) % 10)) = _
    rw [show [UInt8.ofNat (48 + n / 1000), UInt8.ofNat (48 + n / 100 % 10), UInt8.ofNat (48 + n / 10 % 10), UInt8.ofNat (48 + n % 10)][3] = UInt8.ofNat (48 + n % 10) from rfl, v _ (by omega)]
    rfl
end Go.Proofs.Ytfbildneagjccaa
