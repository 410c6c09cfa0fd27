/- Great and small letters are of no account in a cookie's date: the law, and the walk of DateCase. -/
import Derived.Test.YtfbildneagjccaaDateO
namespace Go.Proofs.Ytfbildneagjccaa
open Go.RowKit

theorem low_nat (c : UInt8) : (low c).toNat = if 65 ≤ c.toNat ∧ c.toNat ≤ 90 then c.toNat + 32 else c.toNat := by
  by_cases h : 65 ≤ c.toNat ∧ c.toNat ≤ 90
  · have := low_in c h.1 h.2
    rw [if_pos h]
    omega
  · rw [low_out c h, if_neg h]
theorem parts_low (c : UInt8) : partsB ((low c).toNat : Int) = partsB (c.toNat : Int) := by
  rw [Bool.eq_iff_iff]
  unfold partsB
  simp only [Bool.or_eq_true, Bool.and_eq_true, decide_eq_true_eq, beq_iff_eq]
  rw [low_nat]
  split <;> omega
theorem dig_low (c : UInt8) : digB ((low c).toNat : Int) = digB (c.toNat : Int) := by
  rw [Bool.eq_iff_iff, dig_iff, dig_iff, low_nat]
  split <;> omega
theorem dig_low_same {c : UInt8} (h : digB (c.toNat : Int) = true) : low c = c := by
  have := dig_iff.1 h
  exact low_out c (by omega)
theorem wordsA_low (l : List UInt8) : ∀ cur, wordsA (cur.map low) (l.map low) = (wordsA cur l).map (List.map low) := by
  induction l with
  | nil => intro cur; cases cur <;> simp [wordsA]
  | cons c l ih =>
    intro cur
    rw [List.map_cons, wordsA, wordsA, parts_low]
    by_cases hp : partsB (c.toNat : Int) = true
    · rw [if_pos hp, if_pos hp]
      cases cur with
      | nil => simp only [List.map_nil, if_true]; exact ih []
      | cons x cur => simp only [List.map_cons, reduceCtorEq, if_false]; rw [← List.map_cons, ← ih []]; rfl
    · rw [if_neg hp, if_neg hp, ← ih (cur ++ [c])]
      simp
theorem bs_low (s : ByteArray) : bs (lowS s) = (bs s).map low := rfl
theorem wordsS_low (s : ByteArray) : wordsS (lowS s) = (wordsS s).map lowS := by
  unfold wordsS
  rw [bs_low, show ([] : List UInt8) = [].map low from rfl, wordsA_low, List.map_map, List.map_map]
  rfl
theorem find_low (l : List UInt8) : (l.map low).findIdx (fun c => !digB (c.toNat : Int)) = l.findIdx fun c => !digB (c.toNat : Int) := by
  induction l with
  | nil => rfl
  | cons c l ih => rw [List.map_cons, List.findIdx_cons, List.findIdx_cons, dig_low, ih]
theorem ndig_low (w : ByteArray) : ndig (lowS w) = ndig w := find_low (bs w)
theorem take_low (l : List UInt8) (h : allD l = true) : l.map low = l := by
  unfold allD at h
  rw [List.all_eq_true] at h
  exact (List.map_congr_left fun c hc => dig_low_same (h c hc)).trans (List.map_id' l)
theorem numV_low (w : ByteArray) : numV (lowS w) = numV w := by
  unfold numV
  rw [ndig_low, bs_low, ← List.map_take, take_low _ (ndig_all w _ (Nat.le_refl _))]
theorem ext_low (w : ByteArray) (a b : Nat) : (lowS w).extract a b = lowS (w.extract a b) := by
  apply bs_inj
  rw [bs_extract, bs_low, bs_low, bs_extract, List.map_drop, List.map_take]
theorem lowS_sz (s : ByteArray) : (lowS s).size = s.size := by rw [size_bs, bs_low, List.length_map, size_bs]
theorem after_low (w : ByteArray) : afterD (lowS w) = lowS (afterD w) := by unfold afterD; rw [ndig_low, lowS_sz, ext_low]
theorem tail_low (w : ByteArray) : tailS (lowS w) = lowS (tailS w) := by unfold tailS; rw [lowS_sz, ext_low]
theorem colon_low (w : ByteArray) : colonB (lowS w) = colonB w := by
  unfold colonB
  rw [bs_low]
  cases bs w with
  | nil => rfl
  | cons c l =>
    simp only [List.map_cons, List.head?_cons]
    rw [Bool.eq_iff_iff, beq_iff_eq, beq_iff_eq, Option.some.injEq, Option.some.injEq]
    constructor
    · intro h
      have h2 : (low c).toNat = 58 := by rw [h]; rfl
      rw [low_nat] at h2
      split at h2
      · omega
      · exact UInt8.toNat_inj.1 h2
    · intro h; subst h; rfl
theorem time2_low (w : ByteArray) : time2 (lowS w) = lowS (time2 w) := by unfold time2; rw [after_low, tail_low]
theorem oneTwo_low (w : ByteArray) : oneTwo (lowS w) = oneTwo w := by unfold oneTwo; rw [ndig_low]
theorem twoFour_low (w : ByteArray) : twoFour (lowS w) = twoFour w := by unfold twoFour; rw [ndig_low]
theorem timeB_low (w : ByteArray) : timeB (lowS w) = timeB w := by
  unfold timeB
  rw [time2_low, time2_low, after_low, after_low, colon_low, colon_low, oneTwo_low, oneTwo_low, oneTwo_low]
theorem lowS_twice (w : ByteArray) : lowS (lowS w) = lowS w := by
  apply bs_inj
  rw [bs_low, bs_low, List.map_map]
  exact List.map_congr_left fun c _ => low_low c
theorem month_low (w : ByteArray) : monthN (lowS w) = monthN w := by
  unfold monthN mon3
  rw [lowS_sz, ext_low, lowS_twice]
theorem nextF_low (f : Fd) (w : ByteArray) : nextF f (lowS w) = nextF f w := by
  unfold nextF
  rw [timeB_low, oneTwo_low, twoFour_low, month_low, numV_low, time2_low, time2_low, numV_low, numV_low]
theorem foundL_low (l : List ByteArray) : foundL (l.map lowS) = foundL l := by
  have : ∀ (l : List ByteArray) (f : Fd), (l.map lowS).foldl nextF f = l.foldl nextF f := by
    intro l
    induction l with
    | nil => intro f; rfl
    | cons w l ih => intro f; rw [List.map_cons, List.foldl_cons, List.foldl_cons, nextF_low, ih]
  exact this l f0
theorem cookie_low (s : ByteArray) : cookieV (lowS s) = cookieV s := by
  unfold cookieV
  rw [wordsS_low, foundL_low]
theorem cookie_two (s : ByteArray) : ∃ (t : Int) (b : Bool), cookieV s = .tuple #[.int .i64 t, .bool b] := by
  unfold cookieV fdV
  split
  · exact ⟨_, _, rfl⟩
  · exact ⟨_, _, rfl⟩
set_option maxRecDepth 100000 in
theorem dateCase_any (s : ByteArray) (w : World) (_ : s.size ≤ 140737488351232) :
    Calls Try.prog 7 #[.string s] w fun e w' => e = .returned (.bool true) ∧ Below w.heap.size w w' := by
  by_cases hbig : 1000 < s.size
  · go_enter Try.func7, Try.ntmps7
    go_wp2_with fail
    refine (dalive_any _).mono ?_
    rintro e w1 ⟨rfl, hb1⟩
    go_wp2_with fail
    go_ret
    exact ⟨rfl, hb1⟩
  · obtain ⟨t, b, hc⟩ := cookie_two s
    have HC := Lib.hid hc
    have HL := Lib.hid ((cookie_low s).trans hc)
    have HZ := Lib.hid (lowS_sz s)
    clear hc
    go_enter Try.func7, Try.ntmps7
    go_wp2_with fail
    refine (cookie_any s _ (by omega)).mono ?_
    rintro e w1 ⟨rfl, hb1⟩
    rw [HC.out]
    go_wp2_with fail
    refine (rlower_any s _ (by omega)).mono ?_
    rintro e w2 ⟨rfl, hb2⟩
    go_wp2_with fail
    refine (cookie_any (lowS s) _ (by rw [HZ.out]; omega)).mono ?_
    rintro e w3 ⟨rfl, hb3⟩
    rw [HL.out]
    go_wp2_with fail
    refine (dalive_any _).mono ?_
    rintro e w4 ⟨rfl, hb4⟩
    have hB := Bsnoc (Bsnoc (Bsnoc hb1 hb2) hb3) hb4
    clear hb1 hb2 hb3 hb4
    go_wp2_with fail
    go_ret
    exact ⟨by simp, hB⟩
end Go.Proofs.Ytfbildneagjccaa
