/- A date in three forms: what the statements call first. -/
import Derived.Test.YtngamlikhgilhaaGreatDoorZF
import Derived.Test.YtngamlikhgilhaaGreatDoorZG
namespace Go.Proofs.YtngamlikhgilhaaGreatDoor
open Go.RowKit

theorem al_c1 : cookieV (⟨#[48, 56, 58, 52, 57, 58, 51, 55, 32, 54, 45, 110, 111, 118, 45, 57, 52]⟩ : ByteArray) = .tuple #[.int .i64 784111777, .bool true] := by kernel_rfl
theorem al_c2 : cookieV (⟨#[50, 48, 50, 54, 45, 49, 49, 45, 49, 54, 84, 49, 50, 58, 48, 48, 58, 48, 48, 90]⟩ : ByteArray) = .tuple #[.int .i64 0, .bool false] := by kernel_rfl
theorem al_k1 : CkN 784111777 1994 11 6 8 49 37 := ⟨by decide, by decide, by decide, by decide, by decide, by decide, by decide, by decide, by decide⟩
theorem al_k2 : CkN 1794830400 2026 11 16 12 0 0 := ⟨by decide, by decide, by decide, by decide, by decide, by decide, by decide, by decide, by decide⟩
theorem al_s1 : imfS 0 6 10 1994 8 49 37 = (⟨#[83, 117, 110, 44, 32, 48, 54, 32, 78, 111, 118, 32, 49, 57, 57, 52, 32, 48, 56, 58, 52, 57, 58, 51, 55, 32, 71, 77, 84]⟩ : ByteArray) := by kernel_rfl
theorem al_s2 : isoS 1994 11 6 8 49 37 = (⟨#[49, 57, 57, 52, 45, 49, 49, 45, 48, 54, 84, 48, 56, 58, 52, 57, 58, 51, 55, 90]⟩ : ByteArray) := by kernel_rfl
theorem al_s3 : isoS 2026 11 16 12 0 0 = (⟨#[50, 48, 50, 54, 45, 49, 49, 45, 49, 54, 84, 49, 50, 58, 48, 48, 58, 48, 48, 90]⟩ : ByteArray) := by kernel_rfl
theorem imf_784 (w : World) : Calls Tryz.prog 32 #[.int .i64 784111777] w fun e w' => e = .returned (.tuple #[.string (⟨#[83, 117, 110, 44, 32, 48, 54, 32, 78, 111, 118, 32, 49, 57, 57, 52, 32, 48, 56, 58, 52, 57, 58, 51, 55, 32, 71, 77, 84]⟩ : ByteArray), .bool true]) ∧ Below w.heap.size w w' := by
  refine (imf_yes 784111777 w (by decide) (by decide)).mono ?_
  rintro e w' ⟨k, y, m, d, h, n, s, hc, hm, hk, hwd, rfl, hb⟩
  obtain ⟨rfl, h2, rfl, rfl, rfl, rfl⟩ := hc.uniq al_k1
  obtain rfl : m = 10 := by omega
  have h3 : wday (num ((1994 : Nat) : Int) (((10 : Nat) : Int) + 1) ((6 : Nat) : Int)) = 0 := by decide
  rw [h3] at hwd
  obtain rfl : k = 0 := by omega
  exact ⟨by rw [al_s1], hb⟩
end Go.Proofs.YtngamlikhgilhaaGreatDoor
/- Great and small letters are of no account in a cookie's date: the law, and the walk of DateCase. -/
namespace Go.Proofs.YtngamlikhgilhaaGreatDoor
open Go.RowKit

theorem low_nat (c : UInt8) : (low c).toNat = if 65 ≤ c.toNat ∧ c.toNat ≤ 90 then c.toNat + 32 else c.toNat := by
  by_cases h : 65 ≤ c.toNat ∧ c.toNat ≤ 90
  · have := low_in c h.1 h.2
    rw [if_pos h]
    omega
  · rw [low_out c h, if_neg h]
theorem parts_low (c : UInt8) : partsB ((low c).toNat : Int) = partsB (c.toNat : Int) := by
  rw [Bool.eq_iff_iff]
  unfold partsB
  simp only [Bool.or_eq_true, Bool.and_eq_true, decide_eq_true_eq, beq_iff_eq]
  rw [low_nat]
  split <;> omega
theorem dig_low (c : UInt8) : digB ((low c).toNat : Int) = digB (c.toNat : Int) := by
  rw [Bool.eq_iff_iff, dig_iff, dig_iff, low_nat]
  split <;> omega
theorem dig_low_same {c : UInt8} (h : digB (c.toNat : Int) = true) : low c = c := by
  have := dig_iff.1 h
  exact low_out c (by omega)
theorem wordsA_low (l : List UInt8) : ∀ cur, wordsA (cur.map low) (l.map low) = (wordsA cur l).map (List.map low) := by
  induction l with
  | nil => intro cur; cases cur <;> simp [wordsA]
  | cons c l ih =>
    intro cur
    rw [List.map_cons, wordsA, wordsA, parts_low]
    by_cases hp : partsB (c.toNat : Int) = true
    · rw [if_pos hp, if_pos hp]
      cases cur with
      | nil => simp only [List.map_nil, if_true]; exact ih []
      | cons x cur => simp only [List.map_cons, reduceCtorEq, if_false]; rw [← List.map_cons, ← ih []]; rfl
    · rw [if_neg hp, if_neg hp, ← ih (cur ++ [c])]
      simp
theorem bs_low (s : ByteArray) : bs (lowS s) = (bs s).map low := rfl
theorem wordsS_low (s : ByteArray) : wordsS (lowS s) = (wordsS s).map lowS := by
  unfold wordsS
  rw [bs_low, show ([] : List UInt8) = [].map low from rfl, wordsA_low, List.map_map, List.map_map]
  rfl
theorem find_low (l : List UInt8) : (l.map low).findIdx (fun c => !digB (c.toNat : Int)) = l.findIdx fun c => !digB (c.toNat : Int) := by
  induction l with
  | nil => rfl
  | cons c l ih => rw [List.map_cons, List.findIdx_cons, List.findIdx_cons, dig_low, ih]
theorem ndig_low (w : ByteArray) : ndig (lowS w) = ndig w := find_low (bs w)
theorem take_low (l : List UInt8) (h : allD l = true) : l.map low = l := by
  unfold allD at h
  rw [List.all_eq_true] at h
  exact (List.map_congr_left fun c hc => dig_low_same (h c hc)).trans (List.map_id' l)
theorem numV_low (w : ByteArray) : numV (lowS w) = numV w := by
  unfold numV
  rw [ndig_low, bs_low, ← List.map_take, take_low _ (ndig_all w _ (Nat.le_refl _))]
theorem ext_low (w : ByteArray) (a b : Nat) : (lowS w).extract a b = lowS (w.extract a b) := by
  apply bs_inj
  rw [bs_extract, bs_low, bs_low, bs_extract, List.map_drop, List.map_take]
theorem lowS_sz (s : ByteArray) : (lowS s).size = s.size := by rw [size_bs, bs_low, List.length_map, size_bs]
theorem after_low (w : ByteArray) : afterD (lowS w) = lowS (afterD w) := by unfold afterD; rw [ndig_low, lowS_sz, ext_low]
theorem tail_low (w : ByteArray) : tailS (lowS w) = lowS (tailS w) := by unfold tailS; rw [lowS_sz, ext_low]
theorem colon_low (w : ByteArray) : colonB (lowS w) = colonB w := by
  unfold colonB
  rw [bs_low]
  cases bs w with
  | nil => rfl
  | cons c l =>
    simp only [List.map_cons, List.head?_cons]
    rw [Bool.eq_iff_iff, beq_iff_eq, beq_iff_eq, Option.some.injEq, Option.some.injEq]
    constructor
    · intro h
      have h2 : (low c).toNat = 58 := by rw [h]; rfl
      rw [low_nat] at h2
      split at h2
      · omega
      · exact UInt8.toNat_inj.1 h2
    · intro h; subst h; rfl
theorem time2_low (w : ByteArray) : time2 (lowS w) = lowS (time2 w) := by unfold time2; rw [after_low, tail_low]
theorem oneTwo_low (w : ByteArray) : oneTwo (lowS w) = oneTwo w := by unfold oneTwo; rw [ndig_low]
theorem twoFour_low (w : ByteArray) : twoFour (lowS w) = twoFour w := by unfold twoFour; rw [ndig_low]
theorem timeB_low (w : ByteArray) : timeB (lowS w) = timeB w := by
  unfold timeB
  rw [time2_low, time2_low, after_low, after_low, colon_low, colon_low, oneTwo_low, oneTwo_low, oneTwo_low]
theorem lowS_twice (w : ByteArray) : lowS (lowS w) = lowS w := by
  apply bs_inj
  rw [bs_low, bs_low, List.map_map]
  exact List.map_congr_left fun c _ => low_low c
theorem month_low (w : ByteArray) : monthN (lowS w) = monthN w := by
  unfold monthN mon3
  rw [lowS_sz, ext_low, lowS_twice]
theorem nextF_low (f : Fd) (w : ByteArray) : nextF f (lowS w) = nextF f w := by
  unfold nextF
  rw [timeB_low, oneTwo_low, twoFour_low, month_low, numV_low, time2_low, time2_low, numV_low, numV_low]
theorem foundL_low (l : List ByteArray) : foundL (l.map lowS) = foundL l := by
  have : ∀ (l : List ByteArray) (f : Fd), (l.map lowS).foldl nextF f = l.foldl nextF f := by
    intro l
    induction l with
    | nil => intro f; rfl
    | cons w l ih => intro f; rw [List.map_cons, List.foldl_cons, List.foldl_cons, nextF_low, ih]
  exact this l f0
theorem cookie_low (s : ByteArray) : cookieV (lowS s) = cookieV s := by
  unfold cookieV
  rw [wordsS_low, foundL_low]
theorem cookie_two (s : ByteArray) : ∃ (t : Int) (b : Bool), cookieV s = .tuple #[.int .i64 t, .bool b] := by
  unfold cookieV fdV
  split
  · exact ⟨_, _, rfl⟩
  · exact ⟨_, _, rfl⟩
end Go.Proofs.YtngamlikhgilhaaGreatDoor
/- What a time written for headers tells as a cookie's date: the plain law. -/
namespace Go.Proofs.YtngamlikhgilhaaGreatDoor
open Go.RowKit

def noPart (l : List UInt8) : Bool := l.all fun c => !partsB (c.toNat : Int)
theorem wordsA_word (w l : List UInt8) (h : noPart w = true) : ∀ cur, wordsA cur (w ++ l) = wordsA (cur ++ w) l := by
  induction w with
  | nil => intro cur; simp
  | cons c w ih =>
    intro cur
    unfold noPart at h ih
    rw [List.all_cons, Bool.and_eq_true] at h
    have hc : partsB (c.toNat : Int) = false := by simpa using h.1
    rw [List.cons_append, wordsA, if_neg (by rw [hc]; simp), ih h.2, List.append_assoc]
    rfl
theorem wordsA_cut (w l : List UInt8) (c : UInt8) (h : noPart w = true) (hw : w ≠ []) (hc : partsB (c.toNat : Int) = true) : wordsA [] (w ++ c :: l) = w :: wordsA [] l := by
  rw [wordsA_word w _ h, List.nil_append, wordsA, if_pos hc, if_neg hw]
theorem wordsA_end (w : List UInt8) (h : noPart w = true) (hw : w ≠ []) : wordsA [] w = [w] := by
  have := wordsA_word w [] h []
  rw [List.append_nil, List.nil_append] at this
  rw [this, wordsA, if_neg hw]
theorem wordsA_skip (l : List UInt8) (c : UInt8) (hc : partsB (c.toNat : Int) = true) : wordsA [] (c :: l) = wordsA [] l := by
  rw [wordsA, if_pos hc, if_pos rfl]
theorem dig_noPart (l : List UInt8) (h : allD l = true) : noPart l = true := by
  unfold noPart allD at *
  rw [List.all_eq_true] at *
  intro c hc
  have h1 := dig_iff.1 (h c hc)
  have : partsB (c.toNat : Int) = false := by
    rw [← Bool.not_eq_true]
    unfold partsB
    simp only [Bool.or_eq_true, Bool.and_eq_true, decide_eq_true_eq, beq_iff_eq]
    omega
  rw [this]; rfl
theorem fix_noPart (w n : Nat) : noPart (fixL w n) = true := dig_noPart _ (fixL_dig w n)
theorem noPart_app (a b : List UInt8) : noPart (a ++ b) = (noPart a && noPart b) := by unfold noPart; rw [List.all_append]
/-- Digits, and what is no digit. -/
theorem find_dig (l r : List UInt8) (h : allD l = true) (hr : ∀ c, r.head? = some c → digB (c.toNat : Int) = false) : (l ++ r).findIdx (fun c => !digB (c.toNat : Int)) = l.length := by
  induction l with
  | nil =>
    cases r with
    | nil => rfl
    | cons c r => rw [List.nil_append, List.findIdx_cons, hr c rfl]; rfl
  | cons c l ih =>
    unfold allD at h ih
    rw [List.all_cons, Bool.and_eq_true] at h
    rw [List.cons_append, List.findIdx_cons, h.1, ih h.2]
    rfl
structure NumIs (x : ByteArray) (w n : Nat) (r : List UInt8) : Prop where
  nd : ndig x = w
  nv : numV x = n
  ar : bs (afterD x) = r
theorem numIs {x : ByteArray} {w n : Nat} {r : List UInt8} (hx : bs x = fixL w n ++ r) (hn : n < 10 ^ w) (hr : ∀ c, r.head? = some c → digB (c.toNat : Int) = false) : NumIs x w n r := by
  have h1 : ndig x = w := by
    unfold ndig
    rw [hx, find_dig _ _ (fixL_dig w n) hr, fixL_len]
  refine ⟨h1, ?_, ?_⟩
  · unfold numV
    rw [h1, hx, List.take_left' (fixL_len w n), fixL_val w n hn]
  · unfold afterD
    rw [bs_extract, h1, List.take_of_length_le (by rw [← size_bs]; exact Nat.le_refl _), hx, List.drop_left' (fixL_len w n)]
theorem oneTwo_of {x : ByteArray} {w : Nat} (h : ndig x = w) (h1 : 1 ≤ w) (h2 : w ≤ 2) : oneTwo x = true := (oneTwo_iff x).2 (by omega)
theorem oneTwo_no {x : ByteArray} (h : ndig x < 1 ∨ 2 < ndig x) : oneTwo x = false := by rw [← Bool.not_eq_true, oneTwo_iff]; omega
theorem timeB_no1 {x : ByteArray} (h : oneTwo x = false) : timeB x = false := by unfold timeB; rw [h]; rfl
theorem timeB_no2 {x : ByteArray} (h : colonB (afterD x) = false) : timeB x = false := by unfold timeB; rw [h]; simp
theorem colon_bs {x : ByteArray} {r : List UInt8} (h : bs x = r) : colonB x = (r.head? == some 58) := by unfold colonB; rw [h]
theorem tail_bs (x : ByteArray) : bs (tailS x) = (bs x).drop 1 := by unfold tailS; rw [bs_extract, List.take_of_length_le (by rw [← size_bs]; exact Nat.le_refl _)]
/-- A number by itself. -/
theorem num_alone (w n : Nat) (hn : n < 10 ^ w) : NumIs (fixS w n) w n [] := numIs (by rw [List.append_nil]; rfl) hn (fun c h => by cases h)
theorem next_day {f : Fd} {w n : Nat} (hn : n < 10 ^ w) (h1 : 1 ≤ w) (h2 : w ≤ 2) (hf : f.hd = false) : nextF f (fixS w n) = { f with hd := true, d := (n : Int) } := by
  obtain ⟨a, b, c⟩ := num_alone w n hn
  have ht : timeB (fixS w n) = false := timeB_no2 (by rw [colon_bs c]; rfl)
  rw [next_1 (by rw [ht]; simp) ⟨hf, oneTwo_of a h1 h2⟩, b]
theorem next_year {f : Fd} {w n : Nat} (hn : n < 10 ^ w) (h1 : 2 ≤ w) (h2 : w ≤ 4) (hd : f.hd = true) (hm : f.hm = true) (hf : f.hy = false) : nextF f (fixS w n) = { f with hy := true, y := (n : Int) } := by
  obtain ⟨a, b, c⟩ := num_alone w n hn
  have ht : timeB (fixS w n) = false := timeB_no2 (by rw [colon_bs c]; rfl)
  rw [next_3 (by rw [ht]; simp) (by rw [hd]; simp) (by rw [hm]; simp) ⟨hf, (twoFour_iff _).2 (by omega)⟩, b]
theorem hand_bs (h n s : Nat) : bs (handS h n s) = fixL 2 h ++ (58 :: (fixL 2 n ++ (58 :: fixL 2 s))) := by
  unfold handS
  simp only [bs_append, List.append_assoc]
  rfl
theorem next_time {f : Fd} {h n s : Nat} (hh : h < 100) (hn : n < 100) (hs : s < 100) (hf : f.ht = false) : nextF f (handS h n s) = { f with ht := true, h := (h : Int), n := (n : Int), s := (s : Int) } := by
  have h58 : ∀ (r : List UInt8) c, (58 :: r).head? = some c → digB (c.toNat : Int) = false := fun r c e => by cases e; decide
  obtain ⟨a1, b1, c1⟩ := numIs (hand_bs h n s) hh (h58 _)
  have e2 : bs (time2 (handS h n s)) = fixL 2 n ++ (58 :: fixL 2 s) := by unfold time2; rw [tail_bs, c1]; rfl
  obtain ⟨a2, b2, c2⟩ := numIs e2 hn (h58 _)
  have e3 : bs (time2 (time2 (handS h n s))) = fixL 2 s ++ [] := by
    show bs (tailS (afterD (time2 (handS h n s)))) = _
    rw [tail_bs, c2, List.append_nil]; rfl
  obtain ⟨a3, b3, c3⟩ := numIs e3 hs (fun c e => by cases e)
  have ht : timeB (handS h n s) = true := time_t (by rw [oneTwo_of a1 (by decide) (by decide), colon_bs c1]; rfl) (by rw [oneTwo_of a2 (by decide) (by decide), colon_bs c2]; rfl) (oneTwo_of a3 (by decide) (by decide))
  rw [next_0 ⟨hf, ht⟩, b1, b2, b3]
theorem next_text {f : Fd} {x : ByteArray} (h0 : ndig x = 0) (hm : monthN x = 0) : nextF f x = f := by
  have h1 : oneTwo x = false := oneTwo_no (by omega)
  have h2 : twoFour x = false := by rw [← Bool.not_eq_true, twoFour_iff]; omega
  exact next_4 (by rw [timeB_no1 h1]; simp) (by rw [h1]; simp) (by rw [hm]; simp) (by rw [h2]; simp)
theorem next_month {f : Fd} {x : ByteArray} {m : Nat} (h0 : ndig x = 0) (hm : monthN x = m + 1) (hf : f.hm = false) : nextF f x = { f with hm := true, m := ((m + 1 : Nat) : Int) } := by
  have h1 : oneTwo x = false := oneTwo_no (by omega)
  rw [next_2 (by rw [timeB_no1 h1]; simp) (by rw [h1]; simp) ⟨hf, by omega⟩, hm]
theorem day_facts (k : Nat) (hk : k < 7) : ndig (dayS k) = 0 ∧ monthN (dayS k) = 0 ∧ noPart (bs (dayS k)) = true ∧ bs (dayS k) ≠ [] := by
  have : k = 0 ∨ k = 1 ∨ k = 2 ∨ k = 3 ∨ k = 4 ∨ k = 5 ∨ k = 6 := by omega
  rcases this with rfl | rfl | rfl | rfl | rfl | rfl | rfl <;> decide +kernel
theorem mon_facts (k : Nat) (hk : k < 12) : ndig (monS k) = 0 ∧ monthN (monS k) = k + 1 ∧ noPart (bs (monS k)) = true ∧ bs (monS k) ≠ [] := by
  have : k = 0 ∨ k = 1 ∨ k = 2 ∨ k = 3 ∨ k = 4 ∨ k = 5 ∨ k = 6 ∨ k = 7 ∨ k = 8 ∨ k = 9 ∨ k = 10 ∨ k = 11 := by omega
  rcases this with rfl | rfl | rfl | rfl | rfl | rfl | rfl | rfl | rfl | rfl | rfl | rfl <;> decide +kernel
theorem fix_ne (w n : Nat) (h : 0 < w) : fixL w n ≠ [] := fun e => by have := fixL_len w n; rw [e] at this; simp at this; omega
theorem imf_bs (k d m y h n s : Nat) : bs (imfS k d m y h n s) = bs (dayS k) ++ (44 :: 32 :: (fixL 2 d ++ (32 :: (bs (monS m) ++ (32 :: (fixL 4 y ++ (32 :: (bs (handS h n s) ++ (32 :: [71, 77, 84]))))))))) := by
  unfold imfS
  simp only [bs_append, List.append_assoc]
  rfl
theorem hand_noPart (h n s : Nat) : noPart (bs (handS h n s)) = true ∧ bs (handS h n s) ≠ [] := by
  rw [hand_bs, show (58 :: (fixL 2 n ++ (58 :: fixL 2 s))) = [58] ++ (fixL 2 n ++ ([58] ++ fixL 2 s)) from rfl, noPart_app, noPart_app, noPart_app, noPart_app, fix_noPart, fix_noPart, fix_noPart]
  exact ⟨by decide, by simp [fixL]⟩
theorem imf_words (k d m y h n s : Nat) (hk : k < 7) (hm : m < 12) : wordsS (imfS k d m y h n s) = [dayS k, fixS 2 d, monS m, fixS 4 y, handS h n s, ⟨#[71, 77, 84]⟩] := by
  obtain ⟨-, -, d1, d2⟩ := day_facts k hk
  obtain ⟨-, -, m1, m2⟩ := mon_facts m hm
  obtain ⟨t1, t2⟩ := hand_noPart h n s
  have p44 : partsB (((44 : UInt8).toNat : Nat) : Int) = true := by decide
  have p32 : partsB (((32 : UInt8).toNat : Nat) : Int) = true := by decide
  unfold wordsS
  rw [imf_bs, wordsA_cut _ _ _ d1 d2 p44, wordsA_skip _ _ p32, wordsA_cut _ _ _ (fix_noPart 2 d) (fix_ne 2 d (by decide)) p32, wordsA_cut _ _ _ m1 m2 p32,
    wordsA_cut _ _ _ (fix_noPart 4 y) (fix_ne 4 y (by decide)) p32, wordsA_cut _ _ _ t1 t2 p32, wordsA_end _ (by decide) (by decide)]
  rfl
theorem gmt_facts : ndig ⟨#[71, 77, 84]⟩ = 0 ∧ monthN ⟨#[71, 77, 84]⟩ = 0 := by decide +kernel
theorem imf_found (k d m y h n s : Nat) (hk : k < 7) (hm : m < 12) (hd : d < 100) (hy : y < 10000) (hh : h < 100) (hn : n < 100) (hs : s < 100) :
    foundL (wordsS (imfS k d m y h n s)) = ⟨true, true, true, true, y, ((m + 1 : Nat) : Int), d, h, n, s⟩ := by
  obtain ⟨d0, d1, -, -⟩ := day_facts k hk
  obtain ⟨m0, m1, -, -⟩ := mon_facts m hm
  rw [imf_words k d m y h n s hk hm]
  unfold foundL
  simp only [List.foldl_cons, List.foldl_nil]
  rw [next_text (f := f0) d0 d1, next_day (f := f0) (w := 2) hd (by decide) (by decide) rfl, next_month m0 m1 rfl, next_year (w := 4) hy (by decide) (by decide) rfl rfl rfl, next_time hh hn hs rfl, next_text gmt_facts.1 gmt_facts.2]
theorem secs_year {t : Int} {y m d h n s : Nat} (hc : CkN t y m d h n s) (h0 : 0 ≤ t) : 1970 ≤ y := by
  have hv := hc.v.1
  have h1 := hc.t
  obtain ⟨b1, b2, b3, b4, b5, b6⟩ := hc.v.2
  unfold secs at h1
  have h2 : 0 ≤ num (y : Int) m d := by omega
  rcases Nat.lt_or_ge y 1970 with hlt | hge
  · exfalso
    have hb := (num_bd hv)
    have := ahead_mono (show (y : Int) + 1 ≤ 1970 by omega)
    rw [ahead_1970, ahead_succ] at this
    obtain ⟨c1, c2, c3, c4, c5, c6⟩ := hv
    have hcm : cum (leapB y) ((m : Int) + 1) ≤ ylen y := by
      have k13 := cum_13 (leapB (y : Int))
      have hle : cum (leapB (y : Int)) ((m : Int) + 1) ≤ cum (leapB (y : Int)) 13 := by
        have : (m : Int) = 1 ∨ (m : Int) = 2 ∨ (m : Int) = 3 ∨ (m : Int) = 4 ∨ (m : Int) = 5 ∨ (m : Int) = 6 ∨ (m : Int) = 7 ∨ (m : Int) = 8 ∨ (m : Int) = 9 ∨ (m : Int) = 10 ∨ (m : Int) = 11 ∨ (m : Int) = 12 := by omega
        cases leapB (y : Int) <;> rcases this with e | e | e | e | e | e | e | e | e | e | e | e <;> rw [e] <;> decide
      unfold ylen
      rw [k13] at hle
      exact hle
    rw [cum_succ _ _ c3 c4] at hcm
    unfold num at h2
    omega
  · exact hge
theorem imf_cookie {t : Int} {k y m d h n s : Nat} (hc : CkN t y (m + 1) d h n s) (hk : k < 7) (h0 : 0 ≤ t) : cookieV (imfS k d m y h n s) = .tuple #[.int .i64 t, .bool true] := by
  have hm : m < 12 := by have := hc.m1; omega
  have hy := secs_year hc h0
  have hce : cent (y : Int) = y := by unfold cent; rw [if_neg (by omega), if_neg (by omega)]
  unfold cookieV
  rw [imf_found k d m y h n s hk hm hc.d1 hc.y1 hc.h1 hc.n1 hc.s1]
  unfold fdV
  simp only [hce]
  rw [if_pos ⟨rfl, by omega, hc.v⟩, hc.t]
end Go.Proofs.YtngamlikhgilhaaGreatDoor
