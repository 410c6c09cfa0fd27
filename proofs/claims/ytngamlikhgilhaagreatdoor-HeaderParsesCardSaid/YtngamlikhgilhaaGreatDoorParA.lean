/- The reference's site, bound and age. (printed by wip/genpara.py) -/
import Derived.Test.YtngamlikhgilhaaGreatDoorZL
namespace Go.Proofs.YtngamlikhgilhaaGreatDoor
open Go.RowKit Go.Shelf

set_option maxRecDepth 100000 in
theorem rsite_any (s : ByteArray) (w : World) (hs : s.size ≤ 9223372036854775807) :
    Calls Tryz.prog 64 #[.string s] w fun e w' => e = .returned (.int .i64 (siteN s)) ∧ Below w.heap.size w w' := by
  have HL := Lib.hid (show siteN s = siteN s from rfl)
  by_cases h1 : lowS s = ⟨#[108, 97, 120]⟩
  · have HN := Lib.hid (show siteN s = 1 by unfold siteN; rw [if_pos h1])
    have H1 := Lib.hid h1
    clear h1 HL
    go_enter Tryz.func64, Tryz.ntmps64
    go_wp2_with fail
    refine (rlower_any s _ hs).mono ?_
    rintro e w1 ⟨rfl, hb1⟩
    rw [H1.out]
    go_wp2_with fail
    go_ret
    exact ⟨by rw [HN.out]; rfl, hb1⟩
  by_cases h2 : lowS s = ⟨#[115, 116, 114, 105, 99, 116]⟩
  · have HN := Lib.hid (show siteN s = 2 by unfold siteN; rw [if_neg h1, if_pos h2])
    have H1 := Lib.hid h2
    clear h1 h2 HL
    go_enter Tryz.func64, Tryz.ntmps64
    go_wp2_with fail
    refine (rlower_any s _ hs).mono ?_
    rintro e w1 ⟨rfl, hb1⟩
    rw [H1.out]
    go_wp2_with fail
    go_ret
    exact ⟨by rw [HN.out]; rfl, hb1⟩
  by_cases h3 : lowS s = ⟨#[110, 111, 110, 101]⟩
  · have HN := Lib.hid (show siteN s = 3 by unfold siteN; rw [if_neg h1, if_neg h2, if_pos h3])
    have H1 := Lib.hid h3
    clear h1 h2 h3 HL
    go_enter Tryz.func64, Tryz.ntmps64
    go_wp2_with fail
    refine (rlower_any s _ hs).mono ?_
    rintro e w1 ⟨rfl, hb1⟩
    rw [H1.out]
    go_wp2_with fail
    go_ret
    exact ⟨by rw [HN.out]; rfl, hb1⟩
  have HN := Lib.hid (show siteN s = 0 by unfold siteN; rw [if_neg h1, if_neg h2, if_neg h3])
  have q1 := str_neL (l := [108, 97, 120]) h1
  have q2 := str_neL (l := [115, 116, 114, 105, 99, 116]) h2
  have q3 := str_neL (l := [110, 111, 110, 101]) h3
  clear h1 h2 h3 HL
  go_enter Tryz.func64, Tryz.ntmps64
  go_wp2_with fail
  refine (rlower_any s _ hs).mono ?_
  rintro e w1 ⟨rfl, hb1⟩
  go_wp2_with fail
  go_ret
  exact ⟨by rw [HN.out]; rfl, hb1⟩
def boundN (x lo hi : Int) : Int := if x < lo then lo else if hi < x then hi else x
theorem rbound_any (x lo hi : Int) (w : World) : Calls Tryz.prog 63 #[.int .i64 x, .int .i64 lo, .int .i64 hi] w fun e w' => e = .returned (.int .i64 (boundN x lo hi)) ∧ w = w' := by
  by_cases h1 : x < lo
  · have HB := Lib.hid (show boundN x lo hi = lo from if_pos h1)
    go_enter Tryz.func63, Tryz.ntmps63
    go_wp2_with fail
    go_ret
    exact ⟨by rw [HB.out]; rfl, rfl⟩
  by_cases h2 : hi < x
  · have HB := Lib.hid (show boundN x lo hi = hi by unfold boundN; rw [if_neg h1, if_pos h2])
    go_enter Tryz.func63, Tryz.ntmps63
    go_wp2_with fail
    go_ret
    exact ⟨by rw [HB.out]; rfl, rfl⟩
  · have HB := Lib.hid (show boundN x lo hi = x by unfold boundN; rw [if_neg h1, if_neg h2])
    go_enter Tryz.func63, Tryz.ntmps63
    go_wp2_with fail
    go_ret
    exact ⟨by rw [HB.out]; rfl, rfl⟩
def agV (s : ByteArray) (now : Int) : Int := if ageN s = 0 then 1 else if 0 < ageN s then min (now + ageN s) 253402300799 else 0
theorem decV_zero (l : List UInt8) : decV (48 :: l) = decV l := by
  unfold decV
  rw [List.foldl_cons]
  rfl
theorem decV_noz (l : List UInt8) : decV (l.dropWhile (· == 48)) = decV l := by
  induction l with
  | nil => rfl
  | cons x l ih =>
    rw [List.dropWhile_cons]
    by_cases hx : x = 48
    · rw [if_pos (by simpa using hx), ih, hx, decV_zero]
    · rw [if_neg (by simpa using hx)]
theorem fold_ge (l : List UInt8) (n : Int) (h0 : 0 ≤ n) (h : allD l = true) : n * 10 ^ l.length ≤ l.foldl (fun n c => 10 * n + ((c.toNat : Int) - 48)) n := by
  induction l generalizing n with
  | nil => rw [List.length_nil, List.foldl_nil, Int.pow_zero, Int.mul_one]; exact Int.le_refl _
  | cons x l ih =>
    have hx := dig_range h x (List.mem_cons_self ..)
    have hl : allD l = true := by unfold allD at h ⊢; rw [List.all_cons, Bool.and_eq_true] at h; exact h.2
    rw [List.foldl_cons, List.length_cons]
    have h1 := ih (10 * n + ((x.toNat : Int) - 48)) (by omega) hl
    refine Int.le_trans ?_ h1
    rw [Int.pow_succ, Int.mul_comm (10 ^ l.length) 10, ← Int.mul_assoc]
    refine Int.mul_le_mul_of_nonneg_right (by omega) (Int.pow_nonneg (by decide))
theorem noz_ge {d : ByteArray} (h : allD (bs d) = true) (hn : nozS d ≠ ⟨#[]⟩) : (10 : Int) ^ ((nozS d).size - 1) ≤ decV (bs d) := by
  have e : bs (nozS d) = (bs d).dropWhile (· == 48) := by unfold nozS; rw [bs_mk]
  rw [← decV_noz, ← e]
  have ha := noz_allD d h
  have hz := size_bs (nozS d)
  cases hl : bs (nozS d) with
  | nil => exact absurd (bs_inj (by rw [hl]; rfl)) hn
  | cons x l =>
    rw [hl] at ha hz
    have hx := dig_range ha x (List.mem_cons_self ..)
    have hne : x ≠ 48 := by
      intro h9
      have h8 := hl
      rw [e, h9] at h8
      have := List.head?_dropWhile_not (fun c : UInt8 => c == 48) (bs d)
      rw [h8] at this
      simp at this
    have hl2 : allD l = true := by unfold allD at ha ⊢; rw [List.all_cons, Bool.and_eq_true] at ha; exact ha.2
    have h49 : 49 ≤ x.toNat := by
      rcases Nat.lt_or_ge x.toNat 49 with h7 | h7
      · exact absurd (UInt8.toNat.inj (show x.toNat = (48 : UInt8).toNat by have : (48 : UInt8).toNat = 48 := rfl; omega)) hne
      · exact h7
    unfold decV
    rw [List.foldl_cons]
    have h1 := fold_ge l (10 * 0 + ((x.toNat : Int) - 48)) (by omega) hl2
    refine Int.le_trans ?_ h1
    rw [hz, List.length_cons, Nat.add_sub_cancel]
    have h2 : (0 : Int) ≤ 10 ^ l.length := Int.pow_nonneg (by decide)
    have := Int.mul_le_mul_of_nonneg_right (show (1 : Int) ≤ 10 * 0 + ((x.toNat : Int) - 48) by omega) h2
    rw [Int.one_mul] at this
    exact this
theorem ageD_yes {d : ByteArray} {now : Int} (h0 : d ≠ ⟨#[]⟩) (h : allD (bs d) = true) (hn : 0 ≤ now) :
    (if ageD false d = 0 then 1 else if 0 < ageD false d then min (now + ageD false d) 253402300799 else 0) = (if min (decV (bs d)) 253402300799 = 0 then 1 else boundN (now + min (decV (bs d)) 253402300799) 1 253402300799) := by
  have hb := decV_bd _ h
  by_cases hz : nozS d = ⟨#[]⟩
  · have hd : decV (bs d) = 0 := by
      have e : bs (nozS d) = (bs d).dropWhile (· == 48) := by unfold nozS; rw [bs_mk]
      rw [← decV_noz, ← e, hz]
      rfl
    have ha : ageD false d = 0 := by unfold ageD; rw [if_neg (by simp [h0, h]), if_pos (Or.inr hz)]
    rw [ha, hd]
    rfl
  · have hg := noz_ge h hz
    have hpos : 1 ≤ decV (bs d) := Int.le_trans (show (1 : Int) ≤ 10 ^ ((nozS d).size - 1) by exact_mod_cast Nat.pow_le_pow_right (by decide : 0 < 10) (Nat.zero_le ((nozS d).size - 1))) hg
    by_cases hl : 12 < (nozS d).size
    · have ha : ageD false d = 253402300799 := by unfold ageD; rw [if_neg (by simp [h0, h]), if_neg (by simp [hz]), if_pos hl]
      have h12 : (10 : Int) ^ 12 ≤ decV (bs d) := Int.le_trans (show (10 : Int) ^ 12 ≤ 10 ^ ((nozS d).size - 1) by exact_mod_cast Nat.pow_le_pow_right (by decide : 0 < 10) (show 12 ≤ (nozS d).size - 1 by omega)) hg
      have e12 : (10 : Int) ^ 12 = 1000000000000 := by decide
      rw [ha]
      unfold boundN
      split <;> split <;> (try split) <;> (try split) <;> omega
    · have ha : ageD false d = decV (bs d) := by
        have e : bs (nozS d) = (bs d).dropWhile (· == 48) := by unfold nozS; rw [bs_mk]
        unfold ageD
        rw [if_neg (by simp [h0, h]), if_neg (by simp [hz]), if_neg hl, e, decV_noz]
      rw [ha]
      unfold boundN
      split <;> split <;> (try split) <;> (try split) <;> omega
theorem ageD_min {d : ByteArray} (h0 : d ≠ ⟨#[]⟩) (h : allD (bs d) = true) : ageD true d = 0 := by unfold ageD; rw [if_neg (by simp [h0, h]), if_pos (Or.inl rfl)]
theorem ageD_no {g : Bool} {d : ByteArray} (h : d = ⟨#[]⟩ ∨ allD (bs d) = false) : ageD g d = -1 := if_pos h
end Go.Proofs.YtngamlikhgilhaaGreatDoor
