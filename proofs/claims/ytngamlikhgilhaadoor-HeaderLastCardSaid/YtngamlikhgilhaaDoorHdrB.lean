/- Contract of header's age. -/
import Derived.Test.YtngamlikhgilhaaDoorHdrA
namespace Go.Proofs.YtngamlikhgilhaaDoor
open Go.RowKit

def digC : List UInt8 := [48, 49, 50, 51, 52, 53, 54, 55, 56, 57]
theorem digC_at (c : UInt8) : digC.contains c = digB (c.toNat : Int) := by
  rw [Bool.eq_iff_iff, dig_iff]
  simp only [digC, List.contains_cons, List.contains_nil, Bool.or_false, Bool.or_eq_true, beq_iff_eq, ← UInt8.toNat_inj]
  have e0 : (48 : UInt8).toNat = 48 := rfl
  have e1 : (49 : UInt8).toNat = 49 := rfl
  have e2 : (50 : UInt8).toNat = 50 := rfl
  have e3 : (51 : UInt8).toNat = 51 := rfl
  have e4 : (52 : UInt8).toNat = 52 := rfl
  have e5 : (53 : UInt8).toNat = 53 := rfl
  have e6 : (54 : UInt8).toNat = 54 := rfl
  have e7 : (55 : UInt8).toNat = 55 := rfl
  have e8 : (56 : UInt8).toNat = 56 := rfl
  have e9 : (57 : UInt8).toNat = 57 := rfl
  omega
theorem dw_all {p : UInt8 → Bool} : ∀ l : List UInt8, (l.dropWhile p = [] ↔ l.all p = true)
  | [] => by simp
  | x :: l => by
    have hi := dw_all (p := p) l
    cases hx : p x
    · rw [List.dropWhile_cons_of_neg (by simp [hx])]
      simp [hx]
    · rw [List.dropWhile_cons_of_pos hx, hi]
      simp [hx]
/-- A text without the digits at its ends. -/
def undigS (s : ByteArray) : ByteArray := ⟨(Lib.trimS s.data.toList digC).toArray⟩
theorem undig_iff (s : ByteArray) : undigS s = ⟨#[]⟩ ↔ allD (bs s) = true := by
  have hp : (fun x => digC.contains x) = fun c : UInt8 => digB (c.toNat : Int) := funext digC_at
  have h1 : bs (undigS s) = (rdw (fun c : UInt8 => digB (c.toNat : Int)) (bs s)).dropWhile (fun c : UInt8 => digB (c.toNat : Int)) := by
    unfold undigS Lib.trimS Lib.trimLeftS Lib.trimRightS rdw
    rw [hp]
    rfl
  rw [show undigS s = ⟨#[]⟩ ↔ bs (undigS s) = [] from ⟨fun h => by rw [h]; rfl, fun h => bs_inj h⟩, h1, dw_rdw]
  unfold allD rdw
  rw [List.reverse_eq_nil_iff, dw_all, List.all_reverse]
  constructor
  · intro h
    rw [← dw_all]
    cases hd : (bs s).dropWhile (fun c : UInt8 => digB (c.toNat : Int)) with
    | nil => rfl
    | cons x r =>
      rw [hd] at h
      have hx := List.head?_dropWhile_not (fun c : UInt8 => digB (c.toNat : Int)) (bs s)
      rw [hd] at hx
      simp only [List.head?_cons, List.all_cons, Bool.and_eq_true] at hx h
      rw [h.1] at hx
      simp at hx
  · intro h
    rw [(dw_all _).2 h]
    rfl
theorem libUndig_any (s : ByteArray) (w : World) (hs : s.size ≤ 9223372036854775807) : Calls Tryd.prog 34 #[.string s, .string ⟨#[48, 49, 50, 51, 52, 53, 54, 55, 56, 57]⟩] w fun e w' => e = .returned (.string (undigS s)) ∧ Below w.heap.size w w' :=
  Any.strings_Trim_laid Tryd.lays160 (by kernel_rfl) s ⟨#[48, 49, 50, 51, 52, 53, 54, 55, 56, 57]⟩ w hs (by decide) (ascii_of_all (by decide))
/-- Digits without the zeros ahead. -/
def nozS (s : ByteArray) : ByteArray := mk ((bs s).dropWhile (· == 48))
theorem libNoz_any (s : ByteArray) (w : World) : Calls Tryd.prog 35 #[.string s, .string ⟨#[48]⟩] w fun e w' => e = .returned (.string (nozS s)) ∧ w = w' :=
  (Any.strings_TrimLeft_one Tryd.lays161 s 48 (by decide) w).mono (by rintro e w' ⟨rfl, rfl⟩; exact ⟨rfl, rfl⟩)
theorem dw_len (p : UInt8 → Bool) : ∀ l : List UInt8, (l.dropWhile p).length ≤ l.length
  | [] => Nat.le_refl _
  | x :: l => by
    rw [List.dropWhile_cons]
    split
    · exact Nat.le_succ_of_le (dw_len p l)
    · exact Nat.le_refl _
theorem cutS_len (s p : ByteArray) : (cutS s p).size ≤ s.size := by
  unfold cutS
  split
  · rw [ByteArray.size_extract]; omega
  · exact Nat.le_refl _
/-- How long a cookie lives, by its digits. -/
def ageD (gone : Bool) (d : ByteArray) : Int :=
  if d = ⟨#[]⟩ ∨ allD (bs d) = false then -1
  else if gone = true ∨ nozS d = ⟨#[]⟩ then 0
  else if 12 < (nozS d).size then 253402300799 else decV (bs (nozS d))
def ageN (s : ByteArray) : Int := ageD (preB s ⟨#[45]⟩) (cutS s ⟨#[45]⟩)
theorem str_ne0 {a : ByteArray} (h : a ≠ ⟨#[]⟩) : (a.toList == []) = false := str_neL (l := []) h
theorem noz_allD (d : ByteArray) (h : allD (bs d) = true) : allD (bs (nozS d)) = true := by
  unfold nozS
  rw [bs_mk]
  unfold allD at h ⊢
  exact List.all_eq_true.2 fun x hx => List.all_eq_true.1 h x ((List.dropWhile_sublist _).mem hx)
set_option maxRecDepth 100000 in
theorem age_any (s : ByteArray) (w : World) (hs : s.size ≤ 9223372036854775807) :
    Calls Tryd.prog 14 #[.string s] w fun e w' => e = .returned (.int .i64 (ageN s)) ∧ Below w.heap.size w w' := by
  have hz := cutS_len s ⟨#[45]⟩
  have HA := Lib.hid (show ageN s = ageD (preB s ⟨#[45]⟩) (cutS s ⟨#[45]⟩) from rfl)
  have HC := Lib.hid (fun w => cutPrefix_any s ⟨#[45]⟩ w hs)
  generalize cutS s ⟨#[45]⟩ = d at *
  generalize preB s ⟨#[45]⟩ = gone at *
  have hd : d.size ≤ 9223372036854775807 := Nat.le_trans hz hs
  have HU := Lib.hid (fun w => libUndig_any d w hd)
  have HZ := Lib.hid (fun w => libNoz_any d w)
  have hzl : (nozS d).size ≤ d.size := by
    unfold nozS; rw [size_mk, size_bs]; exact dw_len _ _
  by_cases h0 : d = ⟨#[]⟩
  · have HN := Lib.hid (show ageN s = -1 by rw [HA.out]; unfold ageD; rw [if_pos (Or.inl h0)])
    subst h0
    clear HA HU HZ hzl
    go_enter Tryd.func14, Tryd.ntmps14
    go_wp2_with fail
    refine (HC.out _).mono ?_
    rintro e w1 ⟨rfl, rfl⟩
    go_wp2_with fail
    go_ret
    exact ⟨by rw [HN.out]; rfl, Below.refl _ _⟩
  have q0 := str_ne0 h0
  by_cases h1 : undigS d = ⟨#[]⟩
  · have hD := (undig_iff d).1 h1
    have H1 := Lib.hid h1
    by_cases h2 : nozS d = ⟨#[]⟩
    · have HN := Lib.hid (show ageN s = 0 by rw [HA.out]; unfold ageD; rw [if_neg (by rw [hD]; simp [h0]), if_pos (Or.inr h2)])
      have H2 := Lib.hid h2
      clear HA h0 h1 h2 hD hzl
      cases gone <;>
      · go_enter Tryd.func14, Tryd.ntmps14
        go_wp2_with fail
        refine (HC.out _).mono ?_
        rintro e w1 ⟨rfl, rfl⟩
        go_wp2_with fail
        refine (HU.out _).mono ?_
        rintro e w1 ⟨rfl, hb⟩
        rw [H1.out]
        go_wp2_with fail
        refine (HZ.out _).mono ?_
        rintro e w2 ⟨rfl, rfl⟩
        rw [H2.out]
        go_wp2_with fail
        go_ret
        exact ⟨by rw [HN.out]; rfl, hb⟩
    · have q2 := str_ne0 h2
      cases gone
      · by_cases h3 : 12 < (nozS d).size
        · have HN := Lib.hid (show ageN s = 253402300799 by rw [HA.out]; unfold ageD; rw [if_neg (by rw [hD]; simp [h0]), if_neg (by simp [h2]), if_pos h3])
          have H3 := Lib.hid (show (nozS d).size ≤ 9223372036854775807 by omega)
          have H4 := Lib.hid (show decide ((12 : Int) < ((nozS d).size : Int)) = true by simp; omega)
          generalize nozS d = z at *
          have hzz : z.size ≤ 9223372036854775807 := H3.out
          clear HA h0 h1 h2 hD hzl
          go_enter Tryd.func14, Tryd.ntmps14
          go_wp2_with fail
          refine (HC.out _).mono ?_
          rintro e w1 ⟨rfl, rfl⟩
          go_wp2_with fail
          refine (HU.out _).mono ?_
          rintro e w1 ⟨rfl, hb⟩
          rw [H1.out]
          go_wp2_with fail
          refine (HZ.out _).mono ?_
          rintro e w2 ⟨rfl, rfl⟩
          go_wp2_with fail
          go_ret
          exact ⟨by rw [HN.out]; rfl, hb⟩
        · have h5 := noz_allD d hD
          have h6 : 1 ≤ (nozS d).size := by
            rcases Nat.eq_zero_or_pos (nozS d).size with h | h
            · exact absurd (bs_inj (by rw [size_zero h]; rfl)) h2
            · exact h
          have HN := Lib.hid (show ageN s = decV (bs (nozS d)) by rw [HA.out]; unfold ageD; rw [if_neg (by rw [hD]; simp [h0]), if_neg (by simp [h2]), if_neg h3])
          have HF := Lib.hid (show unfV (unfO (nozS d)) = .tuple #[.int .i64 (decV (bs (nozS d))), .bool true] by rw [unf_yes h6 (by omega) h5]; rfl)
          generalize decV (bs (nozS d)) = y at *
          generalize nozS d = z at *
          have hzz : z.size ≤ 9223372036854775807 := by omega
          clear HA h0 h1 h2 hD hzl h5 h6
          go_enter Tryd.func14, Tryd.ntmps14
          go_wp2_with fail
          refine (HC.out _).mono ?_
          rintro e w1 ⟨rfl, rfl⟩
          go_wp2_with fail
          refine (HU.out _).mono ?_
          rintro e w1 ⟨rfl, hb⟩
          rw [H1.out]
          go_wp2_with fail
          refine (HZ.out _).mono ?_
          rintro e w2 ⟨rfl, rfl⟩
          go_wp2_with fail
          refine (unfixed_any z _ hzz).mono ?_
          rintro e w2 ⟨rfl, rfl⟩
          rw [HF.out]
          go_wp2_with fail
          go_ret
          exact ⟨by rw [HN.out]; rfl, hb⟩
      · have HN := Lib.hid (show ageN s = 0 by rw [HA.out]; unfold ageD; rw [if_neg (by rw [hD]; simp [h0]), if_pos (Or.inl rfl)])
        clear HA h0 h1 h2 hD hzl
        go_enter Tryd.func14, Tryd.ntmps14
        go_wp2_with fail
        refine (HC.out _).mono ?_
        rintro e w1 ⟨rfl, rfl⟩
        go_wp2_with fail
        refine (HU.out _).mono ?_
        rintro e w1 ⟨rfl, hb⟩
        rw [H1.out]
        go_wp2_with fail
        refine (HZ.out _).mono ?_
        rintro e w2 ⟨rfl, rfl⟩
        go_wp2_with fail
        go_ret
        exact ⟨by rw [HN.out]; rfl, hb⟩
  · have q1 := str_ne0 h1
    have hD : allD (bs d) = false := by
      cases h : allD (bs d)
      · rfl
      · exact absurd ((undig_iff d).2 h) h1
    have HN := Lib.hid (show ageN s = -1 by rw [HA.out]; unfold ageD; rw [if_pos (Or.inr hD)])
    clear HA h0 h1 hD hzl HZ
    go_enter Tryd.func14, Tryd.ntmps14
    go_wp2_with fail
    refine (HC.out _).mono ?_
    rintro e w1 ⟨rfl, rfl⟩
    go_wp2_with fail
    refine (HU.out _).mono ?_
    rintro e w1 ⟨rfl, hb⟩
    go_wp2_with fail
    go_ret
    exact ⟨by rw [HN.out]; rfl, hb⟩
end Go.Proofs.YtngamlikhgilhaaDoor
