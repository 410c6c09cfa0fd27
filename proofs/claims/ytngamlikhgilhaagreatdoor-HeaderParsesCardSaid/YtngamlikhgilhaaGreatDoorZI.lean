/- Contracts of header's pair and site. -/
import Derived.Test.YtngamlikhgilhaaGreatDoorZB
import Derived.Test.YtngamlikhgilhaaGreatDoorZH
import Derived.Test.YtngamlikhgilhaaGreatDoorZF
import Derived.Test.YtngamlikhgilhaaGreatDoorZG
import Derived.Deep.MidRow
namespace Go.Proofs.YtngamlikhgilhaaGreatDoor
open Go.RowKit

theorem Hsnoc {w w1 w2 : World} (h : Below w.heap.size w w1) (h2 : Below w1.heap.size w1 w2) : Below w.heap.size w w2 := h.trans (h2.mono h.size)
/-- A text parted at the first of a byte. -/
def cutL (c : UInt8) : List UInt8 → List UInt8 × List UInt8 × Bool
  | [] => ([], [], false)
  | x :: l => if x = c then ([], l, true) else ((x :: (cutL c l).1), (cutL c l).2.1, (cutL c l).2.2)
def cutV3 (c : UInt8) (s : ByteArray) : Value := .tuple #[.string (mk (cutL c (bs s)).1), .string (mk (cutL c (bs s)).2.1), .bool (cutL c (bs s)).2.2]
theorem cutL_none (c : UInt8) : ∀ l : List UInt8, (∀ k : Nat, l[k]? ≠ some c) → cutL c l = (l, [], false)
  | [], _ => rfl
  | x :: l, h => by
    have hx : x ≠ c := fun e => h 0 (by rw [e]; rfl)
    have hi := cutL_none c l (fun k hk => h (k + 1) (by simpa using hk))
    rw [cutL, if_neg hx, hi]
theorem cutL_some (c : UInt8) : ∀ (l : List UInt8) (k : Nat), FirstAtC l c k → cutL c l = (l.take k, l.drop (k + 1), true)
  | [], k, h => by have := h.1; simp at this
  | x :: l, 0, h => by
    have hx : x = c := by have := h.1; simpa using this
    rw [cutL, if_pos hx]
    rfl
  | x :: l, k + 1, h => by
    have hx : x ≠ c := fun e => h.2 0 (by omega) (by rw [e]; rfl)
    have hi := cutL_some c l k ⟨by have := h.1; simpa using this, fun j hj e => h.2 (j + 1) (by omega) (by simpa using e)⟩
    rw [cutL, if_neg hx, hi]
    rfl
theorem cutL_len (c : UInt8) : ∀ l : List UInt8, (cutL c l).1.length ≤ l.length ∧ (cutL c l).2.1.length ≤ l.length ∧ (l ≠ [] → (cutL c l).2.1.length < l.length)
  | [] => ⟨Nat.le_refl _, Nat.le_refl _, fun h => absurd rfl h⟩
  | x :: l => by
    have hi := cutL_len c l
    rw [cutL]
    split
    · simp
    · simp only [List.length_cons]
      omega
theorem acut_any (s : ByteArray) (c : UInt8) (w : World) (hs : s.size ≤ 9223372036854775807) :
    Calls Tryz.prog 16 #[.string s, .int .u8 (c.toNat : Int)] w fun e w' => e = .returned (cutV3 c s) ∧ Below w.heap.size w w' := by
  rcases first_or (bs s) c with h | ⟨k, h⟩
  · refine (cut_none s c w h).mono ?_
    rintro e w' ⟨rfl, rfl⟩
    refine ⟨?_, Below.refl _ _⟩
    unfold cutV3
    rw [cutL_none c _ h]
    rfl
  · refine (cut_some s c k w hs h).mono ?_
    rintro e w' ⟨rfl, n, rfl⟩
    refine ⟨?_, Bdrawn (Below.refl _ _) n⟩
    unfold cutV3
    rw [cutL_some c _ k h]
    have e1 : s.extract 0 k = mk ((bs s).take k) := by apply bs_inj; rw [bs_extract, bs_mk, List.drop_zero]
    have e2 : s.extract (k + 1) s.size = mk ((bs s).drop (k + 1)) := by apply bs_inj; rw [bs_extract, bs_mk, List.take_of_length_le (by rw [← size_bs]; exact Nat.le_refl _)]
    rw [e1, e2]
theorem acut61 (s : ByteArray) (w : World) (hs : s.size ≤ 9223372036854775807) : Calls Tryz.prog 16 #[.string s, .int .u8 61] w fun e w' => e = .returned (cutV3 61 s) ∧ Below w.heap.size w w' := acut_any s 61 w hs
theorem acut59 (s : ByteArray) (w : World) (hs : s.size ≤ 9223372036854775807) : Calls Tryz.prog 16 #[.string s, .int .u8 59] w fun e w' => e = .returned (cutV3 59 s) ∧ Below w.heap.size w w' := acut_any s 59 w hs
/-- A name and a value: what is ahead of the first =, and behind it, without blanks. -/
def nameS (s : ByteArray) : ByteArray := trimS (mk (cutL 61 (bs s)).1)
def valueS (s : ByteArray) : ByteArray := trimS (mk (cutL 61 (bs s)).2.1)
def hasS (s : ByteArray) : Bool := (cutL 61 (bs s)).2.2
set_option maxRecDepth 100000 in
theorem pair_any (s : ByteArray) (w : World) (hs : s.size ≤ 9223372036854775807) :
    Calls Tryz.prog 17 #[.string s] w fun e w' => e = .returned (.tuple #[.string (nameS s), .string (valueS s), .bool (hasS s)]) ∧ Below w.heap.size w w' := by
  have h1 := cutL_len 61 (bs s)
  have z1 : (mk (cutL 61 (bs s)).1).size ≤ 9223372036854775807 := by rw [size_mk]; have := size_bs s; omega
  have z2 : (mk (cutL 61 (bs s)).2.1).size ≤ 9223372036854775807 := by rw [size_mk]; have := size_bs s; omega
  have HV := Lib.hid (show cutV3 61 s = .tuple #[.string (mk (cutL 61 (bs s)).1), .string (mk (cutL 61 (bs s)).2.1), .bool (hasS s)] from rfl)
  have HN := Lib.hid (show trimS (mk (cutL 61 (bs s)).1) = nameS s from rfl)
  have HW := Lib.hid (show trimS (mk (cutL 61 (bs s)).2.1) = valueS s from rfl)
  clear h1
  generalize mk (cutL 61 (bs s)).1 = a at *
  generalize mk (cutL 61 (bs s)).2.1 = b at *
  go_enter Tryz.func17, Tryz.ntmps17
  go_wp2_with fail
  refine (acut61 s _ hs).mono ?_
  rintro e w1 ⟨rfl, hb1⟩
  rw [HV.out]
  go_wp2_with fail
  refine (trim_any a _ z1).mono ?_
  rintro e w2 ⟨rfl, hb2⟩
  rw [HN.out]
  have hB2 := Hsnoc hb1 hb2
  clear hb1 hb2
  go_wp2_with fail
  refine (trim_any b _ z2).mono ?_
  rintro e w3 ⟨rfl, hb3⟩
  rw [HW.out]
  have hB3 := Hsnoc hB2 hb3
  clear hB2 hb3
  go_wp2_with fail
  go_ret3
  exact ⟨rfl, hB3⟩
/-- What a SameSite says. -/
def siteN (s : ByteArray) : Int := if lowS s = ⟨#[108, 97, 120]⟩ then 1 else if lowS s = ⟨#[115, 116, 114, 105, 99, 116]⟩ then 2 else if lowS s = ⟨#[110, 111, 110, 101]⟩ then 3 else 0
theorem toLh (s : ByteArray) : s.toList = bs s := ByteArray.toList_eq s
theorem str_neL {a : ByteArray} {l : List UInt8} (h : a ≠ mk l) : (a.toList == l) = false := beq_eq_false_iff_ne.2 (fun e => h (bs_inj (by rw [toLh] at e; rw [bs_mk]; exact e)))
set_option maxRecDepth 100000 in
theorem site_any (s : ByteArray) (w : World) (hs : s.size ≤ 9223372036854775807) :
    Calls Tryz.prog 24 #[.string s] w fun e w' => e = .returned (.int .i64 (siteN s)) ∧ Below w.heap.size w w' := by
  have HL := Lib.hid (show siteN s = siteN s from rfl)
  by_cases h1 : lowS s = ⟨#[108, 97, 120]⟩
  · have HN := Lib.hid (show siteN s = 1 by unfold siteN; rw [if_pos h1])
    have H1 := Lib.hid h1
    clear h1 HL
    go_enter Tryz.func24, Tryz.ntmps24
    go_wp2_with fail
    refine (lower_any s _ hs).mono ?_
    rintro e w1 ⟨rfl, hb1⟩
    rw [H1.out]
    go_wp2_with fail
    go_ret
    exact ⟨by rw [HN.out]; rfl, hb1⟩
  by_cases h2 : lowS s = ⟨#[115, 116, 114, 105, 99, 116]⟩
  · have HN := Lib.hid (show siteN s = 2 by unfold siteN; rw [if_neg h1, if_pos h2])
    have H1 := Lib.hid h2
    clear h1 h2 HL
    go_enter Tryz.func24, Tryz.ntmps24
    go_wp2_with fail
    refine (lower_any s _ hs).mono ?_
    rintro e w1 ⟨rfl, hb1⟩
    rw [H1.out]
    go_wp2_with fail
    go_ret
    exact ⟨by rw [HN.out]; rfl, hb1⟩
  by_cases h3 : lowS s = ⟨#[110, 111, 110, 101]⟩
  · have HN := Lib.hid (show siteN s = 3 by unfold siteN; rw [if_neg h1, if_neg h2, if_pos h3])
    have H1 := Lib.hid h3
    clear h1 h2 h3 HL
    go_enter Tryz.func24, Tryz.ntmps24
    go_wp2_with fail
    refine (lower_any s _ hs).mono ?_
    rintro e w1 ⟨rfl, hb1⟩
    rw [H1.out]
    go_wp2_with fail
    go_ret
    exact ⟨by rw [HN.out]; rfl, hb1⟩
  have HN := Lib.hid (show siteN s = 0 by unfold siteN; rw [if_neg h1, if_neg h2, if_neg h3])
  have q1 := str_neL (l := [108, 97, 120]) h1
  have q2 := str_neL (l := [115, 116, 114, 105, 99, 116]) h2
  have q3 := str_neL (l := [110, 111, 110, 101]) h3
  clear h1 h2 h3 HL
  go_enter Tryz.func24, Tryz.ntmps24
  go_wp2_with fail
  refine (lower_any s _ hs).mono ?_
  rintro e w1 ⟨rfl, hb1⟩
  go_wp2_with fail
  go_ret
  exact ⟨by rw [HN.out]; rfl, hb1⟩
end Go.Proofs.YtngamlikhgilhaaGreatDoor
/- Contract of header's age. -/
namespace Go.Proofs.YtngamlikhgilhaaGreatDoor
open Go.RowKit

def digC : List UInt8 := [48, 49, 50, 51, 52, 53, 54, 55, 56, 57]
theorem digC_at (c : UInt8) : digC.contains c = digB (c.toNat : Int) := by
  rw [Bool.eq_iff_iff, dig_iff]
  simp only [digC, List.contains_cons, List.contains_nil, Bool.or_false, Bool.or_eq_true, beq_iff_eq, ← UInt8.toNat_inj]
  have e0 : (48 : UInt8).toNat = 48 := rfl
  have e1 : (49 : UInt8).toNat = 49 := rfl
  have e2 : (50 : UInt8).toNat = 50 := rfl
  have e3 : (51 : UInt8).toNat = 51 := rfl
  have e4 : (52 : UInt8).toNat = 52 := rfl
  have e5 : (53 : UInt8).toNat = 53 := rfl
  have e6 : (54 : UInt8).toNat = 54 := rfl
  have e7 : (55 : UInt8).toNat = 55 := rfl
  have e8 : (56 : UInt8).toNat = 56 := rfl
  have e9 : (57 : UInt8).toNat = 57 := rfl
  omega
theorem dw_all {p : UInt8 → Bool} : ∀ l : List UInt8, (l.dropWhile p = [] ↔ l.all p = true)
  | [] => by simp
  | x :: l => by
    have hi := dw_all (p := p) l
    cases hx : p x
    · rw [List.dropWhile_cons_of_neg (by simp [hx])]
      simp [hx]
    · rw [List.dropWhile_cons_of_pos hx, hi]
      simp [hx]
/-- A text without the digits at its ends. -/
def undigS (s : ByteArray) : ByteArray := ⟨(Lib.trimS s.data.toList digC).toArray⟩
theorem undig_iff (s : ByteArray) : undigS s = ⟨#[]⟩ ↔ allD (bs s) = true := by
  have hp : (fun x => digC.contains x) = fun c : UInt8 => digB (c.toNat : Int) := funext digC_at
  have h1 : bs (undigS s) = (rdw (fun c : UInt8 => digB (c.toNat : Int)) (bs s)).dropWhile (fun c : UInt8 => digB (c.toNat : Int)) := by
    unfold undigS Lib.trimS Lib.trimLeftS Lib.trimRightS rdw
    rw [hp]
    rfl
  rw [show undigS s = ⟨#[]⟩ ↔ bs (undigS s) = [] from ⟨fun h => by rw [h]; rfl, fun h => bs_inj h⟩, h1, dw_rdw]
  unfold allD rdw
  rw [List.reverse_eq_nil_iff, dw_all, List.all_reverse]
  constructor
  · intro h
    rw [← dw_all]
    cases hd : (bs s).dropWhile (fun c : UInt8 => digB (c.toNat : Int)) with
    | nil => rfl
    | cons x r =>
      rw [hd] at h
      have hx := List.head?_dropWhile_not (fun c : UInt8 => digB (c.toNat : Int)) (bs s)
      rw [hd] at hx
      simp only [List.head?_cons, List.all_cons, Bool.and_eq_true] at hx h
      rw [h.1] at hx
      simp at hx
  · intro h
    rw [(dw_all _).2 h]
    rfl
theorem libUndig_any (s : ByteArray) (w : World) (hs : s.size ≤ 9223372036854775807) : Calls Tryz.prog 57 #[.string s, .string ⟨#[48, 49, 50, 51, 52, 53, 54, 55, 56, 57]⟩] w fun e w' => e = .returned (.string (undigS s)) ∧ Below w.heap.size w w' :=
  Any.strings_Trim_laid Tryz.lays160 (by kernel_rfl) s ⟨#[48, 49, 50, 51, 52, 53, 54, 55, 56, 57]⟩ w hs (by decide) (ascii_of_all (by decide))
/-- Digits without the zeros ahead. -/
def nozS (s : ByteArray) : ByteArray := mk ((bs s).dropWhile (· == 48))
theorem libNoz_any (s : ByteArray) (w : World) : Calls Tryz.prog 58 #[.string s, .string ⟨#[48]⟩] w fun e w' => e = .returned (.string (nozS s)) ∧ w = w' :=
  (Any.strings_TrimLeft_one Tryz.lays161 s 48 (by decide) w).mono (by rintro e w' ⟨rfl, rfl⟩; exact ⟨rfl, rfl⟩)
theorem dw_len (p : UInt8 → Bool) : ∀ l : List UInt8, (l.dropWhile p).length ≤ l.length
  | [] => Nat.le_refl _
  | x :: l => by
    rw [List.dropWhile_cons]
    split
    · exact Nat.le_succ_of_le (dw_len p l)
    · exact Nat.le_refl _
theorem cutS_len (s p : ByteArray) : (cutS s p).size ≤ s.size := by
  unfold cutS
  split
  · rw [ByteArray.size_extract]; omega
  · exact Nat.le_refl _
/-- How long a cookie lives, by its digits. -/
def ageD (gone : Bool) (d : ByteArray) : Int :=
  if d = ⟨#[]⟩ ∨ allD (bs d) = false then -1
  else if gone = true ∨ nozS d = ⟨#[]⟩ then 0
  else if 12 < (nozS d).size then 253402300799 else decV (bs (nozS d))
def ageN (s : ByteArray) : Int := ageD (preB s ⟨#[45]⟩) (cutS s ⟨#[45]⟩)
theorem str_ne0 {a : ByteArray} (h : a ≠ ⟨#[]⟩) : (a.toList == []) = false := str_neL (l := []) h
theorem noz_allD (d : ByteArray) (h : allD (bs d) = true) : allD (bs (nozS d)) = true := by
  unfold nozS
  rw [bs_mk]
  unfold allD at h ⊢
  exact List.all_eq_true.2 fun x hx => List.all_eq_true.1 h x ((List.dropWhile_sublist _).mem hx)
set_option maxRecDepth 100000 in
theorem age_any (s : ByteArray) (w : World) (hs : s.size ≤ 9223372036854775807) :
    Calls Tryz.prog 21 #[.string s] w fun e w' => e = .returned (.int .i64 (ageN s)) ∧ Below w.heap.size w w' := by
  have hz := cutS_len s ⟨#[45]⟩
  have HA := Lib.hid (show ageN s = ageD (preB s ⟨#[45]⟩) (cutS s ⟨#[45]⟩) from rfl)
  have HC := Lib.hid (fun w => cutPrefix_any s ⟨#[45]⟩ w hs)
  generalize cutS s ⟨#[45]⟩ = d at *
  generalize preB s ⟨#[45]⟩ = gone at *
  have hd : d.size ≤ 9223372036854775807 := Nat.le_trans hz hs
  have HU := Lib.hid (fun w => libUndig_any d w hd)
  have HZ := Lib.hid (fun w => libNoz_any d w)
  have hzl : (nozS d).size ≤ d.size := by
    unfold nozS; rw [size_mk, size_bs]; exact dw_len _ _
  by_cases h0 : d = ⟨#[]⟩
  · have HN := Lib.hid (show ageN s = -1 by rw [HA.out]; unfold ageD; rw [if_pos (Or.inl h0)])
    subst h0
    clear HA HU HZ hzl
    go_enter Tryz.func21, Tryz.ntmps21
    go_wp2_with fail
    refine (HC.out _).mono ?_
    rintro e w1 ⟨rfl, rfl⟩
    go_wp2_with fail
    go_ret
    exact ⟨by rw [HN.out]; rfl, Below.refl _ _⟩
  have q0 := str_ne0 h0
  by_cases h1 : undigS d = ⟨#[]⟩
  · have hD := (undig_iff d).1 h1
    have H1 := Lib.hid h1
    by_cases h2 : nozS d = ⟨#[]⟩
    · have HN := Lib.hid (show ageN s = 0 by rw [HA.out]; unfold ageD; rw [if_neg (by rw [hD]; simp [h0]), if_pos (Or.inr h2)])
      have H2 := Lib.hid h2
      clear HA h0 h1 h2 hD hzl
      cases gone <;>
      · go_enter Tryz.func21, Tryz.ntmps21
        go_wp2_with fail
        refine (HC.out _).mono ?_
        rintro e w1 ⟨rfl, rfl⟩
        go_wp2_with fail
        refine (HU.out _).mono ?_
        rintro e w1 ⟨rfl, hb⟩
        rw [H1.out]
        go_wp2_with fail
        refine (HZ.out _).mono ?_
        rintro e w2 ⟨rfl, rfl⟩
        rw [H2.out]
        go_wp2_with fail
        go_ret
        exact ⟨by rw [HN.out]; rfl, hb⟩
    · have q2 := str_ne0 h2
      cases gone
      · by_cases h3 : 12 < (nozS d).size
        · have HN := Lib.hid (show ageN s = 253402300799 by rw [HA.out]; unfold ageD; rw [if_neg (by rw [hD]; simp [h0]), if_neg (by simp [h2]), if_pos h3])
          have H3 := Lib.hid (show (nozS d).size ≤ 9223372036854775807 by omega)
          have H4 := Lib.hid (show decide ((12 : Int) < ((nozS d).size : Int)) = true by simp; omega)
          generalize nozS d = z at *
          have hzz : z.size ≤ 9223372036854775807 := H3.out
          clear HA h0 h1 h2 hD hzl
          go_enter Tryz.func21, Tryz.ntmps21
          go_wp2_with fail
          refine (HC.out _).mono ?_
          rintro e w1 ⟨rfl, rfl⟩
          go_wp2_with fail
          refine (HU.out _).mono ?_
          rintro e w1 ⟨rfl, hb⟩
          rw [H1.out]
          go_wp2_with fail
          refine (HZ.out _).mono ?_
          rintro e w2 ⟨rfl, rfl⟩
          go_wp2_with fail
          go_ret
          exact ⟨by rw [HN.out]; rfl, hb⟩
        · have h5 := noz_allD d hD
          have h6 : 1 ≤ (nozS d).size := by
            rcases Nat.eq_zero_or_pos (nozS d).size with h | h
            · exact absurd (bs_inj (by rw [size_zero h]; rfl)) h2
            · exact h
          have HN := Lib.hid (show ageN s = decV (bs (nozS d)) by rw [HA.out]; unfold ageD; rw [if_neg (by rw [hD]; simp [h0]), if_neg (by simp [h2]), if_neg h3])
          have HF := Lib.hid (show unfV (unfO (nozS d)) = .tuple #[.int .i64 (decV (bs (nozS d))), .bool true] by rw [unf_yes h6 (by omega) h5]; rfl)
          generalize decV (bs (nozS d)) = y at *
          generalize nozS d = z at *
          have hzz : z.size ≤ 9223372036854775807 := by omega
          clear HA h0 h1 h2 hD hzl h5 h6
          go_enter Tryz.func21, Tryz.ntmps21
          go_wp2_with fail
          refine (HC.out _).mono ?_
          rintro e w1 ⟨rfl, rfl⟩
          go_wp2_with fail
          refine (HU.out _).mono ?_
          rintro e w1 ⟨rfl, hb⟩
          rw [H1.out]
          go_wp2_with fail
          refine (HZ.out _).mono ?_
          rintro e w2 ⟨rfl, rfl⟩
          go_wp2_with fail
          refine (unfixed_any z _ hzz).mono ?_
          rintro e w2 ⟨rfl, rfl⟩
          rw [HF.out]
          go_wp2_with fail
          go_ret
          exact ⟨by rw [HN.out]; rfl, hb⟩
      · have HN := Lib.hid (show ageN s = 0 by rw [HA.out]; unfold ageD; rw [if_neg (by rw [hD]; simp [h0]), if_pos (Or.inl rfl)])
        clear HA h0 h1 h2 hD hzl
        go_enter Tryz.func21, Tryz.ntmps21
        go_wp2_with fail
        refine (HC.out _).mono ?_
        rintro e w1 ⟨rfl, rfl⟩
        go_wp2_with fail
        refine (HU.out _).mono ?_
        rintro e w1 ⟨rfl, hb⟩
        rw [H1.out]
        go_wp2_with fail
        refine (HZ.out _).mono ?_
        rintro e w2 ⟨rfl, rfl⟩
        go_wp2_with fail
        go_ret
        exact ⟨by rw [HN.out]; rfl, hb⟩
  · have q1 := str_ne0 h1
    have hD : allD (bs d) = false := by
      cases h : allD (bs d)
      · rfl
      · exact absurd ((undig_iff d).2 h) h1
    have HN := Lib.hid (show ageN s = -1 by rw [HA.out]; unfold ageD; rw [if_pos (Or.inr hD)])
    clear HA h0 h1 hD hzl HZ
    go_enter Tryz.func21, Tryz.ntmps21
    go_wp2_with fail
    refine (HC.out _).mono ?_
    rintro e w1 ⟨rfl, rfl⟩
    go_wp2_with fail
    refine (HU.out _).mono ?_
    rintro e w1 ⟨rfl, hb⟩
    go_wp2_with fail
    go_ret
    exact ⟨by rw [HN.out]; rfl, hb⟩
end Go.Proofs.YtngamlikhgilhaaGreatDoor
/- Contract of header.Parse's closure: what an attribute does to a header. (printed by wip/genhdrc.py) -/
namespace Go.Proofs.YtngamlikhgilhaaGreatDoor
open Go.RowKit

/-- A header. -/
structure Hd where
  nm : ByteArray
  vl : ByteArray
  dm : ByteArray
  pt : ByteArray
  ex : Int
  se : Bool
  ho : Bool
  st : Int
def hdL (h : Hd) : List Value := [.string h.nm, .string h.vl, .string h.dm, .string h.pt, .int .i64 h.ex, .bool h.se, .bool h.ho, .int .i64 h.st]
def hdA (h : Hd) : Value := .agg (hdL h).toArray
theorem hdL_one (h : Hd) : (hdL h).toArray.all (·.oneCell') = true := all_oneCell_toArray (fun v hv => by
  simp only [hdL, List.mem_cons, List.not_mem_nil, or_false] at hv
  rcases hv with rfl | rfl | rfl | rfl | rfl | rfl | rfl | rfl <;> rfl)
theorem hrange_keep {w w' : World} {b o N : Nat} {cs : List Value} (h : w.rangeAt b o cs) (hb : Below N w w') (hN : b < N) : w'.rangeAt b o cs := fun j v hv => (hb.cell (p := ⟨b, o + j, none⟩) hN).trans (h j v hv)
theorem hthere_keep {w w' : World} {b o N n : Nat} (h : w.there b o n) (hb : Below N w w') (hN : b < N) : w'.there b o n := fun j hj => by
  rw [hb.cell (p := ⟨b, o + j, none⟩) hN, hb.frozen (p := ⟨b, o + j, none⟩) hN]
  exact h j hj
theorem hrange_set {w : World} {b : Nat} {cs : List Value} (h : w.rangeAt b 0 cs) (j : Nat) (v : Value) : (w.setCell ⟨b, j, none⟩ v).rangeAt b 0 (cs.set j v) := fun i x hx => by
  rw [Nat.zero_add]
  by_cases e : j = i
  · subst e
    have hj : j < cs.length := by
      have := (List.getElem?_eq_some_iff.1 hx).1
      simpa using this
    rw [List.getElem?_set_self hj] at hx
    cases hx
    have h1 := h j _ (List.getElem?_eq_getElem hj)
    rw [Nat.zero_add] at h1
    exact World.cell?_setCell_same _ _ _ h1
  · rw [List.getElem?_set_ne e] at hx
    rw [World.cell?_setCell_other _ _ _ _ (by intro h9; injection h9 with _ h8 _; exact e h8)]
    have h1 := h i x hx
    rwa [Nat.zero_add] at h1
theorem hrange_apart {w : World} {b b' o : Nat} {cs : List Value} (h : w.rangeAt b o cs) (hn : b' ≠ b) (j : Nat) (v : Value) : (w.setCell ⟨b', j, none⟩ v).rangeAt b o cs := fun i x hx => by
  rw [World.cell?_setCell_other _ _ _ _ (by intro h9; injection h9 with h8; exact hn h8)]
  exact h i x hx
theorem hthere_set {w : World} {b o n : Nat} (h : w.there b o n) (a : Addr) (v : Value) : (w.setCell a v).there b o n := fun j hj => by
  refine ⟨?_, by rw [World.frozen?_setCell]; exact (h j hj).2⟩
  obtain ⟨u, hu⟩ := Option.isSome_iff_exists.1 (h j hj).1
  by_cases e : a = ⟨b, o + j, none⟩
  · subst e; rw [World.cell?_setCell_same _ _ _ hu]; rfl
  · rw [World.cell?_setCell_other _ _ _ _ e, hu]; rfl
theorem hcellNew (w : World) (cs : List Value) (t : TypeId) (j : Nat) : (w.alloc (.cells cs.toArray t)).cell? ⟨w.heap.size, j, none⟩ = cs[j]? := by
  rw [World.cell?_alloc_new]
  simp
theorem hrange_new (w : World) (cs : List Value) (t : TypeId) : (w.alloc (.cells cs.toArray t)).rangeAt w.heap.size 0 cs := fun j v hv => by rw [Nat.zero_add, hcellNew]; exact hv
theorem hthere_new (w : World) (cs : List Value) (t : TypeId) : (w.alloc (.cells cs.toArray t)).there w.heap.size 0 cs.length := fun j hj => by
  rw [Nat.zero_add, hcellNew, List.getElem?_eq_getElem hj]
  exact ⟨rfl, by go_simp⟩
/-- A header in its cells (B), what a max-age said (B + 1), and the time (n). -/
structure HS (w : World) (B n : Nat) (h : Hd) (ag now : Int) : Prop where
  rd : w.rangeAt B 0 (hdL h)
  wr : w.there B 0 8
  ga : w.cell? ⟨B + 1, 0, none⟩ = some (.int .i64 ag)
  fa : w.frozen? ⟨B + 1, 0, none⟩ = false
  gn : w.cell? ⟨n, 0, none⟩ = some (.int .i64 now)
  lt : n < B
  sz : B + 2 ≤ w.heap.size
theorem HS.set {w : World} {B n : Nat} {h g : Hd} {ag now : Int} (H : HS w B n h ag now) (j : Nat) (v : Value) (hg : (hdL h).set j v = hdL g) : HS (w.setCell ⟨B, j, none⟩ v) B n g ag now :=
  ⟨hg ▸ hrange_set H.rd j v, hthere_set H.wr _ _, by rw [World.cell?_setCell_other _ _ _ _ (by intro h9; injection h9 with h8; omega)]; exact H.ga, by rw [World.frozen?_setCell]; exact H.fa,
   by rw [World.cell?_setCell_other _ _ _ _ (by have := H.lt; intro h9; injection h9 with h8; omega)]; exact H.gn, H.lt, by rw [World.size_setCell]; exact H.sz⟩
theorem HS.aged {w : World} {B n : Nat} {h : Hd} {ag now : Int} (H : HS w B n h ag now) (a : Int) : HS (w.setCell ⟨B + 1, 0, none⟩ (.int .i64 a)) B n h a now :=
  ⟨hrange_apart H.rd (by omega) _ _, hthere_set H.wr _ _, World.cell?_setCell_same _ _ _ H.ga, by rw [World.frozen?_setCell]; exact H.fa,
   by rw [World.cell?_setCell_other _ _ _ _ (by have := H.lt; intro h9; injection h9 with h8; omega)]; exact H.gn, H.lt, by rw [World.size_setCell]; exact H.sz⟩
theorem HS.keep {w w' : World} {B n : Nat} {h : Hd} {ag now : Int} (H : HS w B n h ag now) (hb : Below w.heap.size w w') : HS w' B n h ag now := by
  have h1 := H.sz
  have h2 := H.lt
  exact ⟨hrange_keep H.rd hb (by omega), hthere_keep H.wr hb (by omega), by rw [hb.cell (p := ⟨B + 1, 0, none⟩) (by show B + 1 < _; omega)]; exact H.ga, by rw [hb.frozen (p := ⟨B + 1, 0, none⟩) (by show B + 1 < _; omega)]; exact H.fa,
    by rw [hb.cell (p := ⟨n, 0, none⟩) (by show n < _; omega)]; exact H.gn, h2, Nat.le_trans h1 hb.size⟩
theorem HS.cells {w : World} {B n : Nat} {h : Hd} {ag now : Int} (H : HS w B n h ag now) : w.cell? ⟨B, 0, none⟩ = some (.string h.nm) ∧ w.cell? ⟨B, 1, none⟩ = some (.string h.vl) ∧ w.cell? ⟨B, 2, none⟩ = some (.string h.dm) ∧ w.cell? ⟨B, 3, none⟩ = some (.string h.pt) ∧
   w.cell? ⟨B, 4, none⟩ = some (.int .i64 h.ex) ∧ w.cell? ⟨B, 5, none⟩ = some (.bool h.se) ∧ w.cell? ⟨B, 6, none⟩ = some (.bool h.ho) ∧ w.cell? ⟨B, 7, none⟩ = some (.int .i64 h.st) :=
  ⟨H.rd 0 _ rfl, H.rd 1 _ rfl, H.rd 2 _ rfl, H.rd 3 _ rfl, H.rd 4 _ rfl, H.rd 5 _ rfl, H.rd 6 _ rfl, H.rd 7 _ rfl⟩
theorem HS.fzs {w : World} {B n : Nat} {h : Hd} {ag now : Int} (H : HS w B n h ag now) : w.frozen? ⟨B, 0, none⟩ = false ∧ w.frozen? ⟨B, 1, none⟩ = false ∧ w.frozen? ⟨B, 2, none⟩ = false ∧ w.frozen? ⟨B, 3, none⟩ = false ∧ w.frozen? ⟨B, 4, none⟩ = false ∧ w.frozen? ⟨B, 5, none⟩ = false ∧ w.frozen? ⟨B, 6, none⟩ = false ∧ w.frozen? ⟨B, 7, none⟩ = false :=
  ⟨(H.wr 0 (by decide)).2, (H.wr 1 (by decide)).2, (H.wr 2 (by decide)).2, (H.wr 3 (by decide)).2, (H.wr 4 (by decide)).2, (H.wr 5 (by decide)).2, (H.wr 6 (by decide)).2, (H.wr 7 (by decide)).2⟩
/-- What a date tells. -/
def cookO (s : ByteArray) : Option Int := if (foundL (wordsS s)).allB = true ∧ 1601 ≤ cent (foundL (wordsS s)).y ∧ vclk (cent (foundL (wordsS s)).y) (foundL (wordsS s)).m (foundL (wordsS s)).d (foundL (wordsS s)).h (foundL (wordsS s)).n (foundL (wordsS s)).s then some (secs (cent (foundL (wordsS s)).y) (foundL (wordsS s)).m (foundL (wordsS s)).d (foundL (wordsS s)).h (foundL (wordsS s)).n (foundL (wordsS s)).s) else none
theorem cook_unf (s : ByteArray) : cookieV s = unfV (cookO s) := by
  unfold cookieV cookO fdV
  split <;> rfl
def clampN (t : Int) : Int := min (max t 1) 253402300799
/-- Which attribute a name tells. -/
def eXP : ByteArray := ⟨#[101, 120, 112, 105, 114, 101, 115]⟩
def aGE : ByteArray := ⟨#[109, 97, 120, 45, 97, 103, 101]⟩
def dOM : ByteArray := ⟨#[100, 111, 109, 97, 105, 110]⟩
def pTH : ByteArray := ⟨#[112, 97, 116, 104]⟩
def sEC : ByteArray := ⟨#[115, 101, 99, 117, 114, 101]⟩
def hTO : ByteArray := ⟨#[104, 116, 116, 112, 111, 110, 108, 121]⟩
def sST : ByteArray := ⟨#[115, 97, 109, 101, 115, 105, 116, 101]⟩
def kindN (x : ByteArray) : Nat := if lowS x = eXP then 1 else if lowS x = aGE then 2 else if lowS x = dOM then 3 else if lowS x = pTH then 4 else if lowS x = sEC then 5 else if lowS x = hTO then 6 else if lowS x = sST then 7 else 0
/-- A domain's value: in small letters, without a dot ahead. -/
def domS (v : ByteArray) : ByteArray := ⟨(Lib.trimPrefix (lowS v).data.toList [46]).toArray⟩
def attK (k : Nat) (h : Hd) (v : ByteArray) : Hd :=
  match k with
  | 1 => match cookO v with
    | some t => { h with ex := clampN t }
    | none => h
  | 3 => if domS v = ⟨#[]⟩ then h else { h with dm := domS v }
  | 4 => { h with pt := if preB v ⟨#[47]⟩ = true then v else ⟨#[]⟩ }
  | 5 => { h with se := true }
  | 6 => { h with ho := true }
  | 7 => { h with st := siteN v }
  | _ => h
def agK (k : Nat) (ag now : Int) (v : ByteArray) : Int := if k = 2 then (if ageN v = 0 then 1 else if 0 < ageN v then min (now + ageN v) 253402300799 else ag) else ag
theorem libTP_any (s : ByteArray) (w : World) : Calls Tryz.prog 22 #[.string s, .string ⟨#[46]⟩] w fun e w' => e = .returned (.string ⟨(Lib.trimPrefix s.data.toList [46]).toArray⟩) ∧ w = w' :=
  (Any.strings_TrimPrefix Tryz.lays101 s ⟨#[46]⟩ w).mono (by rintro e w' ⟨rfl, rfl⟩; exact ⟨rfl, rfl⟩)
def preL (v : ByteArray) : Bool := Lib.hasPrefix v.data.toList [47]
theorem libHP_any (s : ByteArray) (w : World) : Calls Tryz.prog 23 #[.string s, .string ⟨#[47]⟩] w fun e w' => e = .returned (.bool (preL s)) ∧ w = w' :=
  (Any.strings_HasPrefix Tryz.lays99 s ⟨#[47]⟩ w).mono (by rintro e w' ⟨rfl, rfl⟩; exact ⟨rfl, rfl⟩)
theorem pre_L (v : ByteArray) : preB v ⟨#[47]⟩ = preL v := by
  unfold preB preL
  rw [← Lib.hasPrefix_raw (p := ⟨#[47]⟩)]
theorem ageN_bd (v : ByteArray) : -1 ≤ ageN v ∧ ageN v ≤ 999999999999 := by
  unfold ageN ageD
  split
  · omega
  next h1 =>
  split
  · omega
  split
  · omega
  next h2 h3 =>
  have hd : allD (bs (cutS v ⟨#[45]⟩)) = true := by
    cases h : allD (bs (cutS v ⟨#[45]⟩))
    · exact absurd (Or.inr h) h1
    · rfl
  have h4 := decV_bd _ (noz_allD _ hd)
  have h5 : (10 : Int) ^ (bs (nozS (cutS v ⟨#[45]⟩))).length ≤ 10 ^ 12 := by
    rw [← size_bs]
    exact_mod_cast Nat.pow_le_pow_right (by decide : 0 < 10) (by omega)
  have h6 : (10 : Int) ^ 12 = 1000000000000 := by decide
  omega
def AttP (k : Nat) (h : Hd) (ag now : Int) (v : ByteArray) (B n : Nat) (w : World) (e : Ending) (w' : World) : Prop := e = .returned (.tuple #[]) ∧ HS w' B n (attK k h v) (agK k ag now v) now ∧ Below B w w'
set_option maxRecDepth 100000 in
theorem att_5 (x v : ByteArray) (w : World) (B n : Nat) (h : Hd) (ag now : Int) (hx : x.size ≤ 9223372036854775807) (_hv : v.size ≤ 9223372036854775806) (H : HS w B n h ag now) (hlow : lowS x = ⟨#[115, 101, 99, 117, 114, 101]⟩) :
    Calls Tryz.prog 18 #[.string x, .string v, .pointer (some ⟨B, 0, none⟩), .pointer (some ⟨B + 1, 0, none⟩), .pointer (some ⟨n, 0, none⟩)] w (AttP 5 h ag now v B n w) := by
  have hsz := H.sz
  have HL := Lib.hid hlow
  clear hlow
  have H0 := Lib.hid H
  clear H
  go_enter Tryz.func18, Tryz.ntmps18
  go_wp2_with fail
  refine (lower_any x _ hx).mono ?_
  rintro e w1 ⟨rfl, hb1⟩
  rw [HL.out]
  have H1 := Lib.hid (H0.out.keep hb1)
  have HB := Lib.hid (hb1.mono (show B ≤ _ by omega))
  clear H0 hb1
  obtain ⟨c0, c1, c2, c3, c4, c5, c6, c7⟩ := H1.out.cells
  obtain ⟨f0, f1, f2, f3, f4, f5, f6, f7⟩ := H1.out.fzs
  have ga := H1.out.ga
  have fa := H1.out.fa
  have gn := H1.out.gn
  go_wp2_with fail
  go_end0
  exact ⟨rfl, H1.out.set 5 _ rfl, HB.out.setCell (Nat.le_refl _) _⟩
set_option maxRecDepth 100000 in
theorem att_6 (x v : ByteArray) (w : World) (B n : Nat) (h : Hd) (ag now : Int) (hx : x.size ≤ 9223372036854775807) (_hv : v.size ≤ 9223372036854775806) (H : HS w B n h ag now) (hlow : lowS x = ⟨#[104, 116, 116, 112, 111, 110, 108, 121]⟩) :
    Calls Tryz.prog 18 #[.string x, .string v, .pointer (some ⟨B, 0, none⟩), .pointer (some ⟨B + 1, 0, none⟩), .pointer (some ⟨n, 0, none⟩)] w (AttP 6 h ag now v B n w) := by
  have hsz := H.sz
  have HL := Lib.hid hlow
  clear hlow
  have H0 := Lib.hid H
  clear H
  go_enter Tryz.func18, Tryz.ntmps18
  go_wp2_with fail
  refine (lower_any x _ hx).mono ?_
  rintro e w1 ⟨rfl, hb1⟩
  rw [HL.out]
  have H1 := Lib.hid (H0.out.keep hb1)
  have HB := Lib.hid (hb1.mono (show B ≤ _ by omega))
  clear H0 hb1
  obtain ⟨c0, c1, c2, c3, c4, c5, c6, c7⟩ := H1.out.cells
  obtain ⟨f0, f1, f2, f3, f4, f5, f6, f7⟩ := H1.out.fzs
  have ga := H1.out.ga
  have fa := H1.out.fa
  have gn := H1.out.gn
  go_wp2_with fail
  go_end0
  exact ⟨rfl, H1.out.set 6 _ rfl, HB.out.setCell (Nat.le_refl _) _⟩
set_option maxRecDepth 100000 in
theorem att_7 (x v : ByteArray) (w : World) (B n : Nat) (h : Hd) (ag now : Int) (hx : x.size ≤ 9223372036854775807) (hv : v.size ≤ 9223372036854775806) (H : HS w B n h ag now) (hlow : lowS x = ⟨#[115, 97, 109, 101, 115, 105, 116, 101]⟩) :
    Calls Tryz.prog 18 #[.string x, .string v, .pointer (some ⟨B, 0, none⟩), .pointer (some ⟨B + 1, 0, none⟩), .pointer (some ⟨n, 0, none⟩)] w (AttP 7 h ag now v B n w) := by
  have hsz := H.sz
  have HL := Lib.hid hlow
  clear hlow
  have H0 := Lib.hid H
  clear H
  go_enter Tryz.func18, Tryz.ntmps18
  go_wp2_with fail
  refine (lower_any x _ hx).mono ?_
  rintro e w1 ⟨rfl, hb1⟩
  rw [HL.out]
  have H1 := Lib.hid (H0.out.keep hb1)
  have HB := Lib.hid (hb1.mono (show B ≤ _ by omega))
  clear H0 hb1
  go_wp2_with fail
  refine (site_any v _ (by omega)).mono ?_
  rintro e w2 ⟨rfl, hb2⟩
  have hs1 := H1.out.sz
  have H2 := Lib.hid (H1.out.keep hb2)
  have HC := Lib.hid (HB.out.trans (hb2.mono (show B ≤ _ by omega)))
  clear HB H1 hb2
  obtain ⟨c0, c1, c2, c3, c4, c5, c6, c7⟩ := H2.out.cells
  obtain ⟨f0, f1, f2, f3, f4, f5, f6, f7⟩ := H2.out.fzs
  have ga := H2.out.ga
  have fa := H2.out.fa
  have gn := H2.out.gn
  go_wp2_with fail
  go_end0
  exact ⟨rfl, H2.out.set 7 _ rfl, HC.out.setCell (Nat.le_refl _) _⟩
set_option maxRecDepth 100000 in
theorem att_4 (x v : ByteArray) (w : World) (B n : Nat) (h : Hd) (ag now : Int) (hx : x.size ≤ 9223372036854775807) (_hv : v.size ≤ 9223372036854775806) (H : HS w B n h ag now) (hlow : lowS x = ⟨#[112, 97, 116, 104]⟩) :
    Calls Tryz.prog 18 #[.string x, .string v, .pointer (some ⟨B, 0, none⟩), .pointer (some ⟨B + 1, 0, none⟩), .pointer (some ⟨n, 0, none⟩)] w (AttP 4 h ag now v B n w) := by
  have HP := Lib.hid (pre_L v)
  have hsz := H.sz
  have HL := Lib.hid hlow
  clear hlow
  have H0 := Lib.hid H
  clear H
  cases hp : preL v
  all_goals
    have HQ := Lib.hid hp
    clear hp
    go_enter Tryz.func18, Tryz.ntmps18
    go_wp2_with fail
    refine (lower_any x _ hx).mono ?_
    rintro e w1 ⟨rfl, hb1⟩
    rw [HL.out]
    have H1 := Lib.hid (H0.out.keep hb1)
    have HB := Lib.hid (hb1.mono (show B ≤ _ by omega))
    clear H0 hb1
    obtain ⟨c0, c1, c2, c3, c4, c5, c6, c7⟩ := H1.out.cells
    obtain ⟨f0, f1, f2, f3, f4, f5, f6, f7⟩ := H1.out.fzs
    have ga := H1.out.ga
    have fa := H1.out.fa
    have gn := H1.out.gn
    go_wp2_with fail
    refine (libHP_any v _).mono ?_
    rintro e w2 ⟨rfl, rfl⟩
    rw [HQ.out]
    go_wp2_with fail
    go_end0
  · refine ⟨rfl, ?_, HB.out.setCell (Nat.le_refl _) _⟩
    have h9 := H1.out.set (g := { h with pt := ⟨#[]⟩ }) 3 _ rfl
    unfold attK
    rw [HP.out, HQ.out]
    exact h9
  · refine ⟨rfl, ?_, (HB.out.setCell (Nat.le_refl _) _).setCell (Nat.le_refl _) _⟩
    have h9 := (H1.out.set (g := { h with pt := ⟨#[]⟩ }) 3 _ rfl).set (g := { h with pt := v }) 3 _ rfl
    unfold attK
    rw [HP.out, HQ.out]
    exact h9
set_option maxRecDepth 100000 in
theorem att_3 (x v : ByteArray) (w : World) (B n : Nat) (h : Hd) (ag now : Int) (hx : x.size ≤ 9223372036854775807) (hv : v.size ≤ 9223372036854775806) (H : HS w B n h ag now) (hlow : lowS x = ⟨#[100, 111, 109, 97, 105, 110]⟩) :
    Calls Tryz.prog 18 #[.string x, .string v, .pointer (some ⟨B, 0, none⟩), .pointer (some ⟨B + 1, 0, none⟩), .pointer (some ⟨n, 0, none⟩)] w (AttP 3 h ag now v B n w) := by
  have hsz := H.sz
  have HL := Lib.hid hlow
  clear hlow
  have H0 := Lib.hid H
  clear H
  have hz : (lowS v).size ≤ 9223372036854775807 := by unfold lowS; rw [size_mk, List.length_map, ← size_bs]; omega
  by_cases hd : domS v = ⟨#[]⟩
  · have HD := Lib.hid (show (⟨(Lib.trimPrefix (lowS v).data.toList [46]).toArray⟩ : ByteArray) = ⟨#[]⟩ from hd)
    have HE := Lib.hid hd
    clear hd
    go_enter Tryz.func18, Tryz.ntmps18
    go_wp2_with fail
    refine (lower_any x _ hx).mono ?_
    rintro e w1 ⟨rfl, hb1⟩
    rw [HL.out]
    have H1 := Lib.hid (H0.out.keep hb1)
    have HB := Lib.hid (hb1.mono (show B ≤ _ by omega))
    clear H0 hb1
    go_wp2_with fail
    refine (lower_any v _ (by omega)).mono ?_
    rintro e w2 ⟨rfl, hb2⟩
    have hs1 := H1.out.sz
    have H2 := Lib.hid (H1.out.keep hb2)
    have HC := Lib.hid (HB.out.trans (hb2.mono (show B ≤ _ by omega)))
    clear HB H1 hb2
    go_wp2_with fail
    refine (libTP_any (lowS v) _).mono ?_
    rintro e w3 ⟨rfl, rfl⟩
    rw [HD.out]
    go_wp2_with fail
    go_end0
    refine ⟨rfl, ?_, HC.out⟩
    unfold attK
    rw [if_pos HE.out]
    exact H2.out
  · have q := str_ne0 hd
    have HD := Lib.hid (show (⟨(Lib.trimPrefix (lowS v).data.toList [46]).toArray⟩ : ByteArray) = domS v from rfl)
    have HE := Lib.hid hd
    clear hd
    go_enter Tryz.func18, Tryz.ntmps18
    go_wp2_with fail
    refine (lower_any x _ hx).mono ?_
    rintro e w1 ⟨rfl, hb1⟩
    rw [HL.out]
    have H1 := Lib.hid (H0.out.keep hb1)
    have HB := Lib.hid (hb1.mono (show B ≤ _ by omega))
    clear H0 hb1
    go_wp2_with fail
    refine (lower_any v _ (by omega)).mono ?_
    rintro e w2 ⟨rfl, hb2⟩
    have hs1 := H1.out.sz
    have H2 := Lib.hid (H1.out.keep hb2)
    have HC := Lib.hid (HB.out.trans (hb2.mono (show B ≤ _ by omega)))
    clear HB H1 hb2
    go_wp2_with fail
    refine (libTP_any (lowS v) _).mono ?_
    rintro e w3 ⟨rfl, rfl⟩
    rw [HD.out]
    obtain ⟨c0, c1, c2, c3, c4, c5, c6, c7⟩ := H2.out.cells
    obtain ⟨f0, f1, f2, f3, f4, f5, f6, f7⟩ := H2.out.fzs
    have ga := H2.out.ga
    have fa := H2.out.fa
    have gn := H2.out.gn
    go_wp2_with fail
    go_end0
    refine ⟨rfl, ?_, HC.out.setCell (Nat.le_refl _) _⟩
    have h9 := H2.out.set (g := { h with dm := domS v }) 2 _ rfl
    unfold attK
    rw [if_neg HE.out]
    exact h9
set_option maxRecDepth 100000 in
theorem att_1 (x v : ByteArray) (w : World) (B n : Nat) (h : Hd) (ag now : Int) (hx : x.size ≤ 9223372036854775807) (hv : v.size ≤ 9223372036854775806) (H : HS w B n h ag now) (hlow : lowS x = ⟨#[101, 120, 112, 105, 114, 101, 115]⟩) :
    Calls Tryz.prog 18 #[.string x, .string v, .pointer (some ⟨B, 0, none⟩), .pointer (some ⟨B + 1, 0, none⟩), .pointer (some ⟨n, 0, none⟩)] w (AttP 1 h ag now v B n w) := by
  have hsz := H.sz
  have HL := Lib.hid hlow
  clear hlow
  have H0 := Lib.hid H
  clear H
  cases ho : cookO v with
  | none =>
    have HV := Lib.hid (show cookieV v = .tuple #[.int .i64 0, .bool false] by rw [cook_unf, ho]; rfl)
    have HO := Lib.hid ho
    clear ho
    go_enter Tryz.func18, Tryz.ntmps18
    go_wp2_with fail
    refine (lower_any x _ hx).mono ?_
    rintro e w1 ⟨rfl, hb1⟩
    rw [HL.out]
    have H1 := Lib.hid (H0.out.keep hb1)
    have HB := Lib.hid (hb1.mono (show B ≤ _ by omega))
    clear H0 hb1
    go_wp2_with fail
    refine (cookie_any v _ hv).mono ?_
    rintro e w2 ⟨rfl, hb2⟩
    rw [HV.out]
    have hs1 := H1.out.sz
    have H2 := Lib.hid (H1.out.keep hb2)
    have HC := Lib.hid (HB.out.trans (hb2.mono (show B ≤ _ by omega)))
    clear HB H1 hb2
    go_wp2_with fail
    go_end0
    refine ⟨rfl, ?_, HC.out⟩
    unfold attK
    rw [HO.out]
    exact H2.out
  | some t =>
    have HV := Lib.hid (show cookieV v = .tuple #[.int .i64 t, .bool true] by rw [cook_unf, ho]; rfl)
    have HO := Lib.hid ho
    clear ho
    go_enter Tryz.func18, Tryz.ntmps18
    go_wp2_with fail
    refine (lower_any x _ hx).mono ?_
    rintro e w1 ⟨rfl, hb1⟩
    rw [HL.out]
    have H1 := Lib.hid (H0.out.keep hb1)
    have HB := Lib.hid (hb1.mono (show B ≤ _ by omega))
    clear H0 hb1
    go_wp2_with fail
    refine (cookie_any v _ hv).mono ?_
    rintro e w2 ⟨rfl, hb2⟩
    rw [HV.out]
    have hs1 := H1.out.sz
    have H2 := Lib.hid (H1.out.keep hb2)
    have HC := Lib.hid (HB.out.trans (hb2.mono (show B ≤ _ by omega)))
    clear HB H1 hb2
    obtain ⟨c0, c1, c2, c3, c4, c5, c6, c7⟩ := H2.out.cells
    obtain ⟨f0, f1, f2, f3, f4, f5, f6, f7⟩ := H2.out.fzs
    have ga := H2.out.ga
    have fa := H2.out.fa
    have gn := H2.out.gn
    go_wp2_with fail
    go_end0
    refine ⟨rfl, ?_, HC.out.setCell (Nat.le_refl _) _⟩
    have h9 := H2.out.set (g := { h with ex := clampN t }) 4 _ rfl
    unfold attK
    rw [HO.out]
    exact h9
set_option maxRecDepth 100000 in
theorem att_2 (x v : ByteArray) (w : World) (B n : Nat) (h : Hd) (ag now : Int) (hx : x.size ≤ 9223372036854775807) (hv : v.size ≤ 9223372036854775806) (H : HS w B n h ag now) (hlow : lowS x = ⟨#[109, 97, 120, 45, 97, 103, 101]⟩) (hnow : 0 ≤ now ∧ now ≤ 253402300799) :
    Calls Tryz.prog 18 #[.string x, .string v, .pointer (some ⟨B, 0, none⟩), .pointer (some ⟨B + 1, 0, none⟩), .pointer (some ⟨n, 0, none⟩)] w (AttP 2 h ag now v B n w) := by
  have hsz := H.sz
  have HL := Lib.hid hlow
  clear hlow
  have H0 := Lib.hid H
  clear H
  have hy := ageN_bd v
  by_cases h0 : ageN v = 0
  · have HY := Lib.hid h0
    have HK := Lib.hid (show agK 2 ag now v = 1 by unfold agK; rw [if_pos rfl, if_pos h0])
    clear h0 hy
    go_enter Tryz.func18, Tryz.ntmps18
    go_wp2_with fail
    refine (lower_any x _ hx).mono ?_
    rintro e w1 ⟨rfl, hb1⟩
    rw [HL.out]
    have H1 := Lib.hid (H0.out.keep hb1)
    have HB := Lib.hid (hb1.mono (show B ≤ _ by omega))
    clear H0 hb1
    go_wp2_with fail
    refine (age_any v _ (by omega)).mono ?_
    rintro e w2 ⟨rfl, hb2⟩
    rw [HY.out]
    have hs1 := H1.out.sz
    have H2 := Lib.hid (H1.out.keep hb2)
    have HC := Lib.hid (HB.out.trans (hb2.mono (show B ≤ _ by omega)))
    clear HB H1 hb2
    obtain ⟨c0, c1, c2, c3, c4, c5, c6, c7⟩ := H2.out.cells
    obtain ⟨f0, f1, f2, f3, f4, f5, f6, f7⟩ := H2.out.fzs
    have ga := H2.out.ga
    have fa := H2.out.fa
    have gn := H2.out.gn
    go_wp2_with fail
    go_end0
    refine ⟨rfl, ?_, HC.out.setCell (Nat.le_succ _) _⟩
    rw [HK.out]
    exact H2.out.aged 1
  have hk : agK 2 ag now v = if 0 < ageN v then min (now + ageN v) 253402300799 else ag := by unfold agK; rw [if_pos rfl, if_neg h0]
  by_cases h1 : 0 < ageN v
  · have HK := Lib.hid (hk.trans (if_pos h1))
    clear hk
    have q0 : (ageN v == 0) = false := beq_eq_false_iff_ne.2 h0
    clear h0
    go_enter Tryz.func18, Tryz.ntmps18
    go_wp2_with fail
    refine (lower_any x _ hx).mono ?_
    rintro e w1 ⟨rfl, hb1⟩
    rw [HL.out]
    have H1 := Lib.hid (H0.out.keep hb1)
    have HB := Lib.hid (hb1.mono (show B ≤ _ by omega))
    clear H0 hb1
    go_wp2_with fail
    refine (age_any v _ (by omega)).mono ?_
    rintro e w2 ⟨rfl, hb2⟩
    have hs1 := H1.out.sz
    have H2 := Lib.hid (H1.out.keep hb2)
    have HC := Lib.hid (HB.out.trans (hb2.mono (show B ≤ _ by omega)))
    clear HB H1 hb2
    obtain ⟨c0, c1, c2, c3, c4, c5, c6, c7⟩ := H2.out.cells
    obtain ⟨f0, f1, f2, f3, f4, f5, f6, f7⟩ := H2.out.fzs
    have ga := H2.out.ga
    have fa := H2.out.fa
    have gn := H2.out.gn
    go_wp2_with fail
    go_end0
    refine ⟨rfl, ?_, HC.out.setCell (Nat.le_succ _) _⟩
    rw [HK.out]
    exact H2.out.aged _
  · have HK := Lib.hid (hk.trans (if_neg h1))
    clear hk
    have q0 : (ageN v == 0) = false := beq_eq_false_iff_ne.2 h0
    clear h0
    go_enter Tryz.func18, Tryz.ntmps18
    go_wp2_with fail
    refine (lower_any x _ hx).mono ?_
    rintro e w1 ⟨rfl, hb1⟩
    rw [HL.out]
    have H1 := Lib.hid (H0.out.keep hb1)
    have HB := Lib.hid (hb1.mono (show B ≤ _ by omega))
    clear H0 hb1
    go_wp2_with fail
    refine (age_any v _ (by omega)).mono ?_
    rintro e w2 ⟨rfl, hb2⟩
    have hs1 := H1.out.sz
    have H2 := Lib.hid (H1.out.keep hb2)
    have HC := Lib.hid (HB.out.trans (hb2.mono (show B ≤ _ by omega)))
    clear HB H1 hb2
    obtain ⟨c0, c1, c2, c3, c4, c5, c6, c7⟩ := H2.out.cells
    obtain ⟨f0, f1, f2, f3, f4, f5, f6, f7⟩ := H2.out.fzs
    have ga := H2.out.ga
    have fa := H2.out.fa
    have gn := H2.out.gn
    go_wp2_with fail
    go_end0
    refine ⟨rfl, ?_, HC.out⟩
    rw [HK.out]
    exact H2.out
set_option maxRecDepth 100000 in
theorem att_0 (x v : ByteArray) (w : World) (B n : Nat) (h : Hd) (ag now : Int) (hx : x.size ≤ 9223372036854775807) (_hv : v.size ≤ 9223372036854775806) (H : HS w B n h ag now) (hlow : kindN x = 0) :
    Calls Tryz.prog 18 #[.string x, .string v, .pointer (some ⟨B, 0, none⟩), .pointer (some ⟨B + 1, 0, none⟩), .pointer (some ⟨n, 0, none⟩)] w (AttP 0 h ag now v B n w) := by
  have hsz := H.sz
  have H0 := Lib.hid H
  clear H
  unfold kindN at hlow
  by_cases e1 : lowS x = eXP
  · rw [if_pos e1] at hlow; cases hlow
  by_cases e2 : lowS x = aGE
  · rw [if_neg e1, if_pos e2] at hlow; cases hlow
  by_cases e3 : lowS x = dOM
  · rw [if_neg e1, if_neg e2, if_pos e3] at hlow; cases hlow
  by_cases e4 : lowS x = pTH
  · rw [if_neg e1, if_neg e2, if_neg e3, if_pos e4] at hlow; cases hlow
  by_cases e5 : lowS x = sEC
  · rw [if_neg e1, if_neg e2, if_neg e3, if_neg e4, if_pos e5] at hlow; cases hlow
  by_cases e6 : lowS x = hTO
  · rw [if_neg e1, if_neg e2, if_neg e3, if_neg e4, if_neg e5, if_pos e6] at hlow; cases hlow
  by_cases e7 : lowS x = sST
  · rw [if_neg e1, if_neg e2, if_neg e3, if_neg e4, if_neg e5, if_neg e6, if_pos e7] at hlow; cases hlow
  have q1 := str_neL (l := [101, 120, 112, 105, 114, 101, 115]) e1
  have q2 := str_neL (l := [109, 97, 120, 45, 97, 103, 101]) e2
  have q3 := str_neL (l := [100, 111, 109, 97, 105, 110]) e3
  have q4 := str_neL (l := [112, 97, 116, 104]) e4
  have q5 := str_neL (l := [115, 101, 99, 117, 114, 101]) e5
  have q6 := str_neL (l := [104, 116, 116, 112, 111, 110, 108, 121]) e6
  have q7 := str_neL (l := [115, 97, 109, 101, 115, 105, 116, 101]) e7
  clear e1 e2 e3 e4 e5 e6 e7 hlow
  go_enter Tryz.func18, Tryz.ntmps18
  go_wp2_with fail
  refine (lower_any x _ hx).mono ?_
  rintro e w1 ⟨rfl, hb1⟩
  have H1 := Lib.hid (H0.out.keep hb1)
  have HB := Lib.hid (hb1.mono (show B ≤ _ by omega))
  clear H0 hb1
  go_wp2_with fail
  go_end0
  exact ⟨rfl, H1.out, HB.out⟩
theorem kind_low {x : ByteArray} {k : Nat} (h : kindN x = k) : (k = 1 → lowS x = eXP) ∧ (k = 2 → lowS x = aGE) ∧ (k = 3 → lowS x = dOM) ∧ (k = 4 → lowS x = pTH) ∧ (k = 5 → lowS x = sEC) ∧ (k = 6 → lowS x = hTO) ∧ (k = 7 → lowS x = sST) ∧ k ≤ 7 := by
  unfold kindN at h
  subst h
  split
  · exact ⟨fun _ => ‹_›, by omega, by omega, by omega, by omega, by omega, by omega, by omega⟩
  split
  · exact ⟨by omega, fun _ => ‹_›, by omega, by omega, by omega, by omega, by omega, by omega⟩
  split
  · exact ⟨by omega, by omega, fun _ => ‹_›, by omega, by omega, by omega, by omega, by omega⟩
  split
  · exact ⟨by omega, by omega, by omega, fun _ => ‹_›, by omega, by omega, by omega, by omega⟩
  split
  · exact ⟨by omega, by omega, by omega, by omega, fun _ => ‹_›, by omega, by omega, by omega⟩
  split
  · exact ⟨by omega, by omega, by omega, by omega, by omega, fun _ => ‹_›, by omega, by omega⟩
  split
  · exact ⟨by omega, by omega, by omega, by omega, by omega, by omega, fun _ => ‹_›, by omega⟩
  · exact ⟨by omega, by omega, by omega, by omega, by omega, by omega, by omega, by omega⟩
/-- An attribute's doing. -/
theorem att_any (x v : ByteArray) (w : World) (B n : Nat) (h : Hd) (ag now : Int) (hx : x.size ≤ 9223372036854775807) (hv : v.size ≤ 9223372036854775806) (H : HS w B n h ag now) (hnow : 0 ≤ now ∧ now ≤ 253402300799) :
    Calls Tryz.prog 18 #[.string x, .string v, .pointer (some ⟨B, 0, none⟩), .pointer (some ⟨B + 1, 0, none⟩), .pointer (some ⟨n, 0, none⟩)] w (AttP (kindN x) h ag now v B n w) := by
  have hk := kind_low (x := x) (k := kindN x) rfl
  obtain ⟨h1, h2, h3, h4, h5, h6, h7, h8⟩ := hk
  generalize hkk : kindN x = k at *
  match k, h8 with
  | 0, _ => exact att_0 x v w B n h ag now hx hv H hkk
  | 1, _ => exact att_1 x v w B n h ag now hx hv H (h1 rfl)
  | 2, _ => exact att_2 x v w B n h ag now hx hv H (h2 rfl) hnow
  | 3, _ => exact att_3 x v w B n h ag now hx hv H (h3 rfl)
  | 4, _ => exact att_4 x v w B n h ag now hx hv H (h4 rfl)
  | 5, _ => exact att_5 x v w B n h ag now hx hv H (h5 rfl)
  | 6, _ => exact att_6 x v w B n h ag now hx hv H (h6 rfl)
  | 7, _ => exact att_7 x v w B n h ag now hx hv H (h7 rfl)
end Go.Proofs.YtngamlikhgilhaaGreatDoor
/- header.Parse: plain laws, and the reading and writing of a header's cells. -/
namespace Go.Proofs.YtngamlikhgilhaaGreatDoor
open Go.RowKit

/-- What lies between the bytes 59. -/
def segs : List UInt8 → List (List UInt8)
  | [] => [[]]
  | x :: l => if x = 59 then [] :: segs l else ((x :: (segs l).headD []) :: (segs l).tail)
theorem segs_cons (x : UInt8) (l : List UInt8) : segs (x :: l) = if x = 59 then [] :: segs l else ((x :: (segs l).headD []) :: (segs l).tail) := rfl
theorem segs_cut (l : List UInt8) : segs l = (cutL 59 l).1 :: (if (cutL 59 l).2.2 then segs (cutL 59 l).2.1 else []) := by
  induction l with
  | nil => rfl
  | cons x l ih =>
    by_cases hx : x = 59
    · rw [segs_cons, if_pos hx, cutL, if_pos hx]
      rfl
    · rw [segs_cons, if_neg hx, ih, cutL, if_neg hx]
      rfl
theorem cutL_nil {c : UInt8} : ∀ {l : List UInt8}, (cutL c l).2.2 = false → (cutL c l).2.1 = []
  | [], _ => rfl
  | x :: l, h => by
    unfold cutL at h ⊢
    split
    · rename_i hx; rw [if_pos hx] at h; cases h
    · rename_i hx; rw [if_neg hx] at h; exact cutL_nil h
/-- What an attribute, as it stands, does. -/
def stepH (now : Int) (p : Hd × Int) (l : List UInt8) : Hd × Int :=
  (attK (kindN (nameS (mk l))) p.1 (valueS (mk l)), agK (kindN (nameS (mk l))) p.2 now (valueS (mk l)))
theorem step_nil (now : Int) (p : Hd × Int) : stepH now p [] = p := by
  have h : kindN (nameS (mk [])) = 0 := by decide
  unfold stepH
  rw [h]
  rfl
def goH (now : Int) (p : Hd × Int) (l : List UInt8) : Hd × Int := (segs l).foldl (stepH now) p
theorem goH_nil (now : Int) (p : Hd × Int) : goH now p [] = p := step_nil now p
theorem goH_cut (now : Int) (p : Hd × Int) (l : List UInt8) : goH now p l = goH now (stepH now p (cutL 59 l).1) (cutL 59 l).2.1 := by
  conv => lhs; unfold goH; rw [segs_cut, List.foldl_cons]
  cases h : (cutL 59 l).2.2
  · rw [cutL_nil h, goH_nil]
    rfl
  · rfl
/-- The header behind its attributes. -/
def endH (p : Hd × Int) : Hd := if 0 < p.2 then { p.1 with ex := p.2 } else p.1
def zH : Hd := ⟨⟨#[]⟩, ⟨#[]⟩, ⟨#[]⟩, ⟨#[]⟩, 0, false, false, 0⟩
/-- What a text says as a header. -/
def parH (s : ByteArray) (now : Int) : Option Hd :=
  let f := cutL 59 (bs s)
  if 0 ≤ now ∧ now ≤ 253402300799 ∧ hasS (mk f.1) = true ∧ nameS (mk f.1) ≠ ⟨#[]⟩ then
    some (endH (goH now (⟨nameS (mk f.1), valueS (mk f.1), ⟨#[]⟩, ⟨#[]⟩, 0, false, false, 0⟩, 0) f.2.1))
  else none
def parV (o : Option Hd) : Value := .tuple #[hdA (o.getD zH), .bool o.isSome]
theorem loadH {W : World} {b : Nat} {f : Hd} (h : W.rangeAt b 0 (hdL f)) : (loadVar 24 ⟨b, 0, none⟩).run Tryz.prog W = .ok (hdA f) W := by
  have hu : (Tryz.prog.underlying 24).elim false TypeDesc.isRow = true := by kernel_rfl
  cases h1 : Tryz.prog.underlying 24 with
  | none => rw [h1] at hu; cases hu
  | some d =>
    rw [h1] at hu
    exact run_loadVar_mid W b 0 _ (hdL f) d h h1 hu (by kernel_rfl)
theorem loadOpH {ops : Array Oper} {rest : List Oper} {op : Oper} {a : Act} {W : World} {Q : Exit → Act → World → Prop} {b : Nat} {f : Hd} (h : W.rangeAt b 0 (hdL f)) (hgd : op.guard = none) (x : Operand) (ho : op.op = .load 24 x)
    (hx : a.eval x = .pointer (some ⟨b, 0, none⟩)) (hk : wpList Tryz.prog ops Q rest (a.put op.dst (hdA f)) W) : wpList Tryz.prog ops Q (op :: rest) a W := by
  have hu : (Tryz.prog.underlying 24).elim false TypeDesc.isRow = true := by kernel_rfl
  cases h1 : Tryz.prog.underlying 24 with
  | none => rw [h1] at hu; cases hu
  | some d =>
    rw [h1] at hu
    exact wpList_load_mid hgd _ x ho b 0 hx (hdL f) d h h1 hu (by kernel_rfl) hk
theorem storeOpH {ops : Array Oper} {rest : List Oper} {op : Oper} {a : Act} {W : World} {Q : Exit → Act → World → Prop} {b : Nat} {f : Hd} (h : W.there b 0 8) (hgd : op.guard = none) (x y : Operand) (ho : op.op = .store 24 x y)
    (hx : a.eval x = .pointer (some ⟨b, 0, none⟩)) (hy : a.eval y = hdA f) (hk : wpList Tryz.prog ops Q rest (a.put op.dst undef) (W.setCells b 0 (hdL f))) : wpList Tryz.prog ops Q (op :: rest) a W :=
  wpList_store_mid hgd _ x y ho b 0 (hdL f).toArray hx hy h (by kernel_rfl) (hdL_one f) hk
theorem resH {W : World} {b : Nat} {f : Hd} {x : Bool} {a : Act} (h4 : a.tmps[4]?.getD undef = .pointer (some ⟨b, 0, none⟩)) (h5 : a.tmps[5]?.getD undef = .bool x) (h : W.rangeAt b 0 (hdL f)) : (results Tryz.f8 a.tmps).run Tryz.prog W = .ok (.tuple #[hdA f, .bool x]) W := by
  have h1 := loadH h
  simp [results, Tryz.results8, asAddr, h4, h5, h1]
theorem Below.hsetCells {n b : Nat} {w : World} (hb : n ≤ b) : ∀ (vs : List Value) (o : Nat) (W : World), Below n w W → Below n w (W.setCells b o vs)
  | [], _, _, h => h
  | v :: r, o, W, h => by
    rw [World.setCells]
    exact Below.hsetCells hb r (o + 1) _ (h.setCell hb v)
end Go.Proofs.YtngamlikhgilhaaGreatDoor
