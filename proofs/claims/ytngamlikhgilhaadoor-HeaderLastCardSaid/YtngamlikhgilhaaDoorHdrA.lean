/- Contracts of header's pair and site. -/
import Derived.Test.YtngamlikhgilhaaDoorHCut
import Derived.Test.YtngamlikhgilhaaDoorPath
import Derived.Test.YtngamlikhgilhaaDoorDateG
import Derived.Test.YtngamlikhgilhaaDoorDateL
namespace Go.Proofs.YtngamlikhgilhaaDoor
open Go.RowKit

theorem Hsnoc {w w1 w2 : World} (h : Below w.heap.size w w1) (h2 : Below w1.heap.size w1 w2) : Below w.heap.size w w2 := h.trans (h2.mono h.size)
/-- A text parted at the first of a byte. -/
def cutL (c : UInt8) : List UInt8 → List UInt8 × List UInt8 × Bool
  | [] => ([], [], false)
  | x :: l => if x = c then ([], l, true) else ((x :: (cutL c l).1), (cutL c l).2.1, (cutL c l).2.2)
def cutV3 (c : UInt8) (s : ByteArray) : Value := .tuple #[.string (mk (cutL c (bs s)).1), .string (mk (cutL c (bs s)).2.1), .bool (cutL c (bs s)).2.2]
theorem cutL_none (c : UInt8) : ∀ l : List UInt8, (∀ k : Nat, l[k]? ≠ some c) → cutL c l = (l, [], false)
  | [], _ => rfl
  | x :: l, h => by
    have hx : x ≠ c := fun e => h 0 (by rw [e]; rfl)
    have hi := cutL_none c l (fun k hk => h (k + 1) (by simpa using hk))
    rw [cutL, if_neg hx, hi]
theorem cutL_some (c : UInt8) : ∀ (l : List UInt8) (k : Nat), FirstAtC l c k → cutL c l = (l.take k, l.drop (k + 1), true)
  | [], k, h => by have := h.1; simp at this
  | x :: l, 0, h => by
    have hx : x = c := by have := h.1; simpa using this
    rw [cutL, if_pos hx]
    rfl
  | x :: l, k + 1, h => by
    have hx : x ≠ c := fun e => h.2 0 (by omega) (by rw [e]; rfl)
    have hi := cutL_some c l k ⟨by have := h.1; simpa using this, fun j hj e => h.2 (j + 1) (by omega) (by simpa using e)⟩
    rw [cutL, if_neg hx, hi]
    rfl
theorem cutL_len (c : UInt8) : ∀ l : List UInt8, (cutL c l).1.length ≤ l.length ∧ (cutL c l).2.1.length ≤ l.length ∧ (l ≠ [] → (cutL c l).2.1.length < l.length)
  | [] => ⟨Nat.le_refl _, Nat.le_refl _, fun h => absurd rfl h⟩
  | x :: l => by
    have hi := cutL_len c l
    rw [cutL]
    split
    · simp
    · simp only [List.length_cons]
      omega
theorem acut_any (s : ByteArray) (c : UInt8) (w : World) (hs : s.size ≤ 9223372036854775807) :
    Calls Tryd.prog 9 #[.string s, .int .u8 (c.toNat : Int)] w fun e w' => e = .returned (cutV3 c s) ∧ Below w.heap.size w w' := by
  rcases first_or (bs s) c with h | ⟨k, h⟩
  · refine (cut_none s c w h).mono ?_
    rintro e w' ⟨rfl, rfl⟩
    refine ⟨?_, Below.refl _ _⟩
    unfold cutV3
    rw [cutL_none c _ h]
    rfl
  · refine (cut_some s c k w hs h).mono ?_
    rintro e w' ⟨rfl, n, rfl⟩
    refine ⟨?_, Bdrawn (Below.refl _ _) n⟩
    unfold cutV3
    rw [cutL_some c _ k h]
    have e1 : s.extract 0 k = mk ((bs s).take k) := by apply bs_inj; rw [bs_extract, bs_mk, List.drop_zero]
    have e2 : s.extract (k + 1) s.size = mk ((bs s).drop (k + 1)) := by apply bs_inj; rw [bs_extract, bs_mk, List.take_of_length_le (by rw [← size_bs]; exact Nat.le_refl _)]
    rw [e1, e2]
theorem acut61 (s : ByteArray) (w : World) (hs : s.size ≤ 9223372036854775807) : Calls Tryd.prog 9 #[.string s, .int .u8 61] w fun e w' => e = .returned (cutV3 61 s) ∧ Below w.heap.size w w' := acut_any s 61 w hs
theorem acut59 (s : ByteArray) (w : World) (hs : s.size ≤ 9223372036854775807) : Calls Tryd.prog 9 #[.string s, .int .u8 59] w fun e w' => e = .returned (cutV3 59 s) ∧ Below w.heap.size w w' := acut_any s 59 w hs
/-- A name and a value: what is ahead of the first =, and behind it, without blanks. -/
def nameS (s : ByteArray) : ByteArray := trimS (mk (cutL 61 (bs s)).1)
def valueS (s : ByteArray) : ByteArray := trimS (mk (cutL 61 (bs s)).2.1)
def hasS (s : ByteArray) : Bool := (cutL 61 (bs s)).2.2
set_option maxRecDepth 100000 in
theorem pair_any (s : ByteArray) (w : World) (hs : s.size ≤ 9223372036854775807) :
    Calls Tryd.prog 10 #[.string s] w fun e w' => e = .returned (.tuple #[.string (nameS s), .string (valueS s), .bool (hasS s)]) ∧ Below w.heap.size w w' := by
  have h1 := cutL_len 61 (bs s)
  have z1 : (mk (cutL 61 (bs s)).1).size ≤ 9223372036854775807 := by rw [size_mk]; have := size_bs s; omega
  have z2 : (mk (cutL 61 (bs s)).2.1).size ≤ 9223372036854775807 := by rw [size_mk]; have := size_bs s; omega
  have HV := Lib.hid (show cutV3 61 s = .tuple #[.string (mk (cutL 61 (bs s)).1), .string (mk (cutL 61 (bs s)).2.1), .bool (hasS s)] from rfl)
  have HN := Lib.hid (show trimS (mk (cutL 61 (bs s)).1) = nameS s from rfl)
  have HW := Lib.hid (show trimS (mk (cutL 61 (bs s)).2.1) = valueS s from rfl)
  clear h1
  generalize mk (cutL 61 (bs s)).1 = a at *
  generalize mk (cutL 61 (bs s)).2.1 = b at *
  go_enter Tryd.func10, Tryd.ntmps10
  go_wp2_with fail
  refine (acut61 s _ hs).mono ?_
  rintro e w1 ⟨rfl, hb1⟩
  rw [HV.out]
  go_wp2_with fail
  refine (trim_any a _ z1).mono ?_
  rintro e w2 ⟨rfl, hb2⟩
  rw [HN.out]
  have hB2 := Hsnoc hb1 hb2
  clear hb1 hb2
  go_wp2_with fail
  refine (trim_any b _ z2).mono ?_
  rintro e w3 ⟨rfl, hb3⟩
  rw [HW.out]
  have hB3 := Hsnoc hB2 hb3
  clear hB2 hb3
  go_wp2_with fail
  go_ret3
  exact ⟨rfl, hB3⟩
/-- What a SameSite says. -/
def siteN (s : ByteArray) : Int := if lowS s = ⟨#[108, 97, 120]⟩ then 1 else if lowS s = ⟨#[115, 116, 114, 105, 99, 116]⟩ then 2 else if lowS s = ⟨#[110, 111, 110, 101]⟩ then 3 else 0
theorem toLh (s : ByteArray) : s.toList = bs s := ByteArray.toList_eq s
theorem str_neL {a : ByteArray} {l : List UInt8} (h : a ≠ mk l) : (a.toList == l) = false := beq_eq_false_iff_ne.2 (fun e => h (bs_inj (by rw [toLh] at e; rw [bs_mk]; exact e)))
set_option maxRecDepth 100000 in
theorem site_any (s : ByteArray) (w : World) (hs : s.size ≤ 9223372036854775807) :
    Calls Tryd.prog 17 #[.string s] w fun e w' => e = .returned (.int .i64 (siteN s)) ∧ Below w.heap.size w w' := by
  have HL := Lib.hid (show siteN s = siteN s from rfl)
  by_cases h1 : lowS s = ⟨#[108, 97, 120]⟩
  · have HN := Lib.hid (show siteN s = 1 by unfold siteN; rw [if_pos h1])
    have H1 := Lib.hid h1
    clear h1 HL
    go_enter Tryd.func17, Tryd.ntmps17
    go_wp2_with fail
    refine (lower_any s _ hs).mono ?_
    rintro e w1 ⟨rfl, hb1⟩
    rw [H1.out]
    go_wp2_with fail
    go_ret
    exact ⟨by rw [HN.out]; rfl, hb1⟩
  by_cases h2 : lowS s = ⟨#[115, 116, 114, 105, 99, 116]⟩
  · have HN := Lib.hid (show siteN s = 2 by unfold siteN; rw [if_neg h1, if_pos h2])
    have H1 := Lib.hid h2
    clear h1 h2 HL
    go_enter Tryd.func17, Tryd.ntmps17
    go_wp2_with fail
    refine (lower_any s _ hs).mono ?_
    rintro e w1 ⟨rfl, hb1⟩
    rw [H1.out]
    go_wp2_with fail
    go_ret
    exact ⟨by rw [HN.out]; rfl, hb1⟩
  by_cases h3 : lowS s = ⟨#[110, 111, 110, 101]⟩
  · have HN := Lib.hid (show siteN s = 3 by unfold siteN; rw [if_neg h1, if_neg h2, if_pos h3])
    have H1 := Lib.hid h3
    clear h1 h2 h3 HL
    go_enter Tryd.func17, Tryd.ntmps17
    go_wp2_with fail
    refine (lower_any s _ hs).mono ?_
    rintro e w1 ⟨rfl, hb1⟩
    rw [H1.out]
    go_wp2_with fail
    go_ret
    exact ⟨by rw [HN.out]; rfl, hb1⟩
  have HN := Lib.hid (show siteN s = 0 by unfold siteN; rw [if_neg h1, if_neg h2, if_neg h3])
  have q1 := str_neL (l := [108, 97, 120]) h1
  have q2 := str_neL (l := [115, 116, 114, 105, 99, 116]) h2
  have q3 := str_neL (l := [110, 111, 110, 101]) h3
  clear h1 h2 h3 HL
  go_enter Tryd.func17, Tryd.ntmps17
  go_wp2_with fail
  refine (lower_any s _ hs).mono ?_
  rintro e w1 ⟨rfl, hb1⟩
  go_wp2_with fail
  go_ret
  exact ⟨by rw [HN.out]; rfl, hb1⟩
end Go.Proofs.YtngamlikhgilhaaDoor
