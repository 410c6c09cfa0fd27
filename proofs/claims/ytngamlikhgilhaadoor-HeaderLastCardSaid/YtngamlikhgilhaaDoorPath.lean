/- Paths: contracts of strings' prefixes, of package path and of its reference, first text. -/
import Derived.Test.YtngamlikhgilhaaDoorHostD
import Derived.Test.YtngamlikhgilhaaDoorAsciiD
namespace Go.Proofs.YtngamlikhgilhaaDoor
open Go.RowKit

def preB (s p : ByteArray) : Bool := decide (p.size ≤ s.size) && ((s.extract 0 p.size).toList == p.toList)
set_option maxRecDepth 100000 in
theorem hasPrefix_any (s p : ByteArray) (w : World) (_ : s.size ≤ 9223372036854775807) : Calls Tryd.prog 38 #[.string s, .string p] w fun e w' => e = .returned (.bool (preB s p)) ∧ w = w' := by
  by_cases h : p.size ≤ s.size
  · cases hb : ((s.extract 0 p.size).toList == p.toList)
    all_goals
      have HV := Lib.hid (show preB s p = ((s.extract 0 p.size).toList == p.toList) by unfold preB; rw [decide_eq_true h, Bool.true_and])
      go_enter Tryd.func38, Tryd.ntmps38
      go_wp2_with fail
      go_ret
      exact ⟨ret_bool (HV.out.trans hb).symm, rfl⟩
  · have HV := Lib.hid (show preB s p = false by unfold preB; rw [decide_eq_false h]; rfl)
    go_enter Tryd.func38, Tryd.ntmps38
    go_wp2_with fail
    go_ret
    exact ⟨ret_bool HV.out.symm, rfl⟩
theorem pre_size {s p : ByteArray} (h : preB s p = true) : p.size ≤ s.size := by
  unfold preB at h
  rw [Bool.and_eq_true] at h
  exact of_decide_eq_true h.1
/-- What is behind a beginning, or all. -/
def cutS (s p : ByteArray) : ByteArray := if preB s p then s.extract p.size s.size else s
set_option maxRecDepth 100000 in
theorem lcut_any (s p : ByteArray) (w : World) (hs : s.size ≤ 9223372036854775807) : Calls Tryd.prog 52 #[.string s, .string p] w fun e w' => e = .returned (.tuple #[.string (cutS s p), .bool (preB s p)]) ∧ w = w' := by
  cases h : preB s p
  · have H := Lib.hid h
    have HC := Lib.hid (show cutS s p = s by unfold cutS; rw [h]; rfl)
    clear h
    go_enter Tryd.func52, Tryd.ntmps52
    go_wp2_with fail
    refine (hasPrefix_any s p _ hs).mono ?_
    rintro e w1 ⟨rfl, rfl⟩
    rw [H.out]
    go_wp2_with fail
    go_ret2
    exact ⟨by rw [HC.out]; rfl, rfl⟩
  · have hz := pre_size h
    have H := Lib.hid h
    have HC := Lib.hid (show cutS s p = s.extract p.size s.size by unfold cutS; rw [h]; rfl)
    clear h
    go_enter Tryd.func52, Tryd.ntmps52
    go_wp2_with fail
    refine (hasPrefix_any s p _ hs).mono ?_
    rintro e w1 ⟨rfl, rfl⟩
    rw [H.out]
    go_wp2_with fail
    go_ret2
    exact ⟨by rw [HC.out]; rfl, rfl⟩
set_option maxRecDepth 100000 in
theorem cutPrefix_any (s p : ByteArray) (w : World) (hs : s.size ≤ 9223372036854775807) : Calls Tryd.prog 33 #[.string s, .string p] w fun e w' => e = .returned (.tuple #[.string (cutS s p), .bool (preB s p)]) ∧ w = w' := by
  go_enter Tryd.func33, Tryd.ntmps33
  go_wp2_with fail
  refine (lcut_any s p _ hs).mono ?_
  rintro e w1 ⟨rfl, rfl⟩
  go_wp2_with fail
  go_ret2
  exact ⟨rfl, rfl⟩

/-- Does a text end with a slash? -/
def endB (c : ByteArray) : Bool := decide (1 ≤ c.size) && ((c.extract (c.size - 1) c.size).toList == [47])
theorem end_at (c : ByteArray) (h : 0 < c.size) (h2 : c.size - 1 < c.size) : endB c = (((c[c.size - 1]).toNat : Int) == 47) := by
  unfold endB
  rw [decide_eq_true (show 1 ≤ c.size by omega), Bool.true_and, tl_bs]
  have e1 : bs (c.extract (c.size - 1) c.size) = [c[c.size - 1]] := by
    rw [bs_extract, List.take_of_length_le (by rw [← size_bs]; exact Nat.le_refl _), List.drop_eq_getElem_cons (by rw [← size_bs]; exact h2), List.drop_of_length_le (by rw [← size_bs]; omega)]
    rfl
  rw [e1]
  rw [Bool.eq_iff_iff, beq_iff_eq, beq_iff_eq]
  show [c[c.size - 1]] = [47] ↔ _
  constructor
  · intro h; injection h with h; rw [h]; rfl
  · intro h
    congr 1
    exact UInt8.toNat_inj.1 (by have : (47 : UInt8).toNat = 47 := rfl; omega)
theorem end_no {c : ByteArray} (h : c.size = 0) : endB c = false := by
  unfold endB
  rw [decide_eq_false (by omega)]
  rfl
/-- Is a text a path? -/
def pathB (s : ByteArray) : Bool := decide (1 ≤ s.size) && decide (s.size ≤ 64) && (at_ s 0 == 47) && allB plainB s
set_option maxRecDepth 100000 in
theorem pright_any (s : ByteArray) (w : World) (hs : s.size ≤ 9223372036854775807) : Calls Tryd.prog 45 #[.string s] w fun e w' => e = .returned (.bool (pathB s)) ∧ w = w' := by
  by_cases h1 : 1 ≤ s.size
  · by_cases h2 : s.size ≤ 64
    · have h0 : 0 < s.size := h1
      have hx := at_get s 0 h0
      cases hb : (((s[0]'h0).toNat : Int) == 47)
      · have HV := Lib.hid (show pathB s = false by unfold pathB; rw [← hx, hb]; simp)
        clear hx
        go_enter Tryd.func45, Tryd.ntmps45
        go_wp2_with fail
        go_ret
        exact ⟨ret_bool HV.out.symm, rfl⟩
      · have HV := Lib.hid (show pathB s = allB plainB s by unfold pathB; rw [← hx, hb, decide_eq_true h1, decide_eq_true h2]; rfl)
        clear hx
        go_enter Tryd.func45, Tryd.ntmps45
        go_wp2_with fail
        refine (plain_any s _ hs).mono ?_
        rintro e w1 ⟨rfl, rfl⟩
        go_wp2_with fail
        go_ret
        exact ⟨ret_bool HV.out.symm, rfl⟩
    · have HV := Lib.hid (show pathB s = false by unfold pathB; rw [decide_eq_false h2]; simp)
      go_enter Tryd.func45, Tryd.ntmps45
      go_wp2_with fail
      go_ret
      exact ⟨ret_bool HV.out.symm, rfl⟩
  · have HV := Lib.hid (show pathB s = false by unfold pathB; rw [decide_eq_false h1]; simp)
    go_enter Tryd.func45, Tryd.ntmps45
    go_wp2_with fail
    go_ret
    exact ⟨ret_bool HV.out.symm, rfl⟩
end Go.Proofs.YtngamlikhgilhaaDoor
