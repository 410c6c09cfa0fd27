/- The walks of the statements AsciiLowers, AsciiSame and AsciiClasses. -/
import Derived.Test.YtibgppghhpilpaaDoorAsciiV
namespace Go.Proofs.YtibgppghhpilpaaDoor
open Go.RowKit

theorem lowS_lowS (s : ByteArray) : lowS (lowS s) = lowS s := by
  unfold lowS
  rw [bs_mk, List.map_map, show low ∘ low = low from funext low_low]
theorem lowS_size (s : ByteArray) : (lowS s).size = s.size := by unfold lowS; rw [size_mk, List.length_map, size_bs]
theorem sameB_refl (a : ByteArray) : sameB a a = true := by simp [sameB]
theorem sameB_iff (a b : ByteArray) : sameB a b = true ↔ lowS a = lowS b := str_eq _ _
theorem sameB_symm (a b : ByteArray) : sameB b a = sameB a b := by
  rw [Bool.eq_iff_iff, sameB_iff, sameB_iff]
  exact ⟨Eq.symm, Eq.symm⟩
theorem sameB_trans {a b c : ByteArray} (h1 : sameB a b = true) (h2 : sameB b c = true) : sameB a c = true := (sameB_iff a c).2 (((sameB_iff a b).1 h1).trans ((sameB_iff b c).1 h2))
theorem sameB_low (a : ByteArray) : sameB a (lowS a) = true := (sameB_iff _ _).2 (lowS_lowS a).symm
theorem oct_plain (s : ByteArray) (h : allB octB s = true) : allB plainB s = true := by
  unfold allB at h ⊢
  rw [List.all_eq_true] at h ⊢
  intro c hc
  have := h c hc
  revert this
  simp only [octB, plainB]
  cases wi (c.toNat : Int) 33 126 <;> cases ((c.toNat : Int) == 59) <;> simp

set_option maxRecDepth 100000 in
theorem asciiLowers_any (s : ByteArray) (w : World) (hs : s.size ≤ 140737488351232) :
    Calls Tryd.prog 3 #[.string s] w fun e w' => e = .returned (.bool true) ∧ Below w.heap.size w w' := by
  have HL := Lib.hid (lowS_lowS s)
  have HZ := Lib.hid (lowS_size s)
  go_enter Tryd.func3, Tryd.ntmps3
  go_wp2_with fail
  refine (lower_any s _ (by omega)).mono ?_
  rintro e w1 ⟨rfl, hb1⟩
  go_wp2_with fail
  refine (alive_any _).mono ?_
  rintro e w2 ⟨rfl, hb2⟩
  go_wp2_with fail
  refine (rlower_any s _ (by omega)).mono ?_
  rintro e w3 ⟨rfl, hb3⟩
  go_wp2_with fail
  refine (lower_any (lowS s) _ (by rw [HZ.out]; omega)).mono ?_
  rintro e w4 ⟨rfl, hb4⟩
  rw [HL.out]
  have hz : (((lowS s).size : Int) == (s.size : Int)) = true := by rw [HZ.out]; simp
  have hz2 : ((lowS s).size == s.size) = true := by rw [HZ.out]; simp
  go_wp2_with fail
  go_ret
  exact ⟨by simp, Below.snoc (Below.snoc (Below.snoc hb1 hb2) hb3) hb4⟩

set_option maxRecDepth 100000 in
theorem asciiSame_any (a b c : ByteArray) (w : World) (ha : a.size ≤ 140737488351232) (hb : b.size ≤ 140737488351232) (hc : c.size ≤ 140737488351232) :
    Calls Tryd.prog 4 #[.string a, .string b, .string c] w fun e w' => e = .returned (.bool true) ∧ Below w.heap.size w w' := by
  have HT := Lib.hid (@sameB_trans a b c)
  have HR := Lib.hid (sameB_refl a)
  have HS := Lib.hid (sameB_symm a b)
  have HL := Lib.hid (sameB_low a)
  have HZ := Lib.hid (lowS_size a)
  have HD := Lib.hid (show sameB a b = ((lowS a).toList == (lowS b).toList) from rfl)
  go_enter Tryd.func4, Tryd.ntmps4
  go_wp2_with fail
  refine (same_any a b _ (by omega) (by omega)).mono ?_
  rintro e w1 ⟨rfl, hb1⟩
  go_wp2_with fail
  refine (same_any b c _ (by omega) (by omega)).mono ?_
  rintro e w2 ⟨rfl, hb2⟩
  go_wp2_with fail
  refine (alive_any _).mono ?_
  rintro e w3 ⟨rfl, hb3⟩
  go_wp2_with fail
  refine (rlower_any a _ (by omega)).mono ?_
  rintro e w4 ⟨rfl, hb4⟩
  go_wp2_with fail
  refine (rlower_any b _ (by omega)).mono ?_
  rintro e w5 ⟨rfl, hb5⟩
  have h0 : (sameB a b == ((lowS a).toList == (lowS b).toList)) = true := by rw [HD.out]; simp
  have hB5 := Below.snoc (Below.snoc (Below.snoc (Below.snoc hb1 hb2) hb3) hb4) hb5
  clear hb1 hb2 hb3 hb4 hb5
  go_wp2_with fail
  refine (same_any a a _ (by omega) (by omega)).mono ?_
  rintro e w6 ⟨rfl, hb6⟩
  rw [HR.out]
  go_wp2_with fail
  refine (same_any b a _ (by omega) (by omega)).mono ?_
  rintro e w7 ⟨rfl, hb7⟩
  rw [HS.out]
  have hB7 := Below.snoc (Below.snoc hB5 hb6) hb7
  clear hB5 hb6 hb7 h0
  cases h1 : sameB a b
  case false =>
    go_wp2_with fail
    refine (lower_any a _ (by omega)).mono ?_
    rintro e w8 ⟨rfl, hb8⟩
    go_wp2_with fail
    refine (same_any a (lowS a) _ (by omega) (by rw [HZ.out]; omega)).mono ?_
    rintro e w9 ⟨rfl, hb9⟩
    rw [HL.out]
    go_wp2_with fail
    go_ret
    exact ⟨by simp, Below.snoc (Below.snoc hB7 hb8) hb9⟩
  case true =>
    cases h2 : sameB b c
    case false =>
      go_wp2_with fail
      refine (lower_any a _ (by omega)).mono ?_
      rintro e w8 ⟨rfl, hb8⟩
      go_wp2_with fail
      refine (same_any a (lowS a) _ (by omega) (by rw [HZ.out]; omega)).mono ?_
      rintro e w9 ⟨rfl, hb9⟩
      rw [HL.out]
      go_wp2_with fail
      go_ret
      exact ⟨by simp, Below.snoc (Below.snoc hB7 hb8) hb9⟩
    case true =>
      have HAC := Lib.hid (HT.out h1 h2)
      go_wp2_with fail
      refine (same_any a c _ (by omega) (by omega)).mono ?_
      rintro e w10 ⟨rfl, hb10⟩
      rw [HAC.out]
      go_wp2_with fail
      refine (lower_any a _ (by omega)).mono ?_
      rintro e w8 ⟨rfl, hb8⟩
      go_wp2_with fail
      refine (same_any a (lowS a) _ (by omega) (by rw [HZ.out]; omega)).mono ?_
      rintro e w9 ⟨rfl, hb9⟩
      rw [HL.out]
      go_wp2_with fail
      go_ret
      exact ⟨by simp, Below.snoc (Below.snoc (Below.snoc hB7 hb10) hb8) hb9⟩

set_option maxRecDepth 100000 in
theorem asciiClasses_any (s : ByteArray) (w : World) (hs : s.size ≤ 140737488351232) :
    Calls Tryd.prog 5 #[.string s] w fun e w' => e = .returned (.bool true) ∧ Below w.heap.size w w' := by
  have HO := Lib.hid (oct_plain s)
  have h0 : s.size ≤ 9223372036854775807 := by omega
  go_enter Tryd.func5, Tryd.ntmps5
  go_wp2_with fail
  refine (alive_any _).mono ?_
  rintro e w1 ⟨rfl, hb1⟩
  go_wp2_with fail
  refine (token_any s _ h0).mono ?_
  rintro e w2 ⟨rfl, rfl⟩
  go_wp2_with fail
  refine (rtoken_any s _ h0).mono ?_
  rintro e w2 ⟨rfl, rfl⟩
  go_wp2_with fail
  refine (octets_any s _ h0).mono ?_
  rintro e w2 ⟨rfl, rfl⟩
  go_wp2_with fail
  refine (roctets_any s _ h0).mono ?_
  rintro e w2 ⟨rfl, rfl⟩
  go_wp2_with fail
  refine (plain_any s _ h0).mono ?_
  rintro e w2 ⟨rfl, rfl⟩
  go_wp2_with fail
  refine (rplain_any s _ h0).mono ?_
  rintro e w2 ⟨rfl, rfl⟩
  go_wp2_with fail
  refine (octets_any s _ h0).mono ?_
  rintro e w2 ⟨rfl, rfl⟩
  cases h1 : allB octB s
  case false =>
    go_wp2_with fail
    go_ret
    exact ⟨by simp, hb1⟩
  case true =>
    have HP := Lib.hid (HO.out h1)
    go_wp2_with fail
    refine (plain_any s _ h0).mono ?_
    rintro e w2 ⟨rfl, rfl⟩
    rw [HP.out]
    go_wp2_with fail
    go_ret
    exact ⟨by simp, hb1⟩
end Go.Proofs.YtibgppghhpilpaaDoor
