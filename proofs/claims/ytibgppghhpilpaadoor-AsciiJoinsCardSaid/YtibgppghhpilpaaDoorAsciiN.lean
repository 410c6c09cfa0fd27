/- The walk of the statement AsciiJoins. -/
import Derived.Test.YtibgppghhpilpaaDoorAsciiL
import Derived.OpenShut
namespace Go.Proofs.YtibgppghhpilpaaDoor
open Go.RowKit

theorem allB_append (p : Int → Bool) (a b : ByteArray) : allB p (a ++ b) = (allB p a && allB p b) := by
  unfold allB
  rw [bs_append, List.all_append]
theorem tokB_append (a b : ByteArray) (ha : tokB a = true) (hb : tokB b = true) : tokB (a ++ b) = true := by
  unfold tokB at *
  rw [allB_append, bs_append]
  rw [Bool.and_eq_true] at ha hb
  rw [ha.2, hb.2]
  have h1 : bs a ≠ [] := by intro h; rw [h] at ha; simp at ha
  cases h : bs a with
  | nil => exact absurd h h1
  | cons x l => rfl
theorem lowS_append (a b : ByteArray) : lowS (a ++ b) = lowS a ++ lowS b := by
  apply bs_inj
  rw [bs_append]
  unfold lowS
  rw [bs_mk, bs_mk, bs_mk, bs_append, List.map_append]

set_option maxRecDepth 100000 in
theorem asciiJoins_any (a b : ByteArray) (w : World) (ha : a.size ≤ 140737488351232) (hb : b.size ≤ 140737488351232) :
    Calls Tryd.prog 8 #[.string a, .string b] w fun e w' => e = .returned (.bool true) ∧ Below w.heap.size w w' := by
  have h0 : a.size + b.size ≤ 9223372036854775807 := by omega
  have hz : (a ++ b).size ≤ 9223372036854775807 := by rw [ByteArray.size_append]; omega
  have HZ := Lib.hid hz
  have HA := Lib.hid (show a.size ≤ 9223372036854775807 by omega)
  have HB := Lib.hid (show b.size ≤ 9223372036854775807 by omega)
  have hl : (lowS a).size + (lowS b).size ≤ 9223372036854775807 := by rw [lowS_size, lowS_size]; omega
  have HL := Lib.hid (lowS_append a b)
  have HO := Lib.hid (allB_append octB a b)
  have HP := Lib.hid (allB_append plainB a b)
  have HT := Lib.hid (tokB_append a b)
  clear hz
  go_enter Tryd.func8, Tryd.ntmps8
  go_wp2_with fail
  refine (alive_any _).mono ?_
  rintro e w1 ⟨rfl, hb1⟩
  go_wp2_with fail
  refine (octets_any (a ++ b) _ HZ.out).mono ?_
  rintro e w2 ⟨rfl, rfl⟩
  go_wp2_with fail
  refine (octets_any a _ HA.out).mono ?_
  rintro e w2 ⟨rfl, rfl⟩
  rw [HO.out]
  cases h1 : allB octB a
  case false =>
    rw [Bool.false_and]
    go_wp2_with fail
    refine (plain_any (a ++ b) _ HZ.out).mono ?_
    rintro e w2 ⟨rfl, rfl⟩
    go_wp2_with fail
    refine (plain_any a _ HA.out).mono ?_
    rintro e w2 ⟨rfl, rfl⟩
    rw [HP.out]
    cases h2 : allB plainB a
    case false =>
      rw [Bool.false_and]
      go_wp2_with fail
      refine (token_any a _ HA.out).mono ?_
      rintro e w2 ⟨rfl, rfl⟩
      cases h3 : tokB a
      case false =>
        go_wp2_with fail
        refine (lower_any (a ++ b) _ HZ.out).mono ?_
        rintro e w3 ⟨rfl, hb3⟩
        rw [HL.out]
        go_wp2_with fail
        refine (lower_any a _ HA.out).mono ?_
        rintro e w4 ⟨rfl, hb4⟩
        go_wp2_with fail
        refine (lower_any b _ HB.out).mono ?_
        rintro e w5 ⟨rfl, hb5⟩
        go_wp2_with fail
        go_ret
        exact ⟨by simp, Below.snoc (Below.snoc (Below.snoc hb1 hb3) hb4) hb5⟩
      case true =>
        go_wp2_with fail
        refine (token_any b _ HB.out).mono ?_
        rintro e w2 ⟨rfl, rfl⟩
        cases h4 : tokB b
        case false =>
          go_wp2_with fail
          refine (lower_any (a ++ b) _ HZ.out).mono ?_
          rintro e w3 ⟨rfl, hb3⟩
          rw [HL.out]
          go_wp2_with fail
          refine (lower_any a _ HA.out).mono ?_
          rintro e w4 ⟨rfl, hb4⟩
          go_wp2_with fail
          refine (lower_any b _ HB.out).mono ?_
          rintro e w5 ⟨rfl, hb5⟩
          go_wp2_with fail
          go_ret
          exact ⟨by simp, Below.snoc (Below.snoc (Below.snoc hb1 hb3) hb4) hb5⟩
        case true =>
          have HJ := Lib.hid (HT.out h3 h4)
          go_wp2_with fail
          refine (token_any (a ++ b) _ HZ.out).mono ?_
          rintro e w2 ⟨rfl, rfl⟩
          rw [HJ.out]
          go_wp2_with fail
          refine (lower_any (a ++ b) _ HZ.out).mono ?_
          rintro e w3 ⟨rfl, hb3⟩
          rw [HL.out]
          go_wp2_with fail
          refine (lower_any a _ HA.out).mono ?_
          rintro e w4 ⟨rfl, hb4⟩
          go_wp2_with fail
          refine (lower_any b _ HB.out).mono ?_
          rintro e w5 ⟨rfl, hb5⟩
          go_wp2_with fail
          go_ret
          exact ⟨by simp, Below.snoc (Below.snoc (Below.snoc hb1 hb3) hb4) hb5⟩
    case true =>
      rw [Bool.true_and]
      go_wp2_with fail
      refine (plain_any b _ HB.out).mono ?_
      rintro e w2 ⟨rfl, rfl⟩
      go_wp2_with fail
      refine (token_any a _ HA.out).mono ?_
      rintro e w2 ⟨rfl, rfl⟩
      cases h3 : tokB a
      case false =>
        go_wp2_with fail
        refine (lower_any (a ++ b) _ HZ.out).mono ?_
        rintro e w3 ⟨rfl, hb3⟩
        rw [HL.out]
        go_wp2_with fail
        refine (lower_any a _ HA.out).mono ?_
        rintro e w4 ⟨rfl, hb4⟩
        go_wp2_with fail
        refine (lower_any b _ HB.out).mono ?_
        rintro e w5 ⟨rfl, hb5⟩
        go_wp2_with fail
        go_ret
        exact ⟨by simp, Below.snoc (Below.snoc (Below.snoc hb1 hb3) hb4) hb5⟩
      case true =>
        go_wp2_with fail
        refine (token_any b _ HB.out).mono ?_
        rintro e w2 ⟨rfl, rfl⟩
        cases h4 : tokB b
        case false =>
          go_wp2_with fail
          refine (lower_any (a ++ b) _ HZ.out).mono ?_
          rintro e w3 ⟨rfl, hb3⟩
          rw [HL.out]
          go_wp2_with fail
          refine (lower_any a _ HA.out).mono ?_
          rintro e w4 ⟨rfl, hb4⟩
          go_wp2_with fail
          refine (lower_any b _ HB.out).mono ?_
          rintro e w5 ⟨rfl, hb5⟩
          go_wp2_with fail
          go_ret
          exact ⟨by simp, Below.snoc (Below.snoc (Below.snoc hb1 hb3) hb4) hb5⟩
        case true =>
          have HJ := Lib.hid (HT.out h3 h4)
          go_wp2_with fail
          refine (token_any (a ++ b) _ HZ.out).mono ?_
          rintro e w2 ⟨rfl, rfl⟩
          rw [HJ.out]
          go_wp2_with fail
          refine (lower_any (a ++ b) _ HZ.out).mono ?_
          rintro e w3 ⟨rfl, hb3⟩
          rw [HL.out]
          go_wp2_with fail
          refine (lower_any a _ HA.out).mono ?_
          rintro e w4 ⟨rfl, hb4⟩
          go_wp2_with fail
          refine (lower_any b _ HB.out).mono ?_
          rintro e w5 ⟨rfl, hb5⟩
          go_wp2_with fail
          go_ret
          exact ⟨by simp, Below.snoc (Below.snoc (Below.snoc hb1 hb3) hb4) hb5⟩
  case true =>
    rw [Bool.true_and]
    go_wp2_with fail
    refine (octets_any b _ HB.out).mono ?_
    rintro e w2 ⟨rfl, rfl⟩
    go_wp2_with fail
    refine (plain_any (a ++ b) _ HZ.out).mono ?_
    rintro e w2 ⟨rfl, rfl⟩
    go_wp2_with fail
    refine (plain_any a _ HA.out).mono ?_
    rintro e w2 ⟨rfl, rfl⟩
    rw [HP.out]
    cases h2 : allB plainB a
    case false =>
      rw [Bool.false_and]
      go_wp2_with fail
      refine (token_any a _ HA.out).mono ?_
      rintro e w2 ⟨rfl, rfl⟩
      cases h3 : tokB a
      case false =>
        go_wp2_with fail
        refine (lower_any (a ++ b) _ HZ.out).mono ?_
        rintro e w3 ⟨rfl, hb3⟩
        rw [HL.out]
        go_wp2_with fail
        refine (lower_any a _ HA.out).mono ?_
        rintro e w4 ⟨rfl, hb4⟩
        go_wp2_with fail
        refine (lower_any b _ HB.out).mono ?_
        rintro e w5 ⟨rfl, hb5⟩
        go_wp2_with fail
        go_ret
        exact ⟨by simp, Below.snoc (Below.snoc (Below.snoc hb1 hb3) hb4) hb5⟩
      case true =>
        go_wp2_with fail
        refine (token_any b _ HB.out).mono ?_
        rintro e w2 ⟨rfl, rfl⟩
        cases h4 : tokB b
        case false =>
          go_wp2_with fail
          refine (lower_any (a ++ b) _ HZ.out).mono ?_
          rintro e w3 ⟨rfl, hb3⟩
          rw [HL.out]
          go_wp2_with fail
          refine (lower_any a _ HA.out).mono ?_
          rintro e w4 ⟨rfl, hb4⟩
          go_wp2_with fail
          refine (lower_any b _ HB.out).mono ?_
          rintro e w5 ⟨rfl, hb5⟩
          go_wp2_with fail
          go_ret
          exact ⟨by simp, Below.snoc (Below.snoc (Below.snoc hb1 hb3) hb4) hb5⟩
        case true =>
          have HJ := Lib.hid (HT.out h3 h4)
          go_wp2_with fail
          refine (token_any (a ++ b) _ HZ.out).mono ?_
          rintro e w2 ⟨rfl, rfl⟩
          rw [HJ.out]
          go_wp2_with fail
          refine (lower_any (a ++ b) _ HZ.out).mono ?_
          rintro e w3 ⟨rfl, hb3⟩
          rw [HL.out]
          go_wp2_with fail
          refine (lower_any a _ HA.out).mono ?_
          rintro e w4 ⟨rfl, hb4⟩
          go_wp2_with fail
          refine (lower_any b _ HB.out).mono ?_
          rintro e w5 ⟨rfl, hb5⟩
          go_wp2_with fail
          go_ret
          exact ⟨by simp, Below.snoc (Below.snoc (Below.snoc hb1 hb3) hb4) hb5⟩
    case true =>
      rw [Bool.true_and]
      go_wp2_with fail
      refine (plain_any b _ HB.out).mono ?_
      rintro e w2 ⟨rfl, rfl⟩
      go_wp2_with fail
      refine (token_any a _ HA.out).mono ?_
      rintro e w2 ⟨rfl, rfl⟩
      cases h3 : tokB a
      case false =>
        go_wp2_with fail
        refine (lower_any (a ++ b) _ HZ.out).mono ?_
        rintro e w3 ⟨rfl, hb3⟩
        rw [HL.out]
        go_wp2_with fail
        refine (lower_any a _ HA.out).mono ?_
        rintro e w4 ⟨rfl, hb4⟩
        go_wp2_with fail
        refine (lower_any b _ HB.out).mono ?_
        rintro e w5 ⟨rfl, hb5⟩
        go_wp2_with fail
        go_ret
        exact ⟨by simp, Below.snoc (Below.snoc (Below.snoc hb1 hb3) hb4) hb5⟩
      case true =>
        go_wp2_with fail
        refine (token_any b _ HB.out).mono ?_
        rintro e w2 ⟨rfl, rfl⟩
        cases h4 : tokB b
        case false =>
          go_wp2_with fail
          refine (lower_any (a ++ b) _ HZ.out).mono ?_
          rintro e w3 ⟨rfl, hb3⟩
          rw [HL.out]
          go_wp2_with fail
          refine (lower_any a _ HA.out).mono ?_
          rintro e w4 ⟨rfl, hb4⟩
          go_wp2_with fail
          refine (lower_any b _ HB.out).mono ?_
          rintro e w5 ⟨rfl, hb5⟩
          go_wp2_with fail
          go_ret
          exact ⟨by simp, Below.snoc (Below.snoc (Below.snoc hb1 hb3) hb4) hb5⟩
        case true =>
          have HJ := Lib.hid (HT.out h3 h4)
          go_wp2_with fail
          refine (token_any (a ++ b) _ HZ.out).mono ?_
          rintro e w2 ⟨rfl, rfl⟩
          rw [HJ.out]
          go_wp2_with fail
          refine (lower_any (a ++ b) _ HZ.out).mono ?_
          rintro e w3 ⟨rfl, hb3⟩
          rw [HL.out]
          go_wp2_with fail
          refine (lower_any a _ HA.out).mono ?_
          rintro e w4 ⟨rfl, hb4⟩
          go_wp2_with fail
          refine (lower_any b _ HB.out).mono ?_
          rintro e w5 ⟨rfl, hb5⟩
          go_wp2_with fail
          go_ret
          exact ⟨by simp, Below.snoc (Below.snoc (Below.snoc hb1 hb3) hb4) hb5⟩
end Go.Proofs.YtibgppghhpilpaaDoor
