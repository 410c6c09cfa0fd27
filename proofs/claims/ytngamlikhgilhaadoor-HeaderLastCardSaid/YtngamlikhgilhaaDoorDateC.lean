/- Contracts: the month of a word, of the program and of the reference; the reference's digits. -/
import Derived.Test.YtngamlikhgilhaaDoorDateB
import Derived.Test.YtngamlikhgilhaaDoorQReg
namespace Go.Proofs.YtngamlikhgilhaaDoor
open Go.RowKit

def monI (w : ByteArray) : Nat := monTab.findIdx (fun t => t == mon3 w)
theorem monI_le (w : ByteArray) : monI w ≤ 12 := List.findIdx_le_length
theorem monI_at (w : ByteArray) (k : Nat) (hk : k < 12) (h : monI w = k) : (monTab[k]'hk == mon3 w) = true := by
  have h1 : monI w < monTab.length := by rw [h]; exact hk
  have := List.findIdx_getElem (p := fun t => t == mon3 w) (w := h1)
  subst h
  exact this
theorem monI_before (w : ByteArray) (k : Nat) (hk : k < 12) (h : k < monI w) : (monTab[k]'hk == mon3 w) = false := by
  have := List.not_of_lt_findIdx (p := fun t => t == mon3 w) h
  exact this
theorem monthN_small {w : ByteArray} (h : w.size < 3) : monthN w = 0 := if_pos h
theorem monthN_at {w : ByteArray} (h : ¬ w.size < 3) {k : Nat} (hk : k < 12) (h2 : monI w = k) : monthN w = k + 1 := by
  unfold monthN
  rw [if_neg h]
  show (if monI w < 12 then monI w + 1 else 0) = k + 1
  rw [if_pos (by omega), h2]
theorem monthN_none {w : ByteArray} (h : ¬ w.size < 3) (h2 : monI w = 12) : monthN w = 0 := by
  unfold monthN
  rw [if_neg h]
  show (if monI w < 12 then monI w + 1 else 0) = 0
  rw [if_neg (by omega)]
def monV (w : ByteArray) : Value := .tuple #[.int .i64 (monthN w), .bool (decide (0 < monthN w))]
theorem monV_of {w : ByteArray} {k : Nat} (h : monthN w = k + 1) : monV w = .tuple #[.int .i64 ((k + 1 : Nat) : Int), .bool true] := by unfold monV; rw [h]; simp
theorem monV_no {w : ByteArray} (h : monthN w = 0) : monV w = .tuple #[.int .i64 0, .bool false] := by unfold monV; rw [h]; rfl
theorem mon_beq {a : List UInt8} {t X : ByteArray} (h : bs t = a) : (t.toList == X.toList) = (a == bs X) := by rw [toL, toL, h]
theorem mon_beq2 {a : List UInt8} {t X : ByteArray} (h : bs t = a) : (X.toList == t.toList) = (a == bs X) := by rw [toL, toL, h, Bool.beq_comm]
set_option maxHeartbeats 4000000 in
set_option maxRecDepth 100000 in
theorem month_any (w : ByteArray) (W : World) (hs : w.size ≤ 9223372036854775807) : Calls Tryd.prog 29 #[.string w] W fun e W' => e = .returned (monV w) ∧ Below W.heap.size W W' := by
  by_cases h3 : w.size < 3
  · have HV := Lib.hid (monV_no (monthN_small h3))
    go_enter Tryd.func29, Tryd.ntmps29
    go_wp2_with fail
    go_ret2
    exact ⟨by rw [HV.out]; rfl, Below.refl _ _⟩
  · have HA := Lib.hid (fun k hk h => monV_of (@monthN_at w h3 k hk h))
    have HN := Lib.hid (fun h => monV_no (@monthN_none w h3 h))
    have HI := Lib.hid (monI_at w)
    have HB := Lib.hid (monI_before w)
    have hle := monI_le w
    generalize monI w = m at HA HN HI HB hle
    have HX := Lib.hid (show mon3 w = bs (lowS (w.extract 0 3)) from rfl)
    have k3 : (3 : Int) ≤ (w.size : Int) := by omega
    have hz : (w.extract 0 3).size ≤ 9223372036854775807 := by rw [ByteArray.size_extract]; omega
    go_enter Tryd.func29, Tryd.ntmps29
    go_wp2_with fail
    refine (lower_any (w.extract 0 3) _ hz).mono ?_
    rintro e w1 ⟨rfl, hb⟩
    generalize lowS (w.extract 0 3) = X at HX
    go_wp2_with fail
    go_loop [4] (fun i => (i = .int .i64 0 ∧ Hid (0 ≤ m)) ∨ (i = .int .i64 3 ∧ Hid (1 ≤ m)) ∨ (i = .int .i64 6 ∧ Hid (2 ≤ m)) ∨ (i = .int .i64 9 ∧ Hid (3 ≤ m)) ∨ (i = .int .i64 12 ∧ Hid (4 ≤ m)) ∨ (i = .int .i64 15 ∧ Hid (5 ≤ m)) ∨ (i = .int .i64 18 ∧ Hid (6 ≤ m)) ∨ (i = .int .i64 21 ∧ Hid (7 ≤ m)) ∨ (i = .int .i64 24 ∧ Hid (8 ≤ m)) ∨ (i = .int .i64 27 ∧ Hid (9 ≤ m)) ∨ (i = .int .i64 30 ∧ Hid (10 ≤ m)) ∨ (i = .int .i64 33 ∧ Hid (11 ≤ m)) ∨ (i = .int .i64 36 ∧ Hid (12 ≤ m))) (fun i => (36 - intOf i).toNat)
    case atStart => exact .inl ⟨rfl, Lib.hid (Nat.zero_le _)⟩
    case round =>
      rcases hrel with ⟨rfl, hj⟩ | ⟨rfl, hj⟩ | ⟨rfl, hj⟩ | ⟨rfl, hj⟩ | ⟨rfl, hj⟩ | ⟨rfl, hj⟩ | ⟨rfl, hj⟩ | ⟨rfl, hj⟩ | ⟨rfl, hj⟩ | ⟨rfl, hj⟩ | ⟨rfl, hj⟩ | ⟨rfl, hj⟩ | ⟨rfl, hj⟩
      · have HE := Lib.hid (mon_beq (X := X) (show bs ((⟨#[106, 97, 110, 102, 101, 98, 109, 97, 114, 97, 112, 114, 109, 97, 121, 106, 117, 110, 106, 117, 108, 97, 117, 103, 115, 101, 112, 111, 99, 116, 110, 111, 118, 100, 101, 99]⟩ : ByteArray).extract 0 3) = [106, 97, 110] by decide))
        by_cases hm : m = 0
        · have hq : (((⟨#[106, 97, 110, 102, 101, 98, 109, 97, 114, 97, 112, 114, 109, 97, 121, 106, 117, 110, 106, 117, 108, 97, 117, 103, 115, 101, 112, 111, 99, 116, 110, 111, 118, 100, 101, 99]⟩ : ByteArray).extract 0 3).toList == X.toList) = true := by rw [HE.out, ← HX.out]; exact HI.out 0 (by decide) hm
          have HV := Lib.hid (HA.out 0 (by decide) hm)
          clear hm
          go_wp2_with fail
          go_ret2
          exact ⟨by rw [HV.out]; rfl, hb⟩
        · have hq : (((⟨#[106, 97, 110, 102, 101, 98, 109, 97, 114, 97, 112, 114, 109, 97, 121, 106, 117, 110, 106, 117, 108, 97, 117, 103, 115, 101, 112, 111, 99, 116, 110, 111, 118, 100, 101, 99]⟩ : ByteArray).extract 0 3).toList == X.toList) = false := by rw [HE.out, ← HX.out]; exact HB.out 0 (by decide) (by have := hj.out; omega)
          have HJ := Lib.hid (show 1 ≤ m by have := hj.out; omega)
          clear hm hj
          go_wp2_with fail
          go_round
          case rel => exact .inr (.inl ⟨rfl, Lib.hid HJ.out⟩)
          case measure => simp [intOf]
      · have HE := Lib.hid (mon_beq (X := X) (show bs ((⟨#[106, 97, 110, 102, 101, 98, 109, 97, 114, 97, 112, 114, 109, 97, 121, 106, 117, 110, 106, 117, 108, 97, 117, 103, 115, 101, 112, 111, 99, 116, 110, 111, 118, 100, 101, 99]⟩ : ByteArray).extract 3 6) = [102, 101, 98] by decide))
        by_cases hm : m = 1
        · have hq : (((⟨#[106, 97, 110, 102, 101, 98, 109, 97, 114, 97, 112, 114, 109, 97, 121, 106, 117, 110, 106, 117, 108, 97, 117, 103, 115, 101, 112, 111, 99, 116, 110, 111, 118, 100, 101, 99]⟩ : ByteArray).extract 3 6).toList == X.toList) = true := by rw [HE.out, ← HX.out]; exact HI.out 1 (by decide) hm
          have HV := Lib.hid (HA.out 1 (by decide) hm)
          clear hm
          go_wp2_with fail
          go_ret2
          exact ⟨by rw [HV.out]; rfl, hb⟩
        · have hq : (((⟨#[106, 97, 110, 102, 101, 98, 109, 97, 114, 97, 112, 114, 109, 97, 121, 106, 117, 110, 106, 117, 108, 97, 117, 103, 115, 101, 112, 111, 99, 116, 110, 111, 118, 100, 101, 99]⟩ : ByteArray).extract 3 6).toList == X.toList) = false := by rw [HE.out, ← HX.out]; exact HB.out 1 (by decide) (by have := hj.out; omega)
          have HJ := Lib.hid (show 2 ≤ m by have := hj.out; omega)
          clear hm hj
          go_wp2_with fail
          go_round
          case rel => exact .inr (.inr (.inl ⟨rfl, Lib.hid HJ.out⟩))
          case measure => simp [intOf]
      · have HE := Lib.hid (mon_beq (X := X) (show bs ((⟨#[106, 97, 110, 102, 101, 98, 109, 97, 114, 97, 112, 114, 109, 97, 121, 106, 117, 110, 106, 117, 108, 97, 117, 103, 115, 101, 112, 111, 99, 116, 110, 111, 118, 100, 101, 99]⟩ : ByteArray).extract 6 9) = [109, 97, 114] by decide))
        by_cases hm : m = 2
        · have hq : (((⟨#[106, 97, 110, 102, 101, 98, 109, 97, 114, 97, 112, 114, 109, 97, 121, 106, 117, 110, 106, 117, 108, 97, 117, 103, 115, 101, 112, 111, 99, 116, 110, 111, 118, 100, 101, 99]⟩ : ByteArray).extract 6 9).toList == X.toList) = true := by rw [HE.out, ← HX.out]; exact HI.out 2 (by decide) hm
          have HV := Lib.hid (HA.out 2 (by decide) hm)
          clear hm
          go_wp2_with fail
          go_ret2
          exact ⟨by rw [HV.out]; rfl, hb⟩
        · have hq : (((⟨#[106, 97, 110, 102, 101, 98, 109, 97, 114, 97, 112, 114, 109, 97, 121, 106, 117, 110, 106, 117, 108, 97, 117, 103, 115, 101, 112, 111, 99, 116, 110, 111, 118, 100, 101, 99]⟩ : ByteArray).extract 6 9).toList == X.toList) = false := by rw [HE.out, ← HX.out]; exact HB.out 2 (by decide) (by have := hj.out; omega)
          have HJ := Lib.hid (show 3 ≤ m by have := hj.out; omega)
          clear hm hj
          go_wp2_with fail
          go_round
          case rel => exact .inr (.inr (.inr (.inl ⟨rfl, Lib.hid HJ.out⟩)))
          case measure => simp [intOf]
      · have HE := Lib.hid (mon_beq (X := X) (show bs ((⟨#[106, 97, 110, 102, 101, 98, 109, 97, 114, 97, 112, 114, 109, 97, 121, 106, 117, 110, 106, 117, 108, 97, 117, 103, 115, 101, 112, 111, 99, 116, 110, 111, 118, 100, 101, 99]⟩ : ByteArray).extract 9 12) = [97, 112, 114] by decide))
        by_cases hm : m = 3
        · have hq : (((⟨#[106, 97, 110, 102, 101, 98, 109, 97, 114, 97, 112, 114, 109, 97, 121, 106, 117, 110, 106, 117, 108, 97, 117, 103, 115, 101, 112, 111, 99, 116, 110, 111, 118, 100, 101, 99]⟩ : ByteArray).extract 9 12).toList == X.toList) = true := by rw [HE.out, ← HX.out]; exact HI.out 3 (by decide) hm
          have HV := Lib.hid (HA.out 3 (by decide) hm)
          clear hm
          go_wp2_with fail
          go_ret2
          exact ⟨by rw [HV.out]; rfl, hb⟩
        · have hq : (((⟨#[106, 97, 110, 102, 101, 98, 109, 97, 114, 97, 112, 114, 109, 97, 121, 106, 117, 110, 106, 117, 108, 97, 117, 103, 115, 101, 112, 111, 99, 116, 110, 111, 118, 100, 101, 99]⟩ : ByteArray).extract 9 12).toList == X.toList) = false := by rw [HE.out, ← HX.out]; exact HB.out 3 (by decide) (by have := hj.out; omega)
          have HJ := Lib.hid (show 4 ≤ m by have := hj.out; omega)
          clear hm hj
          go_wp2_with fail
          go_round
          case rel => exact .inr (.inr (.inr (.inr (.inl ⟨rfl, Lib.hid HJ.out⟩))))
          case measure => simp [intOf]
      · have HE := Lib.hid (mon_beq (X := X) (show bs ((⟨#[106, 97, 110, 102, 101, 98, 109, 97, 114, 97, 112, 114, 109, 97, 121, 106, 117, 110, 106, 117, 108, 97, 117, 103, 115, 101, 112, 111, 99, 116, 110, 111, 118, 100, 101, 99]⟩ : ByteArray).extract 12 15) = [109, 97, 121] by decide))
        by_cases hm : m = 4
        · have hq : (((⟨#[106, 97, 110, 102, 101, 98, 109, 97, 114, 97, 112, 114, 109, 97, 121, 106, 117, 110, 106, 117, 108, 97, 117, 103, 115, 101, 112, 111, 99, 116, 110, 111, 118, 100, 101, 99]⟩ : ByteArray).extract 12 15).toList == X.toList) = true := by rw [HE.out, ← HX.out]; exact HI.out 4 (by decide) hm
          have HV := Lib.hid (HA.out 4 (by decide) hm)
          clear hm
          go_wp2_with fail
          go_ret2
          exact ⟨by rw [HV.out]; rfl, hb⟩
        · have hq : (((⟨#[106, 97, 110, 102, 101, 98, 109, 97, 114, 97, 112, 114, 109, 97, 121, 106, 117, 110, 106, 117, 108, 97, 117, 103, 115, 101, 112, 111, 99, 116, 110, 111, 118, 100, 101, 99]⟩ : ByteArray).extract 12 15).toList == X.toList) = false := by rw [HE.out, ← HX.out]; exact HB.out 4 (by decide) (by have := hj.out; omega)
          have HJ := Lib.hid (show 5 ≤ m by have := hj.out; omega)
          clear hm hj
          go_wp2_with fail
          go_round
          case rel => exact .inr (.inr (.inr (.inr (.inr (.inl ⟨rfl, Lib.hid HJ.out⟩)))))
          case measure => simp [intOf]
      · have HE := Lib.hid (mon_beq (X := X) (show bs ((⟨#[106, 97, 110, 102, 101, 98, 109, 97, 114, 97, 112, 114, 109, 97, 121, 106, 117, 110, 106, 117, 108, 97, 117, 103, 115, 101, 112, 111, 99, 116, 110, 111, 118, 100, 101, 99]⟩ : ByteArray).extract 15 18) = [106, 117, 110] by decide))
        by_cases hm : m = 5
        · have hq : (((⟨#[106, 97, 110, 102, 101, 98, 109, 97, 114, 97, 112, 114, 109, 97, 121, 106, 117, 110, 106, 117, 108, 97, 117, 103, 115, 101, 112, 111, 99, 116, 110, 111, 118, 100, 101, 99]⟩ : ByteArray).extract 15 18).toList == X.toList) = true := by rw [HE.out, ← HX.out]; exact HI.out 5 (by decide) hm
          have HV := Lib.hid (HA.out 5 (by decide) hm)
          clear hm
          go_wp2_with fail
          go_ret2
          exact ⟨by rw [HV.out]; rfl, hb⟩
        · have hq : (((⟨#[106, 97, 110, 102, 101, 98, 109, 97, 114, 97, 112, 114, 109, 97, 121, 106, 117, 110, 106, 117, 108, 97, 117, 103, 115, 101, 112, 111, 99, 116, 110, 111, 118, 100, 101, 99]⟩ : ByteArray).extract 15 18).toList == X.toList) = false := by rw [HE.out, ← HX.out]; exact HB.out 5 (by decide) (by have := hj.out; omega)
          have HJ := Lib.hid (show 6 ≤ m by have := hj.out; omega)
          clear hm hj
          go_wp2_with fail
          go_round
          case rel => exact .inr (.inr (.inr (.inr (.inr (.inr (.inl ⟨rfl, Lib.hid HJ.out⟩))))))
          case measure => simp [intOf]
      · have HE := Lib.hid (mon_beq (X := X) (show bs ((⟨#[106, 97, 110, 102, 101, 98, 109, 97, 114, 97, 112, 114, 109, 97, 121, 106, 117, 110, 106, 117, 108, 97, 117, 103, 115, 101, 112, 111, 99, 116, 110, 111, 118, 100, 101, 99]⟩ : ByteArray).extract 18 21) = [106, 117, 108] by decide))
        by_cases hm : m = 6
        · have hq : (((⟨#[106, 97, 110, 102, 101, 98, 109, 97, 114, 97, 112, 114, 109, 97, 121, 106, 117, 110, 106, 117, 108, 97, 117, 103, 115, 101, 112, 111, 99, 116, 110, 111, 118, 100, 101, 99]⟩ : ByteArray).extract 18 21).toList == X.toList) = true := by rw [HE.out, ← HX.out]; exact HI.out 6 (by decide) hm
          have HV := Lib.hid (HA.out 6 (by decide) hm)
          clear hm
          go_wp2_with fail
          go_ret2
          exact ⟨by rw [HV.out]; rfl, hb⟩
        · have hq : (((⟨#[106, 97, 110, 102, 101, 98, 109, 97, 114, 97, 112, 114, 109, 97, 121, 106, 117, 110, 106, 117, 108, 97, 117, 103, 115, 101, 112, 111, 99, 116, 110, 111, 118, 100, 101, 99]⟩ : ByteArray).extract 18 21).toList == X.toList) = false := by rw [HE.out, ← HX.out]; exact HB.out 6 (by decide) (by have := hj.out; omega)
          have HJ := Lib.hid (show 7 ≤ m by have := hj.out; omega)
          clear hm hj
          go_wp2_with fail
          go_round
          case rel => exact .inr (.inr (.inr (.inr (.inr (.inr (.inr (.inl ⟨rfl, Lib.hid HJ.out⟩)))))))
          case measure => simp [intOf]
      · have HE := Lib.hid (mon_beq (X := X) (show bs ((⟨#[106, 97, 110, 102, 101, 98, 109, 97, 114, 97, 112, 114, 109, 97, 121, 106, 117, 110, 106, 117, 108, 97, 117, 103, 115, 101, 112, 111, 99, 116, 110, 111, 118, 100, 101, 99]⟩ : ByteArray).extract 21 24) = [97, 117, 103] by decide))
        by_cases hm : m = 7
        · have hq : (((⟨#[106, 97, 110, 102, 101, 98, 109, 97, 114, 97, 112, 114, 109, 97, 121, 106, 117, 110, 106, 117, 108, 97, 117, 103, 115, 101, 112, 111, 99, 116, 110, 111, 118, 100, 101, 99]⟩ : ByteArray).extract 21 24).toList == X.toList) = true := by rw [HE.out, ← HX.out]; exact HI.out 7 (by decide) hm
          have HV := Lib.hid (HA.out 7 (by decide) hm)
          clear hm
          go_wp2_with fail
          go_ret2
          exact ⟨by rw [HV.out]; rfl, hb⟩
        · have hq : (((⟨#[106, 97, 110, 102, 101, 98, 109, 97, 114, 97, 112, 114, 109, 97, 121, 106, 117, 110, 106, 117, 108, 97, 117, 103, 115, 101, 112, 111, 99, 116, 110, 111, 118, 100, 101, 99]⟩ : ByteArray).extract 21 24).toList == X.toList) = false := by rw [HE.out, ← HX.out]; exact HB.out 7 (by decide) (by have := hj.out; omega)
          have HJ := Lib.hid (show 8 ≤ m by have := hj.out; omega)
          clear hm hj
          go_wp2_with fail
          go_round
          case rel => exact .inr (.inr (.inr (.inr (.inr (.inr (.inr (.inr (.inl ⟨rfl, Lib.hid HJ.out⟩))))))))
          case measure => simp [intOf]
      · have HE := Lib.hid (mon_beq (X := X) (show bs ((⟨#[106, 97, 110, 102, 101, 98, 109, 97, 114, 97, 112, 114, 109, 97, 121, 106, 117, 110, 106, 117, 108, 97, 117, 103, 115, 101, 112, 111, 99, 116, 110, 111, 118, 100, 101, 99]⟩ : ByteArray).extract 24 27) = [115, 101, 112] by decide))
        by_cases hm : m = 8
        · have hq : (((⟨#[106, 97, 110, 102, 101, 98, 109, 97, 114, 97, 112, 114, 109, 97, 121, 106, 117, 110, 106, 117, 108, 97, 117, 103, 115, 101, 112, 111, 99, 116, 110, 111, 118, 100, 101, 99]⟩ : ByteArray).extract 24 27).toList == X.toList) = true := by rw [HE.out, ← HX.out]; exact HI.out 8 (by decide) hm
          have HV := Lib.hid (HA.out 8 (by decide) hm)
          clear hm
          go_wp2_with fail
          go_ret2
          exact ⟨by rw [HV.out]; rfl, hb⟩
        · have hq : (((⟨#[106, 97, 110, 102, 101, 98, 109, 97, 114, 97, 112, 114, 109, 97, 121, 106, 117, 110, 106, 117, 108, 97, 117, 103, 115, 101, 112, 111, 99, 116, 110, 111, 118, 100, 101, 99]⟩ : ByteArray).extract 24 27).toList == X.toList) = false := by rw [HE.out, ← HX.out]; exact HB.out 8 (by decide) (by have := hj.out; omega)
          have HJ := Lib.hid (show 9 ≤ m by have := hj.out; omega)
          clear hm hj
          go_wp2_with fail
          go_round
          case rel => exact .inr (.inr (.inr (.inr (.inr (.inr (.inr (.inr (.inr (.inl ⟨rfl, Lib.hid HJ.out⟩)))))))))
          case measure => simp [intOf]
      · have HE := Lib.hid (mon_beq (X := X) (show bs ((⟨#[106, 97, 110, 102, 101, 98, 109, 97, 114, 97, 112, 114, 109, 97, 121, 106, 117, 110, 106, 117, 108, 97, 117, 103, 115, 101, 112, 111, 99, 116, 110, 111, 118, 100, 101, 99]⟩ : ByteArray).extract 27 30) = [111, 99, 116] by decide))
        by_cases hm : m = 9
        · have hq : (((⟨#[106, 97, 110, 102, 101, 98, 109, 97, 114, 97, 112, 114, 109, 97, 121, 106, 117, 110, 106, 117, 108, 97, 117, 103, 115, 101, 112, 111, 99, 116, 110, 111, 118, 100, 101, 99]⟩ : ByteArray).extract 27 30).toList == X.toList) = true := by rw [HE.out, ← HX.out]; exact HI.out 9 (by decide) hm
          have HV := Lib.hid (HA.out 9 (by decide) hm)
          clear hm
          go_wp2_with fail
          go_ret2
          exact ⟨by rw [HV.out]; rfl, hb⟩
        · have hq : (((⟨#[106, 97, 110, 102, 101, 98, 109, 97, 114, 97, 112, 114, 109, 97, 121, 106, 117, 110, 106, 117, 108, 97, 117, 103, 115, 101, 112, 111, 99, 116, 110, 111, 118, 100, 101, 99]⟩ : ByteArray).extract 27 30).toList == X.toList) = false := by rw [HE.out, ← HX.out]; exact HB.out 9 (by decide) (by have := hj.out; omega)
          have HJ := Lib.hid (show 10 ≤ m by have := hj.out; omega)
          clear hm hj
          go_wp2_with fail
          go_round
          case rel => exact .inr (.inr (.inr (.inr (.inr (.inr (.inr (.inr (.inr (.inr (.inl ⟨rfl, Lib.hid HJ.out⟩))))))))))
          case measure => simp [intOf]
      · have HE := Lib.hid (mon_beq (X := X) (show bs ((⟨#[106, 97, 110, 102, 101, 98, 109, 97, 114, 97, 112, 114, 109, 97, 121, 106, 117, 110, 106, 117, 108, 97, 117, 103, 115, 101, 112, 111, 99, 116, 110, 111, 118, 100, 101, 99]⟩ : ByteArray).extract 30 33) = [110, 111, 118] by decide))
        by_cases hm : m = 10
        · have hq : (((⟨#[106, 97, 110, 102, 101, 98, 109, 97, 114, 97, 112, 114, 109, 97, 121, 106, 117, 110, 106, 117, 108, 97, 117, 103, 115, 101, 112, 111, 99, 116, 110, 111, 118, 100, 101, 99]⟩ : ByteArray).extract 30 33).toList == X.toList) = true := by rw [HE.out, ← HX.out]; exact HI.out 10 (by decide) hm
          have HV := Lib.hid (HA.out 10 (by decide) hm)
          clear hm
          go_wp2_with fail
          go_ret2
          exact ⟨by rw [HV.out]; rfl, hb⟩
        · have hq : (((⟨#[106, 97, 110, 102, 101, 98, 109, 97, 114, 97, 112, 114, 109, 97, 121, 106, 117, 110, 106, 117, 108, 97, 117, 103, 115, 101, 112, 111, 99, 116, 110, 111, 118, 100, 101, 99]⟩ : ByteArray).extract 30 33).toList == X.toList) = false := by rw [HE.out, ← HX.out]; exact HB.out 10 (by decide) (by have := hj.out; omega)
          have HJ := Lib.hid (show 11 ≤ m by have := hj.out; omega)
          clear hm hj
          go_wp2_with fail
          go_round
          case rel => exact .inr (.inr (.inr (.inr (.inr (.inr (.inr (.inr (.inr (.inr (.inr (.inl ⟨rfl, Lib.hid HJ.out⟩)))))))))))
          case measure => simp [intOf]
      · have HE := Lib.hid (mon_beq (X := X) (show bs ((⟨#[106, 97, 110, 102, 101, 98, 109, 97, 114, 97, 112, 114, 109, 97, 121, 106, 117, 110, 106, 117, 108, 97, 117, 103, 115, 101, 112, 111, 99, 116, 110, 111, 118, 100, 101, 99]⟩ : ByteArray).extract 33 36) = [100, 101, 99] by decide))
        by_cases hm : m = 11
        · have hq : (((⟨#[106, 97, 110, 102, 101, 98, 109, 97, 114, 97, 112, 114, 109, 97, 121, 106, 117, 110, 106, 117, 108, 97, 117, 103, 115, 101, 112, 111, 99, 116, 110, 111, 118, 100, 101, 99]⟩ : ByteArray).extract 33 36).toList == X.toList) = true := by rw [HE.out, ← HX.out]; exact HI.out 11 (by decide) hm
          have HV := Lib.hid (HA.out 11 (by decide) hm)
          clear hm
          go_wp2_with fail
          go_ret2
          exact ⟨by rw [HV.out]; rfl, hb⟩
        · have hq : (((⟨#[106, 97, 110, 102, 101, 98, 109, 97, 114, 97, 112, 114, 109, 97, 121, 106, 117, 110, 106, 117, 108, 97, 117, 103, 115, 101, 112, 111, 99, 116, 110, 111, 118, 100, 101, 99]⟩ : ByteArray).extract 33 36).toList == X.toList) = false := by rw [HE.out, ← HX.out]; exact HB.out 11 (by decide) (by have := hj.out; omega)
          have HJ := Lib.hid (show 12 ≤ m by have := hj.out; omega)
          clear hm hj
          go_wp2_with fail
          go_round
          case rel => exact .inr (.inr (.inr (.inr (.inr (.inr (.inr (.inr (.inr (.inr (.inr (.inr (⟨rfl, Lib.hid HJ.out⟩))))))))))))
          case measure => simp [intOf]
      · have HV := Lib.hid (HN.out (by have := hj.out; omega))
        clear hj
        go_wp2_with fail
        go_ret2
        exact ⟨by rw [HV.out]; rfl, hb⟩
end Go.Proofs.YtngamlikhgilhaaDoor
