/- A date in three forms: what the statements call first. -/
import Derived.Test.YtfbildneagjccaaDateG
import Derived.Test.YtfbildneagjccaaDateL
namespace Go.Proofs.Ytfbildneagjccaa
open Go.RowKit

theorem al_c1 : cookieV (⟨#[48, 56, 58, 52, 57, 58, 51, 55, 32, 54, 45, 110, 111, 118, 45, 57, 52]⟩ : ByteArray) = .tuple #[.int .i64 784111777, .bool true] := by kernel_rfl
theorem al_c2 : cookieV (⟨#[50, 48, 50, 54, 45, 49, 49, 45, 49, 54, 84, 49, 50, 58, 48, 48, 58, 48, 48, 90]⟩ : ByteArray) = .tuple #[.int .i64 0, .bool false] := by kernel_rfl
theorem al_k1 : CkN 784111777 1994 11 6 8 49 37 := ⟨by decide, by decide, by decide, by decide, by decide, by decide, by decide, by decide, by decide⟩
theorem al_k2 : CkN 1794830400 2026 11 16 12 0 0 := ⟨by decide, by decide, by decide, by decide, by decide, by decide, by decide, by decide, by decide⟩
theorem al_s1 : imfS 0 6 10 1994 8 49 37 = (⟨#[83, 117, 110, 44, 32, 48, 54, 32, 78, 111, 118, 32, 49, 57, 57, 52, 32, 48, 56, 58, 52, 57, 58, 51, 55, 32, 71, 77, 84]⟩ : ByteArray) := by kernel_rfl
theorem al_s2 : isoS 1994 11 6 8 49 37 = (⟨#[49, 57, 57, 52, 45, 49, 49, 45, 48, 54, 84, 48, 56, 58, 52, 57, 58, 51, 55, 90]⟩ : ByteArray) := by kernel_rfl
theorem al_s3 : isoS 2026 11 16 12 0 0 = (⟨#[50, 48, 50, 54, 45, 49, 49, 45, 49, 54, 84, 49, 50, 58, 48, 48, 58, 48, 48, 90]⟩ : ByteArray) := by kernel_rfl
theorem imf_784 (w : World) : Calls Try.prog 13 #[.int .i64 784111777] w fun e w' => e = .returned (.tuple #[.string (⟨#[83, 117, 110, 44, 32, 48, 54, 32, 78, 111, 118, 32, 49, 57, 57, 52, 32, 48, 56, 58, 52, 57, 58, 51, 55, 32, 71, 77, 84]⟩ : ByteArray), .bool true]) ∧ Below w.heap.size w w' := by
  refine (imf_yes 784111777 w (by decide) (by decide)).mono ?_
  rintro e w' ⟨k, y, m, d, h, n, s, hc, hm, hk, hwd, rfl, hb⟩
  obtain ⟨rfl, h2, rfl, rfl, rfl, rfl⟩ := hc.uniq al_k1
  obtain rfl : m = 10 := by omega
  have h3 : wday (num ((1994 : Nat) : Int) (((10 : Nat) : Int) + 1) ((6 : Nat) : Int)) = 0 := by decide
  rw [h3] at hwd
  obtain rfl : k = 0 := by omega
  exact ⟨by rw [al_s1], hb⟩
theorem iso_784 (w : World) : Calls Try.prog 15 #[.int .i64 784111777] w fun e w' => e = .returned (.tuple #[.string (⟨#[49, 57, 57, 52, 45, 49, 49, 45, 48, 54, 84, 48, 56, 58, 52, 57, 58, 51, 55, 90]⟩ : ByteArray), .bool true]) ∧ Below w.heap.size w w' := by
  refine (iso_yes 784111777 w (by decide) (by decide)).mono ?_
  rintro e w' ⟨y, m, d, h, n, s, hc, rfl, hb⟩
  obtain ⟨rfl, rfl, rfl, rfl, rfl, rfl⟩ := hc.uniq al_k1
  exact ⟨by rw [al_s2], hb⟩
theorem uniso_179 (w : World) : Calls Try.prog 17 #[.string (⟨#[50, 48, 50, 54, 45, 49, 49, 45, 49, 54, 84, 49, 50, 58, 48, 48, 58, 48, 48, 90]⟩ : ByteArray)] w fun e w' => e = .returned (.tuple #[.int .i64 1794830400, .bool true]) ∧ Below w.heap.size w w' := by
  have hi : IsIso (⟨#[50, 48, 50, 54, 45, 49, 49, 45, 49, 54, 84, 49, 50, 58, 48, 48, 58, 48, 48, 90]⟩ : ByteArray) 1794830400 := ⟨by decide, by decide, _, _, _, _, _, _, al_k2, al_s3.symm⟩
  refine (uniso_any (⟨#[50, 48, 50, 54, 45, 49, 49, 45, 49, 54, 84, 49, 50, 58, 48, 48, 58, 48, 48, 90]⟩ : ByteArray) w (by decide)).mono ?_
  rintro e w' ⟨⟨v, rfl, hv⟩, hb⟩
  rcases hv with ⟨t, ht, rfl⟩ | ⟨hn, rfl⟩
  · rw [isIso_uniq ht hi]; exact ⟨rfl, hb⟩
  · exact absurd hi (hn _)
set_option maxHeartbeats 2000000 in
set_option maxRecDepth 100000 in
theorem dalive_any (w : World) : Calls Try.prog 10 #[] w fun e w' => e = .returned (.bool true) ∧ Below w.heap.size w w' := by
  go_enter Try.func10, Try.ntmps10
  go_wp2_with fail
  refine (cookie_any (⟨#[48, 56, 58, 52, 57, 58, 51, 55, 32, 54, 45, 110, 111, 118, 45, 57, 52]⟩ : ByteArray) _ (by decide)).mono ?_
  rintro e w1 ⟨rfl, hb1⟩
  rw [al_c1]
  go_wp2_with fail
  refine (cookie_any (⟨#[50, 48, 50, 54, 45, 49, 49, 45, 49, 54, 84, 49, 50, 58, 48, 48, 58, 48, 48, 90]⟩ : ByteArray) _ (by decide)).mono ?_
  rintro e w2 ⟨rfl, hb2⟩
  rw [al_c2]
  have hB2 := Bsnoc hb1 hb2
  clear hb1 hb2
  go_wp2_with fail
  refine (imf_784 _).mono ?_
  rintro e w3 ⟨rfl, hb3⟩
  have hB3 := Bsnoc hB2 hb3
  clear hB2 hb3
  go_wp2_with fail
  refine (iso_784 _).mono ?_
  rintro e w4 ⟨rfl, hb4⟩
  have hB4 := Bsnoc hB3 hb4
  clear hB3 hb4
  go_wp2_with fail
  refine (uniso_179 _).mono ?_
  rintro e w5 ⟨rfl, hb5⟩
  have hB5 := Bsnoc hB4 hb5
  clear hB4 hb5
  go_wp2_with fail
  refine (imf_no 253402300800 _ (by decide)).mono ?_
  rintro e w6 ⟨rfl, hb6⟩
  have hB6 := Bsnoc hB5 hb6
  clear hB5 hb6
  go_wp2_with fail
  go_ret
  exact ⟨rfl, hB6⟩
end Go.Proofs.Ytfbildneagjccaa
