/- The walk of DateYears. -/
import Derived.Test.YtfbildneagjccaaDateU
import Derived.Deep.RegionHeld3
import Derived.Deep.CutBlock
import Derived.Deep.DeepCutAuto
import Derived.IntWalk
namespace Go.Proofs.Ytfbildneagjccaa
open Go.RowKit

theorem wrap_d (x : Int) (h : 0 ≤ x ∧ x < 10) : IntKind.u8.wrap (IntKind.i64.wrap (48 + x)) = 48 + x := by
  rw [Go.IntWalk.i64_in _ (by omega), Go.IntWalk.u8_in _ (by omega)]
theorem conv_raw (W : World) (y : Nat) (h : y < 10000) :
    (convert 30 9 (.slice (some ⟨W.heap.size, 0, none⟩) 4 4)).run Try.prog (W.alloc (.cells #[.int .u8 (IntKind.u8.wrap (IntKind.i64.wrap (48 + IntKind.i64.wrap ((y : Int) / 1000)))), .int .u8 (IntKind.u8.wrap (IntKind.i64.wrap (48 + (IntKind.i64.wrap ((y : Int) / 100)).tmod 10))), .int .u8 (IntKind.u8.wrap (IntKind.i64.wrap (48 + (IntKind.i64.wrap ((y : Int) / 10)).tmod 10))), .int .u8 (IntKind.u8.wrap (IntKind.i64.wrap (48 + (y : Int).tmod 10)))] 5)) =
      .ok (.string (fixS 4 y)) (W.alloc (.cells #[.int .u8 (IntKind.u8.wrap (IntKind.i64.wrap (48 + IntKind.i64.wrap ((y : Int) / 1000)))), .int .u8 (IntKind.u8.wrap (IntKind.i64.wrap (48 + (IntKind.i64.wrap ((y : Int) / 100)).tmod 10))), .int .u8 (IntKind.u8.wrap (IntKind.i64.wrap (48 + (IntKind.i64.wrap ((y : Int) / 10)).tmod 10))), .int .u8 (IntKind.u8.wrap (IntKind.i64.wrap (48 + (y : Int).tmod 10)))] 5)) := by
  refine conv_four W y h _ ?_
  rw [Go.IntWalk.i64_in ((y : Int) / 1000) (by omega), Go.IntWalk.i64_in ((y : Int) / 100) (by omega), Go.IntWalk.i64_in ((y : Int) / 10) (by omega), Go.IntWalk.rem_in _ _ (by omega), Go.IntWalk.rem_in _ _ (by omega), Go.IntWalk.rem_in _ _ (by omega),
    wrap_d _ (by omega), wrap_d _ (by omega), wrap_d _ (by omega), wrap_d _ (by omega)]
set_option maxHeartbeats 3000000 in
set_option maxRecDepth 100000 in
theorem dateYears_in (n y : Nat) (w : World) (hn : n < 10000) (hy : cent n = y) (h0 : 1970 ≤ y) :
    Calls Try.prog 9 #[.int .i64 n] w fun e w' => e = .returned (.bool true) ∧ Below w.heap.size w w' := by
  have HD := conv_four w n hn _ rfl
  have HF := Lib.hid (fix_back n)
  have HZ := fixS_size 4 n
  have HZ2 := fixS_size 2 (n % 100)
  have k1 : decide ((n : Int) < 0) = false := by simp
  have k2 : decide (9999 < (n : Int)) = false := by simp; omega
  go_enter Try.func9, Try.ntmps9
  have hy9 : y ≤ 9999 := by
    have h9 : cent n ≤ 9999 := by unfold cent; split <;> (try split) <;> omega
    omega
  obtain ⟨t, ht⟩ : ∃ t, t = secs y 1 1 0 0 0 := ⟨_, rfl⟩
  have h1 : cookieV (yearT 4 n) = .tuple #[.int .i64 t, .bool true] := by rw [ht]; exact year_yes 4 n (by decide) (by decide) hn hn y hy (by omega)
  obtain ⟨u, hu, hu2⟩ : ∃ u, cookieV (yearT 2 (n % 100)) = .tuple #[.int .i64 u, .bool true] ∧ (n < 100 → u = t) := by
    obtain ⟨z, hz⟩ : ∃ z : Nat, cent ((n % 100 : Nat) : Int) = z := ⟨(cent ((n % 100 : Nat) : Int)).toNat, by have := cent_two (n % 100) (by omega); omega⟩
    have hz2 := cent_two (n % 100) (by omega)
    refine ⟨_, year_yes 2 (n % 100) (by decide) (by decide) (by omega) (by omega) z hz (by omega), fun hs => ?_⟩
    rw [ht]
    rw [Nat.mod_eq_of_lt hs, hy] at hz
    rw [hz]
  have hck : CkN t y 1 1 0 0 0 := by rw [ht]; exact jan_ck y (by omega) hy9
  have t0 : 0 ≤ t := by rw [ht]; exact jan_pos (by omega)
  have t1 : t ≤ 253402300799 := by rw [ht]; exact (secs_bd hck.v).2
  have H1 := Lib.hid h1
  have H2 := Lib.hid (show cookieV ((⟨#[49, 32, 74, 97, 110, 32]⟩ : ByteArray) ++ (fixS 4 n).extract 2 4 ++ (⟨#[32, 48, 48, 58, 48, 48, 58, 48, 48]⟩ : ByteArray)) = .tuple #[.int .i64 u, .bool true] by rw [fix_back]; exact hu)
  have z2 : ((fixS 4 n).extract 2 4).size = 2 := by rw [fix_back, fixS_size]
  have HC := Lib.hid hck
  have HY := Lib.hid hy
  clear h1 hu hck ht hy
  go_wp2_with fail
  refine (cookie_any (yearT 4 n) _ (by unfold yearT; rw [ByteArray.size_append, ByteArray.size_append, fixS_size]; decide)).mono ?_
  rintro e w1 ⟨rfl, hb1⟩
  rw [H1.out]
  go_wp2_with fail
  refine (cookie_any ((⟨#[49, 32, 74, 97, 110, 32]⟩ : ByteArray) ++ (fixS 4 n).extract 2 4 ++ (⟨#[32, 48, 48, 58, 48, 48, 58, 48, 48]⟩ : ByteArray)) _ (by rw [ByteArray.size_append, ByteArray.size_append, z2]; decide)).mono ?_
  rintro e w2 ⟨rfl, hb2⟩
  rw [H2.out]
  have hB2 := Bsnoc hb1 hb2
  clear hb1 hb2 HD
  go_upto_if 55 with fail
  go_cut [8] (fun s8 wx => s8 = .int .i64 y ∧ wx = w2)
  case first =>
    by_cases hs : n < 100
    · obtain rfl : u = t := hu2 hs
      by_cases h70 : n < 70
      case' pos => obtain rfl : y = 2000 + n := by have h9 := HY.out; unfold cent at h9; rw [if_neg (by omega), if_pos (by omega)] at h9; omega
      case' neg => obtain rfl : y = 1900 + n := by have h9 := HY.out; unfold cent at h9; rw [if_pos (by omega)] at h9; omega
      all_goals
        go_wp2_with fail
        go_meet
        case rel => exact ⟨by go_num, rfl⟩
    · obtain rfl : y = n := by have h9 := HY.out; unfold cent at h9; rw [if_neg (by omega), if_neg (by omega)] at h9; omega
      have k3 : decide ((y : Int) < 100) = false := by simp; omega
      have k4 : 100 ≤ (y : Int) := by omega
      clear hu2 hs
      go_wp2_with fail
      go_meet
      case rel => exact ⟨rfl, rfl⟩
  case rest =>
    obtain ⟨rfl, rfl⟩ := hcut
    clear hu2
    go_wp2_with fail
    refine (iso_at _ HC.out _ t0 t1).mono ?_
    rintro e w3 ⟨rfl, hb3⟩
    have hB3 := Bsnoc hB2 hb3
    clear hb3 hB2
    have zI := isoS_size y 1 1 0 0 0
    have hI := iso_front y
    have hJ := iso_back y
    go_wp2_with fail
    have HCV : ∀ W : World, (convert 30 9 (.slice (some ⟨W.heap.size, 0, none⟩) 4 4)).run Try.prog (W.alloc (.cells #[.int .u8 (IntKind.u8.wrap (IntKind.i64.wrap (48 + IntKind.i64.wrap ((y : Int) / 1000)))), .int .u8 (IntKind.u8.wrap (IntKind.i64.wrap (48 + (IntKind.i64.wrap ((y : Int) / 100)).tmod 10))), .int .u8 (IntKind.u8.wrap (IntKind.i64.wrap (48 + (IntKind.i64.wrap ((y : Int) / 10)).tmod 10))), .int .u8 (IntKind.u8.wrap (IntKind.i64.wrap (48 + (y : Int).tmod 10)))] 5)) = .ok (.string (fixS 4 y)) (W.alloc (.cells #[.int .u8 (IntKind.u8.wrap (IntKind.i64.wrap (48 + IntKind.i64.wrap ((y : Int) / 1000)))), .int .u8 (IntKind.u8.wrap (IntKind.i64.wrap (48 + (IntKind.i64.wrap ((y : Int) / 100)).tmod 10))), .int .u8 (IntKind.u8.wrap (IntKind.i64.wrap (48 + (IntKind.i64.wrap ((y : Int) / 10)).tmod 10))), .int .u8 (IntKind.u8.wrap (IntKind.i64.wrap (48 + (y : Int).tmod 10)))] 5)) := fun W => conv_raw W y (by omega)
    refine wp_region_held_drew (S := fun _ => True) (by kernel_rfl) trivial (fun hHeld => ?_)
    refine wpAnyH_ready (rs := [0]) (by kernel_rfl) (by simp) ?_
    refine AllReadyH.cons rfl (fun K hK => ?_) AllReadyH.nil
    go_simp
    go_at_call 10
    refine (dalive_any _).mono ?_
    rintro e w4 ⟨rfl, hb4⟩
    refine hK.out _ _ trivial (fun hHeld => ?_)
    clear hK K
    try simp only [List.getElem_toArray, List.getElem_cons_succ, List.getElem_cons_zero, Act.put, List.setIfInBounds_toArray, List.set_cons_zero, List.set_cons_succ]
    refine wpAnyH_take (i := 1) (v := ?_) rfl (by kernel_rfl) (by kernel_rfl) (by kernel_rfl) (fun _ _ _ h => h) (Or.inl ⟨by rfl, ?_⟩) (by assumption) ?_
    rotate_left
    · (intro w hSw; go_simp; try with_reducible rfl)
    try simp only [List.getElem_toArray, List.getElem_cons_succ, List.getElem_cons_zero, Act.put, List.setIfInBounds_toArray, List.set_cons_zero, List.set_cons_succ]
    refine wpAnyH_take (i := 2) (v := ?_) rfl (by kernel_rfl) (by kernel_rfl) (by kernel_rfl) (fun _ _ _ h => h) (Or.inl ⟨by rfl, ?_⟩) (by assumption) ?_
    rotate_left
    · (intro w hSw; go_simp; try with_reducible rfl)
    try simp only [List.getElem_toArray, List.getElem_cons_succ, List.getElem_cons_zero, Act.put, List.setIfInBounds_toArray, List.set_cons_zero, List.set_cons_succ]
    refine wpAnyH_take (i := 3) (v := ?_) rfl (by kernel_rfl) (by kernel_rfl) (by kernel_rfl) (fun _ _ _ h => h) (Or.inl ⟨by rfl, ?_⟩) (by assumption) ?_
    rotate_left
    · (intro w hSw; go_simp; try with_reducible rfl)
    try simp only [List.getElem_toArray, List.getElem_cons_succ, List.getElem_cons_zero, Act.put, List.setIfInBounds_toArray, List.set_cons_zero, List.set_cons_succ]
    refine wpAnyH_take (i := 4) (v := ?_) rfl (by kernel_rfl) (by kernel_rfl) (by kernel_rfl) (fun _ _ _ h => h) (Or.inl ⟨by rfl, ?_⟩) (by assumption) ?_
    rotate_left
    · (intro w hSw; go_simp; try with_reducible rfl)
    try simp only [List.getElem_toArray, List.getElem_cons_succ, List.getElem_cons_zero, Act.put, List.setIfInBounds_toArray, List.set_cons_zero, List.set_cons_succ]
    refine wpAnyH_take (i := 5) (v := ?_) rfl (by kernel_rfl) (by kernel_rfl) (by kernel_rfl) (fun _ _ _ h => h) (Or.inl ⟨by rfl, ?_⟩) (by assumption) ?_
    rotate_left
    · (intro w hSw; go_simp; try with_reducible rfl)
    try simp only [List.getElem_toArray, List.getElem_cons_succ, List.getElem_cons_zero, Act.put, List.setIfInBounds_toArray, List.set_cons_zero, List.set_cons_succ]
    refine wpAnyH_take (i := 6) (v := ?_) rfl (by kernel_rfl) (by kernel_rfl) (by kernel_rfl) (fun _ _ _ h => h) (Or.inl ⟨by rfl, ?_⟩) (by assumption) ?_
    rotate_left
    · (intro w hSw; go_simp; try with_reducible rfl)
    try simp only [List.getElem_toArray, List.getElem_cons_succ, List.getElem_cons_zero, Act.put, List.setIfInBounds_toArray, List.set_cons_zero, List.set_cons_succ]
    refine wpAnyH_take (i := 7) (v := ?_) rfl (by kernel_rfl) (by kernel_rfl) (by kernel_rfl) (fun _ _ _ h => h) (Or.inl ⟨by rfl, ?_⟩) (by assumption) ?_
    rotate_left
    · (intro w hSw; go_simp; try with_reducible rfl)
    try simp only [List.getElem_toArray, List.getElem_cons_succ, List.getElem_cons_zero, Act.put, List.setIfInBounds_toArray, List.set_cons_zero, List.set_cons_succ]
    refine wpAnyH_take (i := 8) (v := ?_) rfl (by kernel_rfl) (by kernel_rfl) (by kernel_rfl) (fun _ _ _ h => h) (Or.inl ⟨by rfl, ?_⟩) (by assumption) ?_
    rotate_left
    · (intro w hSw; go_simp; try with_reducible rfl)
    try simp only [List.getElem_toArray, List.getElem_cons_succ, List.getElem_cons_zero, Act.put, List.setIfInBounds_toArray, List.set_cons_zero, List.set_cons_succ]
    refine wpAnyH_take (i := 9) (v := ?_) rfl (by kernel_rfl) (by kernel_rfl) (by kernel_rfl) (fun _ _ _ h => h) (Or.inl ⟨by rfl, ?_⟩) (by assumption) ?_
    rotate_left
    · (intro w hSw; go_simp; try with_reducible rfl)
    try simp only [List.getElem_toArray, List.getElem_cons_succ, List.getElem_cons_zero, Act.put, List.setIfInBounds_toArray, List.set_cons_zero, List.set_cons_succ]
    refine wpAnyH_take (i := 10) (v := ?_) rfl (by kernel_rfl) (by kernel_rfl) (by kernel_rfl) (fun _ _ _ h => h) (Or.inl ⟨by rfl, ?_⟩) (by assumption) ?_
    rotate_left
    · (intro w hSw; go_simp; try with_reducible rfl)
    try simp only [List.getElem_toArray, List.getElem_cons_succ, List.getElem_cons_zero, Act.put, List.setIfInBounds_toArray, List.set_cons_zero, List.set_cons_succ]
    refine wpAnyH_take (i := 11) (v := ?_) rfl (by kernel_rfl) (by kernel_rfl) (by kernel_rfl) (fun _ _ _ h => h) (Or.inl ⟨by rfl, ?_⟩) (by assumption) ?_
    rotate_left
    · (intro w hSw; go_simp; try with_reducible rfl)
    try simp only [List.getElem_toArray, List.getElem_cons_succ, List.getElem_cons_zero, Act.put, List.setIfInBounds_toArray, List.set_cons_zero, List.set_cons_succ]
    refine wpAnyH_take (i := 12) (v := ?_) rfl (by kernel_rfl) (by kernel_rfl) (by kernel_rfl) (fun _ _ _ h => h) (Or.inl ⟨by rfl, ?_⟩) (by assumption) ?_
    rotate_left
    · (intro w hSw; go_simp; try with_reducible rfl)
    try simp only [List.getElem_toArray, List.getElem_cons_succ, List.getElem_cons_zero, Act.put, List.setIfInBounds_toArray, List.set_cons_zero, List.set_cons_succ]
    refine wpAnyH_take (i := 13) (v := ?_) rfl (by kernel_rfl) (by kernel_rfl) (by kernel_rfl) (fun _ _ _ h => h) (Or.inl ⟨by rfl, ?_⟩) (by assumption) ?_
    rotate_left
    · (intro w hSw; go_simp; try with_reducible rfl)
    try simp only [List.getElem_toArray, List.getElem_cons_succ, List.getElem_cons_zero, Act.put, List.setIfInBounds_toArray, List.set_cons_zero, List.set_cons_succ]
    refine wpAnyH_take (i := 14) (v := ?_) rfl (by kernel_rfl) (by kernel_rfl) (by kernel_rfl) (fun _ _ _ h => h) (Or.inl ⟨by rfl, ?_⟩) (by assumption) ?_
    rotate_left
    · (intro w hSw; go_simp; try with_reducible rfl)
    try simp only [List.getElem_toArray, List.getElem_cons_succ, List.getElem_cons_zero, Act.put, List.setIfInBounds_toArray, List.set_cons_zero, List.set_cons_succ]
    refine wpAnyH_take (i := 15) (v := ?_) rfl (by kernel_rfl) (by kernel_rfl) (by kernel_rfl) (fun _ _ _ h => h) (Or.inl ⟨by rfl, ?_⟩) (by assumption) ?_
    rotate_left
    · (intro w hSw; go_simp; try with_reducible rfl)
    try simp only [List.getElem_toArray, List.getElem_cons_succ, List.getElem_cons_zero, Act.put, List.setIfInBounds_toArray, List.set_cons_zero, List.set_cons_succ]
    refine wpAnyH_take (i := 16) (v := ?_) rfl (by kernel_rfl) (by kernel_rfl) (by kernel_rfl) (fun _ _ _ h => h) (Or.inl ⟨by rfl, ?_⟩) (by assumption) ?_
    rotate_left
    · (intro w hSw; go_simp; try with_reducible rfl)
    try simp only [List.getElem_toArray, List.getElem_cons_succ, List.getElem_cons_zero, Act.put, List.setIfInBounds_toArray, List.set_cons_zero, List.set_cons_succ]
    refine wpAnyH_take (i := 17) (v := ?_) rfl (by kernel_rfl) (by kernel_rfl) (by kernel_rfl) (fun _ _ _ h => h) (Or.inl ⟨by rfl, ?_⟩) (by assumption) ?_
    rotate_left
    · (intro w hSw; go_simp; try with_reducible rfl)
    try simp only [List.getElem_toArray, List.getElem_cons_succ, List.getElem_cons_zero, Act.put, List.setIfInBounds_toArray, List.set_cons_zero, List.set_cons_succ]
    refine wpAnyH_take (i := 18) (v := ?_) rfl (by kernel_rfl) (by kernel_rfl) (by kernel_rfl) (fun _ _ _ h => h) (Or.inl ⟨by rfl, ?_⟩) (by assumption) ?_
    rotate_left
    · (intro w hSw; go_simp; try with_reducible rfl)
    try simp only [List.getElem_toArray, List.getElem_cons_succ, List.getElem_cons_zero, Act.put, List.setIfInBounds_toArray, List.set_cons_zero, List.set_cons_succ]
    refine wpAnyH_take (i := 19) (v := ?_) rfl (by kernel_rfl) (by kernel_rfl) (by kernel_rfl) (fun _ _ _ h => h) (Or.inl ⟨by rfl, ?_⟩) (by assumption) ?_
    rotate_left
    · (intro w hSw; go_simp; try with_reducible rfl)
    try simp only [List.getElem_toArray, List.getElem_cons_succ, List.getElem_cons_zero, Act.put, List.setIfInBounds_toArray, List.set_cons_zero, List.set_cons_succ]
    refine wpAnyH_take (i := 20) (v := ?_) rfl (by kernel_rfl) (by kernel_rfl) (by kernel_rfl) (fun _ _ _ h => h) (Or.inl ⟨by rfl, ?_⟩) (by assumption) ?_
    rotate_left
    · (intro w hSw; go_simp; try with_reducible rfl)
    try simp only [List.getElem_toArray, List.getElem_cons_succ, List.getElem_cons_zero, Act.put, List.setIfInBounds_toArray, List.set_cons_zero, List.set_cons_succ]
    refine wpAnyH_take (i := 21) (v := ?_) rfl (by kernel_rfl) (by kernel_rfl) (by kernel_rfl) (fun _ _ _ h => h) (Or.inl ⟨by rfl, ?_⟩) (by assumption) ?_
    rotate_left
    · (intro w hSw; go_simp; try with_reducible rfl)
    try simp only [List.getElem_toArray, List.getElem_cons_succ, List.getElem_cons_zero, Act.put, List.setIfInBounds_toArray, List.set_cons_zero, List.set_cons_succ]
    refine wpAnyH_take (i := 22) (v := ?_) rfl (by kernel_rfl) (by kernel_rfl) (by kernel_rfl) (fun _ _ _ h => h) (Or.inl ⟨by rfl, ?_⟩) (by assumption) ?_
    rotate_left
    · (intro w hSw; go_simp; try with_reducible rfl)
    try simp only [List.getElem_toArray, List.getElem_cons_succ, List.getElem_cons_zero, Act.put, List.setIfInBounds_toArray, List.set_cons_zero, List.set_cons_succ]
    refine wpAnyH_take (i := 23) (v := ?_) rfl (by kernel_rfl) (by kernel_rfl) (by kernel_rfl) (fun _ _ _ h => h) (Or.inl ⟨by rfl, ?_⟩) (by assumption) ?_
    rotate_left
    · (intro w hSw; go_simp; try with_reducible rfl)
    try simp only [List.getElem_toArray, List.getElem_cons_succ, List.getElem_cons_zero, Act.put, List.setIfInBounds_toArray, List.set_cons_zero, List.set_cons_succ]
    refine wpAnyH_take (i := 24) (v := ?_) rfl (by kernel_rfl) (by kernel_rfl) (by kernel_rfl) (fun _ _ _ h => h) (Or.inl ⟨by rfl, ?_⟩) (by assumption) ?_
    rotate_left
    · (intro w hSw; go_simp; try with_reducible rfl)
    try simp only [List.getElem_toArray, List.getElem_cons_succ, List.getElem_cons_zero, Act.put, List.setIfInBounds_toArray, List.set_cons_zero, List.set_cons_succ]
    refine wpAnyH_take (i := 25) (v := ?_) rfl (by kernel_rfl) (by kernel_rfl) (by kernel_rfl) (fun _ _ _ h => h) (Or.inl ⟨by rfl, ?_⟩) (by assumption) ?_
    rotate_left
    · (intro w hSw; go_simp; try with_reducible rfl)
    try simp only [List.getElem_toArray, List.getElem_cons_succ, List.getElem_cons_zero, Act.put, List.setIfInBounds_toArray, List.set_cons_zero, List.set_cons_succ]
    refine wpAnyH_take (i := 26) (v := ?_) rfl (by kernel_rfl) (by kernel_rfl) (by kernel_rfl) (fun _ _ _ h => h) (Or.inl ⟨by rfl, ?_⟩) (by assumption) ?_
    rotate_left
    · (intro w hSw; go_simp; try with_reducible rfl)
    try simp only [List.getElem_toArray, List.getElem_cons_succ, List.getElem_cons_zero, Act.put, List.setIfInBounds_toArray, List.set_cons_zero, List.set_cons_succ]
    refine wpAnyH_take (i := 27) (v := ?_) rfl (by kernel_rfl) (by kernel_rfl) (by kernel_rfl) (fun _ _ _ h => h) (Or.inl ⟨by rfl, ?_⟩) (by assumption) ?_
    rotate_left
    · (intro w hSw; go_simp; try with_reducible rfl)
    try simp only [List.getElem_toArray, List.getElem_cons_succ, List.getElem_cons_zero, Act.put, List.setIfInBounds_toArray, List.set_cons_zero, List.set_cons_succ]
    refine wpAnyH_take (i := 28) (v := ?_) rfl (by kernel_rfl) (by kernel_rfl) (by kernel_rfl) (fun _ _ _ h => h) (Or.inl ⟨by rfl, ?_⟩) (by assumption) ?_
    rotate_left
    · (intro w hSw; go_simp; try with_reducible rfl)
    try simp only [List.getElem_toArray, List.getElem_cons_succ, List.getElem_cons_zero, Act.put, List.setIfInBounds_toArray, List.set_cons_zero, List.set_cons_succ]
    refine wpAnyH_take (i := 29) (v := ?_) rfl (by kernel_rfl) (by kernel_rfl) (by kernel_rfl) (fun _ _ _ h => h) (Or.inl ⟨by rfl, ?_⟩) (by assumption) ?_
    rotate_left
    · (intro w hSw; go_simp; try with_reducible rfl)
    try simp only [List.getElem_toArray, List.getElem_cons_succ, List.getElem_cons_zero, Act.put, List.setIfInBounds_toArray, List.set_cons_zero, List.set_cons_succ]
    refine wpAnyH_ready (rs := [30]) (by kernel_rfl) (by simp) ?_
    refine AllReadyH.cons rfl (fun K hK => ?_) AllReadyH.nil
    go_simp
    refine hK.out _ _ trivial (fun hHeld => ?_)
    clear hK K
    try simp only [List.getElem_toArray, List.getElem_cons_succ, List.getElem_cons_zero, Act.put, List.setIfInBounds_toArray, List.set_cons_zero, List.set_cons_succ]
    refine wpAnyH_ready (rs := [31]) (by kernel_rfl) (by simp) ?_
    refine AllReadyH.cons rfl (fun K hK => ?_) AllReadyH.nil
    go_simp
    refine hK.out _ _ trivial (fun hHeld => ?_)
    clear hK K
    try simp only [List.getElem_toArray, List.getElem_cons_succ, List.getElem_cons_zero, Act.put, List.setIfInBounds_toArray, List.set_cons_zero, List.set_cons_succ]
    refine wpAnyH_take (i := 32) (v := ?_) rfl (by kernel_rfl) (by kernel_rfl) (by kernel_rfl) (fun _ _ _ h => h) (Or.inl ⟨by rfl, ?_⟩) (by assumption) ?_
    rotate_left
    · (intro w hSw; go_simp; try with_reducible rfl)
    try simp only [List.getElem_toArray, List.getElem_cons_succ, List.getElem_cons_zero, Act.put, List.setIfInBounds_toArray, List.set_cons_zero, List.set_cons_succ]
    refine wpAnyH_take (i := 33) (v := ?_) rfl (by kernel_rfl) (by kernel_rfl) (by kernel_rfl) (fun _ _ _ h => h) (Or.inl ⟨by rfl, ?_⟩) (by assumption) ?_
    rotate_left
    · (intro w hSw; go_simp; try with_reducible rfl)
    try simp only [List.getElem_toArray, List.getElem_cons_succ, List.getElem_cons_zero, Act.put, List.setIfInBounds_toArray, List.set_cons_zero, List.set_cons_succ]
    refine wpAnyH_take (i := 34) (v := ?_) rfl (by kernel_rfl) (by kernel_rfl) (by kernel_rfl) (fun _ _ _ h => h) (Or.inl ⟨by rfl, ?_⟩) (by assumption) ?_
    rotate_left
    · (intro w hSw; go_simp; try with_reducible rfl)
    try simp only [List.getElem_toArray, List.getElem_cons_succ, List.getElem_cons_zero, Act.put, List.setIfInBounds_toArray, List.set_cons_zero, List.set_cons_succ]
    refine wpAnyH_take (i := 35) (v := ?_) rfl (by kernel_rfl) (by kernel_rfl) (by kernel_rfl) (fun _ _ _ h => h) (Or.inl ⟨by rfl, ?_⟩) (by assumption) ?_
    rotate_left
    · (intro w hSw; go_simp; try with_reducible rfl)
    try simp only [List.getElem_toArray, List.getElem_cons_succ, List.getElem_cons_zero, Act.put, List.setIfInBounds_toArray, List.set_cons_zero, List.set_cons_succ]
    refine wpAnyH_take (i := 36) (v := ?_) rfl (by kernel_rfl) (by kernel_rfl) (by kernel_rfl) (fun _ _ _ h => h) (Or.inl ⟨by rfl, ?_⟩) (by assumption) ?_
    rotate_left
    · (intro w hSw; go_simp; try with_reducible rfl)
    try simp only [List.getElem_toArray, List.getElem_cons_succ, List.getElem_cons_zero, Act.put, List.setIfInBounds_toArray, List.set_cons_zero, List.set_cons_succ]
    refine wpAnyH_take (i := 37) (v := ?_) rfl (by kernel_rfl) (by kernel_rfl) (by kernel_rfl) (fun _ _ _ h => h) (Or.inl ⟨by rfl, ?_⟩) (by assumption) ?_
    rotate_left
    · (intro w hSw; go_simp; try with_reducible rfl)
    try simp only [List.getElem_toArray, List.getElem_cons_succ, List.getElem_cons_zero, Act.put, List.setIfInBounds_toArray, List.set_cons_zero, List.set_cons_succ]
    refine wpAnyH_take (i := 38) (v := ?_) rfl (by kernel_rfl) (by kernel_rfl) (by kernel_rfl) (fun _ _ _ h => h) (Or.inl ⟨by rfl, ?_⟩) (by assumption) ?_
    rotate_left
    · (intro w hSw; go_simp; try with_reducible rfl)
    try simp only [List.getElem_toArray, List.getElem_cons_succ, List.getElem_cons_zero, Act.put, List.setIfInBounds_toArray, List.set_cons_zero, List.set_cons_succ]
    refine wpAnyH_take (i := 39) (v := ?_) rfl (by kernel_rfl) (by kernel_rfl) (by kernel_rfl) (fun _ _ _ h => h) (Or.inl ⟨by rfl, ?_⟩) (by assumption) ?_
    rotate_left
    · (intro w hSw; go_simp; try with_reducible rfl)
    try simp only [List.getElem_toArray, List.getElem_cons_succ, List.getElem_cons_zero, Act.put, List.setIfInBounds_toArray, List.set_cons_zero, List.set_cons_succ]
    refine wpAnyH_done (by kernel_rfl) ?_ _
    have hB := Bsnoc (Bdrawn hB3 1) hb4
    go_wp2_with fail
    go_ret
    have hB' := Bsnoc ((Below.refl w.heap.size w).alloc (Nat.le_refl _) _) hB
    exact ⟨rfl, hB'.alloc hB'.size _⟩
set_option maxHeartbeats 3000000 in
set_option maxRecDepth 100000 in
theorem dateYears_lo (n : Nat) (w : World) (h1 : 100 ≤ n) (h2 : n < 1970) :
    Calls Try.prog 9 #[.int .i64 n] w fun e w' => e = .returned (.bool true) ∧ Below w.heap.size w w' := by
  have HD := conv_four w n (by omega) _ rfl
  have HZ := fixS_size 4 n
  have k1 : decide ((n : Int) < 0) = false := by simp
  have k2 : decide (9999 < (n : Int)) = false := by simp; omega
  have k3 : decide ((n : Int) < 100) = false := by simp; omega
  have k4 : 100 ≤ (n : Int) := by omega
  have hy : cent n = n := by unfold cent; rw [if_neg (by omega), if_neg (by omega)]
  obtain ⟨u, hu⟩ : ∃ u, cookieV (yearT 2 (n % 100)) = .tuple #[.int .i64 u, .bool true] := by
    obtain ⟨z, hz⟩ : ∃ z : Nat, cent ((n % 100 : Nat) : Int) = z := ⟨(cent ((n % 100 : Nat) : Int)).toNat, by have := cent_two (n % 100) (by omega); omega⟩
    have hz2 := cent_two (n % 100) (by omega)
    exact ⟨_, year_yes 2 (n % 100) (by decide) (by decide) (by omega) (by omega) z hz (by omega)⟩
  have H2 := Lib.hid (show cookieV ((⟨#[49, 32, 74, 97, 110, 32]⟩ : ByteArray) ++ (fixS 4 n).extract 2 4 ++ (⟨#[32, 48, 48, 58, 48, 48, 58, 48, 48]⟩ : ByteArray)) = .tuple #[.int .i64 u, .bool true] by rw [fix_back]; exact hu)
  have z2 : ((fixS 4 n).extract 2 4).size = 2 := by rw [fix_back, fixS_size]
  clear hu
  by_cases hlo : n < 1601
  · have H1 := Lib.hid (year_no 4 n (by decide) (by decide) (by omega) (by rw [hy]; omega))
    have k5 : decide ((n : Int) < 1601) = true := by simp; omega
    clear hy hlo
    go_enter Try.func9, Try.ntmps9
    go_wp2_with fail
    refine (cookie_any (yearT 4 n) _ (by unfold yearT; rw [ByteArray.size_append, ByteArray.size_append, fixS_size]; decide)).mono ?_
    rintro e w1 ⟨rfl, hb1⟩
    rw [H1.out]
    go_wp2_with fail
    refine (cookie_any ((⟨#[49, 32, 74, 97, 110, 32]⟩ : ByteArray) ++ (fixS 4 n).extract 2 4 ++ (⟨#[32, 48, 48, 58, 48, 48, 58, 48, 48]⟩ : ByteArray)) _ (by rw [ByteArray.size_append, ByteArray.size_append, z2]; decide)).mono ?_
    rintro e w2 ⟨rfl, hb2⟩
    rw [H2.out]
    clear HD
    go_wp2_with fail
    refine (iso_yes 0 _ (by decide) (by decide)).mono ?_
    rintro e w3 ⟨y', m', d', h', n', s', hc', rfl, hb3⟩
    clear hc'
    go_wp2_with fail
    refine (dalive_any _).mono ?_
    rintro e w4 ⟨rfl, hb4⟩
    have hB := Bsnoc (Bsnoc (Bsnoc hb1 hb2) hb3) hb4
    clear hb1 hb2 hb3 hb4
    go_wp2_with fail
    go_ret
    exact ⟨rfl, Bsnoc ((Below.refl w.heap.size w).alloc (Nat.le_refl _) _) hB⟩
  · have h9 := year_yes 4 n (by decide) (by decide) (by omega) (by omega) n hy (by omega)
    have ht := jan_neg (y := (n : Int)) (by omega)
    generalize secs (n : Int) 1 1 0 0 0 = t at h9 ht
    have H1 := Lib.hid h9
    have k5 : decide ((n : Int) < 1601) = false := by simp; omega
    have k6 : decide (t < 0) = true := by simp; omega
    clear hy hlo h9
    go_enter Try.func9, Try.ntmps9
    go_wp2_with fail
    refine (cookie_any (yearT 4 n) _ (by unfold yearT; rw [ByteArray.size_append, ByteArray.size_append, fixS_size]; decide)).mono ?_
    rintro e w1 ⟨rfl, hb1⟩
    rw [H1.out]
    go_wp2_with fail
    refine (cookie_any ((⟨#[49, 32, 74, 97, 110, 32]⟩ : ByteArray) ++ (fixS 4 n).extract 2 4 ++ (⟨#[32, 48, 48, 58, 48, 48, 58, 48, 48]⟩ : ByteArray)) _ (by rw [ByteArray.size_append, ByteArray.size_append, z2]; decide)).mono ?_
    rintro e w2 ⟨rfl, hb2⟩
    rw [H2.out]
    clear HD
    go_wp2_with fail
    refine (iso_no t _ (.inl ht)).mono ?_
    rintro e w3 ⟨rfl, hb3⟩
    go_wp2_with fail
    refine (dalive_any _).mono ?_
    rintro e w4 ⟨rfl, hb4⟩
    have hB := Bsnoc (Bsnoc (Bsnoc hb1 hb2) hb3) hb4
    clear hb1 hb2 hb3 hb4
    go_wp2_with fail
    go_ret
    exact ⟨rfl, Bsnoc ((Below.refl w.heap.size w).alloc (Nat.le_refl _) _) hB⟩
set_option maxRecDepth 100000 in
theorem dateYears_out (n : Int) (w : World) (h : n < 0 ∨ (0 ≤ n ∧ 9999 < n)) :
    Calls Try.prog 9 #[.int .i64 n] w fun e w' => e = .returned (.bool true) ∧ Below w.heap.size w w' := by
  rcases h with h | ⟨h, h2⟩
  case' inl => have k1 : decide (n < 0) = true := by simp; omega
  case' inr =>
    have k1 : decide (n < 0) = false := by simp; omega
    have k2 : decide (9999 < n) = true := by simp; omega
  all_goals
    go_enter Try.func9, Try.ntmps9
    go_wp2_with fail
    refine (dalive_any _).mono ?_
    rintro e w1 ⟨rfl, hb1⟩
    go_wp2_with fail
    go_ret
    exact ⟨rfl, hb1⟩
theorem dateYears_any (n : Int) (w : World) (_ : (Lit.int .i64 n).wf = true) :
    Calls Try.prog 9 #[.int .i64 n] w fun e w' => e = .returned (.bool true) ∧ Below w.heap.size w w' := by
  by_cases h : n < 0 ∨ (0 ≤ n ∧ 9999 < n)
  · exact dateYears_out n w h
  · obtain ⟨k, rfl⟩ : ∃ k : Nat, n = k := ⟨n.toNat, by omega⟩
    by_cases h2 : 100 ≤ k ∧ k < 1970
    · exact dateYears_lo k w h2.1 h2.2
    · obtain ⟨y, hy⟩ : ∃ y : Nat, cent (k : Int) = y := ⟨(cent (k : Int)).toNat, by unfold cent; split <;> (try split) <;> omega⟩
      refine dateYears_in k y w (by omega) hy ?_
      by_cases h3 : k < 100
      · have := cent_two k h3
        omega
      · have h4 : cent (k : Int) = k := by unfold cent; rw [if_neg (by omega), if_neg (by omega)]
        omega
end Go.Proofs.Ytfbildneagjccaa
