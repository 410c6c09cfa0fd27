/- Contracts of package dec and of its reference: numbers of so many digits. -/
import Derived.Test.YtngamlikhgilhaaDoorDecM
import Derived.Test.YtngamlikhgilhaaDoorLower
namespace Go.Proofs.YtngamlikhgilhaaDoor
open Go.RowKit

def unfV (o : Option Int) : Value := .tuple #[.int .i64 (o.getD 0), .bool o.isSome]
theorem unfV_none {s : ByteArray} (h : unfO s = none) : unfV (unfO s) = .tuple #[.int .i64 0, .bool false] := by rw [h]; rfl
theorem unfV_some {s : ByteArray} {n : Int} (h : unfO s = some n) : unfV (unfO s) = .tuple #[.int .i64 n, .bool true] := by rw [h]; rfl
set_option maxRecDepth 100000 in
theorem digit_yes (c : Int) (w : World) (h1 : 48 ≤ c) (h2 : c ≤ 57) : Calls Tryd.prog 60 #[.int .i32 c] w fun e w' => e = .returned (.int .i64 (c - 48)) ∧ w = w' := by
  have k1 : ¬ c < 48 := by omega
  have k2 : ¬ 57 < c := by omega
  go_enter Tryd.func60, Tryd.ntmps60
  go_wp2_with fail
  go_ret
  exact ⟨rfl, rfl⟩
set_option maxRecDepth 100000 in
theorem digit_no (c : Int) (w : World) (h : c < 48 ∨ 57 < c) : Calls Tryd.prog 60 #[.int .i32 c] w fun e w' => e = .returned (.int .i64 (-1)) ∧ w = w' := by
  have h' : c < 48 ∨ (¬ c < 48 ∧ 57 < c) := by omega
  clear h
  rcases h' with h | ⟨h, h'⟩
  all_goals
    go_enter Tryd.func60, Tryd.ntmps60
    go_wp2_with fail
    go_ret
    exact ⟨rfl, rfl⟩
set_option maxHeartbeats 1000000 in
set_option maxRecDepth 100000 in
theorem unfixed_any (s : ByteArray) (w : World) (hs : s.size ≤ 9223372036854775807) : Calls Tryd.prog 36 #[.string s] w fun e w' => e = .returned (unfV (unfO s)) ∧ w = w' := by
  by_cases z : s.size < 1 ∨ 18 < s.size
  · have HV := Lib.hid (unfV_none (unf_size z))
    have z' : s.size < 1 ∨ (¬ s.size < 1 ∧ 18 < s.size) := by omega
    clear z
    rcases z' with z | ⟨z, z'⟩
    all_goals
      go_enter Tryd.func36, Tryd.ntmps36
      go_wp2_with fail
      go_step3
      go_wp2_with fail
      try rw [Exit.noGoto_ret]
      go_ret2
      exact ⟨by rw [HV.out]; rfl, rfl⟩
  · have z1 : 1 ≤ s.size := by omega
    have z2 : s.size ≤ 18 := by omega
    have HY := Lib.hid (fun h => unfV_some (@unf_yes s z1 z2 h))
    have HN := Lib.hid (fun h => unfV_none (@unf_no s h))
    have HL := Lib.hid (size_bs s)
    have HB := Lib.hid (fun k => decV_17 ((bs s).take k))
    clear z
    go_enter Tryd.func36, Tryd.ntmps36
    go_wp2_with fail
    go_step3
    go_wp2_with fail
    go_step3
    go_wp2_with fail
    go_loop [4, 17] (fun n i => ∃ k : Nat, k ≤ s.size ∧ i = .int .i64 k ∧ n = .int .i64 (decV ((bs s).take k)) ∧ Hid (allD ((bs s).take k) = true)) (fun _ i => s.size - (intOf i).toNat)
    case atStart => exact ⟨0, Nat.zero_le _, rfl, rfl, Lib.hid rfl⟩
    case round =>
      obtain ⟨k, hk, rfl, rfl, HA⟩ := hrel
      by_cases hlt : k < s.size
      · obtain ⟨v0, v1⟩ := HB.out k HA.out (by rw [List.length_take]; omega)
        have HS := Lib.hid (allD_snoc s k hlt)
        have HE := Lib.hid (show decV ((bs s).take (k + 1)) = 10 * decV ((bs s).take k) + (((s[k]'hlt).toNat : Int) - 48) by rw [take_snoc s k hlt, decV_snoc])
        have hc0 : 0 ≤ (((s[k]'hlt).toNat) : Int) := by omega
        have hc1 : (((s[k]'hlt).toNat) : Int) ≤ 255 := by have := (s[k]'hlt).toNat_lt; omega
        have HNO := Lib.hid (allD_at s k hlt)
        cases hd : digB ((s[k]'hlt).toNat : Int)
        · have hno := dig_no.1 hd
          have HV := Lib.hid (HN.out (HNO.out hd))
          clear hd
          go_wp2_with ((with_reducible refine (digit_no _ _ hno).mono ?_); rintro e w' ⟨rfl, rfl⟩)
          try rw [Exit.noGoto_ret]
          go_ret2
          exact ⟨by rw [HV.out]; rfl, rfl⟩
        · obtain ⟨d1, d2⟩ := dig_iff.1 hd
          have HD := Lib.hid hd
          have HA2 := Lib.hid (show allD ((bs s).take (k + 1)) = true by rw [HS.out, HA.out, HD.out]; rfl)
          clear hd
          generalize hcc : ((s[k]'hlt).toNat : Int) = c at *
          generalize hvv : decV ((bs s).take k) = v at *
          clear hvv
          have HC := Lib.hid hcc
          clear hcc
          have hx := HC.out
          go_wp2_with ((with_reducible refine (digit_yes _ _ d1 d2).mono ?_); rintro e w' ⟨rfl, rfl⟩)
          go_round
          case rel => exact ⟨k + 1, by omega, by go_num, by rw [HE.out], HA2⟩
          case measure => simp [intOf]; omega
      · obtain ⟨v0, v1⟩ := decV_18 ((bs s).take k) HA.out (by rw [List.length_take]; omega)
        have v2 : ¬ decV ((bs s).take k) < 0 := by omega
        have HV := Lib.hid (HY.out (by rw [← HA.out, List.take_of_length_le (by rw [← HL.out]; omega)]))
        have HT := Lib.hid (show (bs s).take k = bs s from List.take_of_length_le (by rw [← HL.out]; omega))
        go_wp2_with fail
        try rw [Exit.noGoto_ret]
        go_ret2
        exact ⟨by rw [HV.out, HT.out]; rfl, rfl⟩
theorem unfO_bd (s : ByteArray) : 0 ≤ (unfO s).getD 0 ∧ (unfO s).getD 0 < 1000000000000000000 := by
  unfold unfO
  split
  · rename_i h
    exact decV_18 _ h.2.2 (by rw [← size_bs]; exact h.2.1)
  · exact ⟨by decide, by decide⟩
end Go.Proofs.YtngamlikhgilhaaDoor
