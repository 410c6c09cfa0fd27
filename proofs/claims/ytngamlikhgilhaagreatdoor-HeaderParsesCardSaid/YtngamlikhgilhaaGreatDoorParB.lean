/- Contract of the reference's age. (printed by wip/genparb.py) -/
import Derived.Test.YtngamlikhgilhaaGreatDoorParA
namespace Go.Proofs.YtngamlikhgilhaaGreatDoor
open Go.RowKit Go.Shelf

def mnV (l : List UInt8) : Int := min (decV l) 253402300799
theorem first_mk {s : ByteArray} (h0 : 0 < s.size) : s = mk (s[0] :: (bs s).drop 1) := by
  apply bs_inj
  rw [bs_mk]
  have h1 : 0 < (bs s).length := by rw [← size_bs]; exact h0
  have := List.drop_eq_getElem_cons h1
  rw [List.drop_zero] at this
  exact this
theorem minus_yes {s : ByteArray} (h0 : 0 < s.size) (hc : s[0].toNat = 45) : preB s ⟨#[45]⟩ = true ∧ cutS s ⟨#[45]⟩ = s.extract 1 s.size := by
  have e : s[0] = 45 := UInt8.toNat.inj hc
  have h1 : preB s ⟨#[45]⟩ = true := by rw [first_mk h0, pre_mk, e]; rfl
  refine ⟨h1, ?_⟩
  unfold cutS
  rw [h1, if_pos rfl]
  rfl
theorem minus_no {s : ByteArray} (h0 : 0 < s.size) (hc : s[0].toNat ≠ 45) : preB s ⟨#[45]⟩ = false ∧ cutS s ⟨#[45]⟩ = s := by
  have e : s[0] ≠ 45 := fun h9 => hc (by rw [h9]; rfl)
  have h1 : preB s ⟨#[45]⟩ = false := by rw [first_mk h0, pre_mk]; simpa using e
  refine ⟨h1, ?_⟩
  unfold cutS
  rw [h1]
  rfl
set_option maxHeartbeats 1000000 in
set_option maxRecDepth 100000 in
theorem rage_any (s : ByteArray) (now : Int) (w : World) (hs : s.size ≤ 9223372036854775806) (hn0 : 0 ≤ now) (hn1 : now ≤ 253402300799) :
    Calls Tryz.prog 28 #[.string s, .int .i64 now] w fun e w' => e = .returned (.int .i64 (agV s now)) ∧ w = w' := by
  by_cases h0 : 0 < s.size
  · by_cases hc : s[0].toNat = 45
    · obtain ⟨g1, g2⟩ := minus_yes h0 hc
      have hd : (s.extract 1 s.size).size = s.size - 1 := by rw [ByteArray.size_extract]; omega
      have HN := Lib.hid (fun (h : s.extract 1 s.size = ⟨#[]⟩ ∨ allD (bs (s.extract 1 s.size)) = false) => (show agV s now = 0 by unfold agV ageN; rw [g1, g2, ageD_no h, if_neg (by decide), if_neg (by decide)]))
      by_cases hz : s.size = 1
      · have HR := Lib.hid (HN.out (Or.inl (bs_inj (List.eq_nil_of_length_eq_zero (by rw [← size_bs, hd]; omega)))))
        clear HN g1 g2
        generalize s.extract 1 s.size = d at *
        have hdz : d.size = 0 := by omega
        go_enter Tryz.func28, Tryz.ntmps28
        go_wp2_with fail
        go_ret
        exact ⟨by rw [HR.out]; rfl, rfl⟩
      · have hne : s.extract 1 s.size ≠ ⟨#[]⟩ := fun h9 => by rw [h9] at hd; have : (⟨#[]⟩ : ByteArray).size = 0 := rfl; omega
        have HG := Lib.hid (fun (h : allD (bs (s.extract 1 s.size)) = true) => (show agV s now = 1 by unfold agV ageN; rw [g1, g2, ageD_min hne h, if_pos rfl]))
        clear g1 g2 hne
        have hE := Lib.hid (show s.extract 1 s.size = s.extract 1 s.size from rfl)
        go_enter Tryz.func28, Tryz.ntmps28
        generalize hdd : s.extract 1 s.size = d at *
        have hdz : d.size ≠ 0 := by omega
        have hq1 : (((s.size - 1 : Nat) : Int) == 0) = false := by rw [beq_eq_false_iff_ne]; omega
        have hq2 : ((d.size : Int) == 0) = false := by rw [beq_eq_false_iff_ne]; omega
        clear hE
        go_wp2_with fail
        clear hdd
        go_loop [6, 7] (fun n i => ∃ k : Nat, k ≤ d.size ∧ i = .int .i64 k ∧ n = .int .i64 (mnV ((bs d).take k)) ∧ Hid (allD ((bs d).take k) = true)) (fun _ i => d.size - (intOf i).toNat)
        case atStart => exact ⟨0, Nat.zero_le _, rfl, by rw [List.take_zero]; rfl, Lib.hid (by rw [List.take_zero]; rfl)⟩
        case round =>
          obtain ⟨k, hk, rfl, rfl, HA⟩ := hrel
          by_cases hlt : k < d.size
          · have hb := decV_bd _ HA.out
            have hmn : 0 ≤ mnV ((bs d).take k) ∧ mnV ((bs d).take k) ≤ 253402300799 := by unfold mnV; omega
            cases hc : digB ((d[k]).toNat : Int)
            · have hno : allD (bs d) = false := allD_at d k hlt hc
              have HR := Lib.hid (HN.out (Or.inr hno))
              have hcc := dig_no.1 hc
              clear hc hno HA hb
              rcases hcc with hcc | hcc
              all_goals
                go_wp2_with fail
                go_ret
                exact ⟨by rw [HR.out]; rfl, rfl⟩
            · have hcc := dig_iff.1 hc
              have HA2 := Lib.hid (show allD ((bs d).take (k + 1)) = true by rw [allD_snoc d k hlt, HA.out, hc]; rfl)
              have HM := Lib.hid (show boundN (10 * mnV ((bs d).take k) + ((d[k]).toNat : Int) - 48) 0 253402300799 = mnV ((bs d).take (k + 1)) by
                unfold mnV boundN
                rw [take_snoc d k hlt, decV_snoc]
                split <;> (try split) <;> omega)
              clear hc HA hb
              go_wp2_with fail
              refine (rbound_any _ _ _ _).mono ?_
              rintro e w1 ⟨rfl, rfl⟩
              rw [HM.out]
              go_wp2_with fail
              go_round
              case rel => exact ⟨k + 1, by omega, by go_num, rfl, HA2⟩
              case measure => simp [intOf]; omega
          · obtain rfl : k = d.size := by omega
            have hall : allD (bs d) = true := by have := HA.out; rwa [List.take_of_length_le (by rw [← size_bs]; exact Nat.le_refl _)] at this
            have hb := decV_bd _ hall
            rw [List.take_of_length_le (by rw [← size_bs]; exact Nat.le_refl _)]
            have hmn : 0 ≤ mnV (bs d) ∧ mnV (bs d) ≤ 253402300799 := by unfold mnV; omega
            have HR := Lib.hid (HG.out hall)
            clear HA hall hb
            generalize mnV (bs d) = n at *
            go_wp2_with fail
            go_ret
            exact ⟨by rw [HR.out]; rfl, rfl⟩
    · obtain ⟨g1, g2⟩ := minus_no h0 hc
      have HN := Lib.hid (fun (h : s = ⟨#[]⟩ ∨ allD (bs s) = false) => (show agV s now = 0 by unfold agV ageN; rw [g1, g2, ageD_no h, if_neg (by decide), if_neg (by decide)]))
      have hne : s ≠ ⟨#[]⟩ := fun h9 => by rw [h9] at h0; exact absurd h0 (by decide)
      have HG := Lib.hid (fun (h : allD (bs s) = true) => (show agV s now = (if mnV (bs s) = 0 then 1 else boundN (now + mnV (bs s)) 1 253402300799) by unfold agV ageN; rw [g1, g2]; exact ageD_yes hne h hn0))
      clear g1 g2 hne
      have hdz : s.size ≠ 0 := by omega
      have hq2 : ((s.size : Int) == 0) = false := by rw [beq_eq_false_iff_ne]; omega
      have hq3 : (((s[0]).toNat : Int) == 45) = false := by rw [beq_eq_false_iff_ne]; omega
      obtain ⟨d, rfl⟩ : ∃ d, d = s := ⟨_, rfl⟩
      go_enter Tryz.func28, Tryz.ntmps28
      go_wp2_with fail
      go_loop [6, 7] (fun n i => ∃ k : Nat, k ≤ d.size ∧ i = .int .i64 k ∧ n = .int .i64 (mnV ((bs d).take k)) ∧ Hid (allD ((bs d).take k) = true)) (fun _ i => d.size - (intOf i).toNat)
      case atStart => exact ⟨0, Nat.zero_le _, rfl, by rw [List.take_zero]; rfl, Lib.hid (by rw [List.take_zero]; rfl)⟩
      case round =>
        obtain ⟨k, hk, rfl, rfl, HA⟩ := hrel
        by_cases hlt : k < d.size
        · have hb := decV_bd _ HA.out
          have hmn : 0 ≤ mnV ((bs d).take k) ∧ mnV ((bs d).take k) ≤ 253402300799 := by unfold mnV; omega
          cases hc : digB ((d[k]).toNat : Int)
          · have hno : allD (bs d) = false := allD_at d k hlt hc
            have HR := Lib.hid (HN.out (Or.inr hno))
            have hcc := dig_no.1 hc
            clear hc hno HA hb
            rcases hcc with hcc | hcc
            all_goals
              go_wp2_with fail
              go_ret
              exact ⟨by rw [HR.out]; rfl, rfl⟩
          · have hcc := dig_iff.1 hc
            have HA2 := Lib.hid (show allD ((bs d).take (k + 1)) = true by rw [allD_snoc d k hlt, HA.out, hc]; rfl)
            have HM := Lib.hid (show boundN (10 * mnV ((bs d).take k) + ((d[k]).toNat : Int) - 48) 0 253402300799 = mnV ((bs d).take (k + 1)) by
              unfold mnV boundN
              rw [take_snoc d k hlt, decV_snoc]
              split <;> (try split) <;> omega)
            clear hc HA hb
            go_wp2_with fail
            refine (rbound_any _ _ _ _).mono ?_
            rintro e w1 ⟨rfl, rfl⟩
            rw [HM.out]
            go_wp2_with fail
            go_round
            case rel => exact ⟨k + 1, by omega, by go_num, rfl, HA2⟩
            case measure => simp [intOf]; omega
        · obtain rfl : k = d.size := by omega
          have hall : allD (bs d) = true := by have := HA.out; rwa [List.take_of_length_le (by rw [← size_bs]; exact Nat.le_refl _)] at this
          have hb := decV_bd _ hall
          rw [List.take_of_length_le (by rw [← size_bs]; exact Nat.le_refl _)]
          have hmn : 0 ≤ mnV (bs d) ∧ mnV (bs d) ≤ 253402300799 := by unfold mnV; omega
          have HR := Lib.hid (HG.out hall)
          clear HA hall hb
          generalize mnV (bs d) = n at *
          by_cases h0 : n = 0
          · have HR2 := Lib.hid (HR.out.trans (if_pos h0))
            go_wp2_with fail
            go_ret
            exact ⟨by rw [HR2.out]; rfl, rfl⟩
          · have HR2 := Lib.hid (HR.out.trans (if_neg h0))
            go_wp2_with fail
            refine (rbound_any _ _ _ _).mono ?_
            rintro e w1 ⟨rfl, rfl⟩
            go_wp2_with fail
            go_ret
            exact ⟨by rw [HR2.out]; rfl, rfl⟩
  · have HR := Lib.hid (show agV s now = 0 by
      rw [show s = ⟨#[]⟩ from bs_inj (List.eq_nil_of_length_eq_zero (by rw [← size_bs]; omega))]
      rfl)
    have hz : s.size = 0 := by omega
    go_enter Tryz.func28, Tryz.ntmps28
    go_wp2_with fail
    go_ret
    exact ⟨by rw [HR.out]; rfl, rfl⟩
end Go.Proofs.YtngamlikhgilhaaGreatDoor
