/- The parts of a host, second text: whole parts, and rows of them. -/
import Derived.Test.YtngamlikhgilhaaDoorHost
namespace Go.Proofs.YtngamlikhgilhaaDoor
open Go.RowKit

/-- The k-th text of a list. -/
def nth (ss : List ByteArray) (k : Nat) : ByteArray := ss.getD k ByteArray.empty
theorem nth_lt {q : List ByteArray} {i : Nat} (h : i < q.length) : nth q i = q[i] := by simp [nth, h]
theorem all_nth (q : List ByteArray) (p : ByteArray → Bool) (h : ∀ i, i < q.length → p (nth q i) = true) : q.all p = true := by
  rw [List.all_eq_true]
  intro x hx
  obtain ⟨i, hi, rfl⟩ := List.getElem_of_mem hx
  have := h i hi
  rwa [nth_lt hi] at this
theorem not_all_nth (q : List ByteArray) (p : ByteArray → Bool) (i : Nat) (hi : i < q.length) (h : p (nth q i) = false) : q.all p = false := by
  rw [List.all_eq_false]
  rw [nth_lt hi] at h
  exact ⟨q[i], List.getElem_mem hi, by simp [h]⟩

set_option maxRecDepth 100000 in
theorem right_any (q : List ByteArray) (b off cp : Nat) (w : World) (hl : q.length ≤ 9223372036854775806) (_ : q.length ≤ cp) (hz : ∀ i, i < q.length → (nth q i).size ≤ 9223372036854775806) (hr : ∀ i, i < q.length → w.cell? ⟨b, off + i, none⟩ = some (.string (nth q i))) :
    Calls Tryd.prog 67 #[.slice (some ⟨b, off, none⟩) q.length cp] w fun e w' => e = .returned (.bool (q.all partB)) ∧ w = w' := by
  have HQ := Lib.hid hr
  have HZ := Lib.hid hz
  clear hr hz
  go_enter Tryd.func67, Tryd.ntmps67
  go_wp2_with fail
  go_loop [8] (fun i => ∃ k : Nat, k ≤ q.length ∧ i = .int .i64 k ∧ Hid (∀ j, j < k → partB (nth q j) = true)) (fun i => q.length - (intOf i).toNat)
  case atStart => exact ⟨0, Nat.zero_le _, rfl, Lib.hid (by intro j hj; omega)⟩
  case round =>
    obtain ⟨m, hm, rfl, HA⟩ := hrel
    by_cases hlt : m < q.length
    · have hc := HQ.out m hlt
      have hsz := HZ.out m hlt
      have HNO := Lib.hid (not_all_nth q partB m hlt)
      have HS := Lib.hid (show partB (nth q m) = true → ∀ j, j < m + 1 → partB (nth q j) = true from fun hm j hj => by
        rcases Nat.lt_or_ge j m with h | h
        · exact HA.out j h
        · obtain rfl : j = m := by omega
          exact hm)
      generalize nth q m = s at hc hsz HNO HS
      by_cases z1 : s.size < 1
      · have HV := Lib.hid (HNO.out (part_small s z1))
        go_wp2_with fail
        go_ret
        exact ⟨ret_bool HV.out.symm, rfl⟩
      by_cases z2 : 63 < s.size
      · have HV := Lib.hid (HNO.out (part_large s z2))
        go_wp2_with fail
        go_ret
        exact ⟨ret_bool HV.out.symm, rfl⟩
      go_wp2_with fail
      go_loop [22] (fun i => ∃ k : Nat, k ≤ s.size ∧ i = .int .i64 k ∧ Hid (∀ j, j < k → mayB (at_ s j) (j == 0 || j == s.size - 1) = true)) (fun i => s.size - (intOf i).toNat)
      case atStart => exact ⟨0, Nat.zero_le _, rfl, Lib.hid (by intro j hj; omega)⟩
      case round =>
        obtain ⟨k, hk, rfl, HB⟩ := hrel
        by_cases hlt2 : k < s.size
        · have HX := Lib.hid (at_get s k hlt2)
          have HN := Lib.hid (part_no s k hlt2)
          have HT := Lib.hid (show mayB (at_ s k) (k == 0 || k == s.size - 1) = true → ∀ j, j < k + 1 → mayB (at_ s j) (j == 0 || j == s.size - 1) = true from fun hm j hj => by
            rcases Nat.lt_or_ge j k with h | h
            · exact HB.out j h
            · obtain rfl : j = k := by omega
              exact hm)
          have hp : (((k : Int) == 0) = true ∧ (k == 0 || k == s.size - 1) = true) ∨ (((k : Int) == 0) = false ∧ ((k : Int) == (s.size : Int) - 1) = true ∧ (k == 0 || k == s.size - 1) = true) ∨ (((k : Int) == 0) = false ∧ ((k : Int) == (s.size : Int) - 1) = false ∧ (k == 0 || k == s.size - 1) = false) := by
            by_cases g0 : k = 0
            · left; subst g0; simp
            · by_cases g1 : k = s.size - 1
              · right; left
                refine ⟨beq_eq_false_iff_ne.2 (by omega), beq_iff_eq.2 (by omega), by simp [g1]⟩
              · right; right
                refine ⟨beq_eq_false_iff_ne.2 (by omega), beq_eq_false_iff_ne.2 (by omega), by simp; omega⟩
          rcases hp with ⟨g0, g2⟩ | ⟨g0, g1, g2⟩ | ⟨g0, g1, g2⟩
          all_goals
            rw [g2] at HN HT
            clear g2
          · cases hb : mayB (at_ s k) true
            · have HV := Lib.hid (HNO.out (HN.out hb))
              go_wp2_with (go_at_call 83; refine (may_any _ _ _).mono ?_; rintro e w' ⟨rfl, rfl⟩; rw [HX.out])
              go_ret
              exact ⟨ret_bool HV.out.symm, rfl⟩
            · have HG := Lib.hid (HT.out hb)
              go_wp2_with (go_at_call 83; refine (may_any _ _ _).mono ?_; rintro e w' ⟨rfl, rfl⟩; rw [HX.out])
              go_round
              case rel => exact ⟨k + 1, by omega, by go_num, HG⟩
              case measure => simp [intOf]; omega
          · cases hb : mayB (at_ s k) true
            · have HV := Lib.hid (HNO.out (HN.out hb))
              go_wp2_with (go_at_call 83; refine (may_any _ _ _).mono ?_; rintro e w' ⟨rfl, rfl⟩; rw [HX.out])
              go_ret
              exact ⟨ret_bool HV.out.symm, rfl⟩
            · have HG := Lib.hid (HT.out hb)
              go_wp2_with (go_at_call 83; refine (may_any _ _ _).mono ?_; rintro e w' ⟨rfl, rfl⟩; rw [HX.out])
              go_round
              case rel => exact ⟨k + 1, by omega, by go_num, HG⟩
              case measure => simp [intOf]; omega
          · cases hb : mayB (at_ s k) false
            · have HV := Lib.hid (HNO.out (HN.out hb))
              go_wp2_with (go_at_call 83; refine (may_any _ _ _).mono ?_; rintro e w' ⟨rfl, rfl⟩; rw [HX.out])
              go_ret
              exact ⟨ret_bool HV.out.symm, rfl⟩
            · have HG := Lib.hid (HT.out hb)
              go_wp2_with (go_at_call 83; refine (may_any _ _ _).mono ?_; rintro e w' ⟨rfl, rfl⟩; rw [HX.out])
              go_round
              case rel => exact ⟨k + 1, by omega, by go_num, HG⟩
              case measure => simp [intOf]; omega
        · have HG := Lib.hid (HS.out (part_yes s (by omega) (by omega) fun j hj => HB.out j (by omega)))
          go_wp2_with fail
          go_round
          case rel => exact ⟨m + 1, by omega, by go_num, HG⟩
          case measure => simp [intOf]; omega
    · have HV := Lib.hid (all_nth q partB fun j hj => HA.out j (by omega))
      go_wp2_with fail
      go_ret
      exact ⟨ret_bool HV.out.symm, rfl⟩
end Go.Proofs.YtngamlikhgilhaaDoor
