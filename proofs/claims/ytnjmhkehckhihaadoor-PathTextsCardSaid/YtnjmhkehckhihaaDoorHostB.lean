/- The parts of a host, second text: whole parts, and rows of them. -/
import Derived.Test.YtnjmhkehckhihaaDoorHost
namespace Go.Proofs.YtnjmhkehckhihaaDoor
open Go.RowKit

/-- The k-th text of a list. -/
def nth (ss : List ByteArray) (k : Nat) : ByteArray := ss.getD k ByteArray.empty
theorem nth_lt {q : List ByteArray} {i : Nat} (h : i < q.length) : nth q i = q[i] := by simp [nth, h]
theorem all_nth (q : List ByteArray) (p : ByteArray → Bool) (h : ∀ i, i < q.length → p (nth q i) = true) : q.all p = true := by
  rw [List.all_eq_true]
  intro x hx
  obtain ⟨i, hi, rfl⟩ := List.getElem_of_mem hx
  have := h i hi
  rwa [nth_lt hi] at this
theorem not_all_nth (q : List ByteArray) (p : ByteArray → Bool) (i : Nat) (hi : i < q.length) (h : p (nth q i) = false) : q.all p = false := by
  rw [List.all_eq_false]
  rw [nth_lt hi] at h
  exact ⟨q[i], List.getElem_mem hi, by simp [h]⟩

set_option maxRecDepth 100000 in
theorem rpart_any (s : ByteArray) (w : World) (hs : s.size ≤ 9223372036854775807) : Calls Tryd.prog 43 #[.string s] w fun e w' => e = .returned (.bool (partB s)) ∧ w = w' := by
  by_cases z1 : s.size < 1
  · have HV := Lib.hid (part_small s z1)
    go_enter Tryd.func43, Tryd.ntmps43
    go_wp2_with fail
    go_ret
    exact ⟨ret_bool HV.out.symm, rfl⟩
  by_cases z2 : 63 < s.size
  · have HV := Lib.hid (part_large s z2)
    go_enter Tryd.func43, Tryd.ntmps43
    go_wp2_with fail
    go_ret
    exact ⟨ret_bool HV.out.symm, rfl⟩
  have z0 : 0 < s.size := by omega
  have z3 : s.size - 1 < s.size := by omega
  have X0 := at_get s 0 z0
  have X1 := at_get s (s.size - 1) z3
  cases b0 : (((s[0]'z0).toNat : Int) == 45)
  case true =>
    have HV := Lib.hid (part_first s (by omega) (by rw [← X0]; exact b0))
    clear X0 X1
    go_enter Tryd.func43, Tryd.ntmps43
    go_wp2_with fail
    go_ret
    exact ⟨ret_bool HV.out.symm, rfl⟩
  case false =>
    cases b1 : (((s[s.size - 1]'z3).toNat : Int) == 45)
    case true =>
      have HV := Lib.hid (part_last s (by omega) (by rw [← X1]; exact b1))
      clear X0 X1
      go_enter Tryd.func43, Tryd.ntmps43
      go_wp2_with fail
      go_ret
      exact ⟨ret_bool HV.out.symm, rfl⟩
    case false =>
      have HY := Lib.hid (part_ref s (by omega) (by omega) (by rw [← X0]; exact b0) (by rw [← X1]; exact b1))
      clear X0 X1
      go_enter Tryd.func43, Tryd.ntmps43
      go_wp2_with fail
      go_loop [3] (fun i => ∃ k : Nat, k ≤ s.size ∧ i = .int .i64 k ∧ Hid (∀ j, j < k → midB (at_ s j) = true)) (fun i => s.size - (intOf i).toNat)
      case atStart => exact ⟨0, Nat.zero_le _, rfl, Lib.hid (by intro j hj; omega)⟩
      case round =>
        obtain ⟨k, hk, rfl, HA⟩ := hrel
        by_cases hlt : k < s.size
        · have HX := Lib.hid (at_get s k hlt)
          have HN := Lib.hid (part_mid s k hlt)
          have HS := Lib.hid (show midB (at_ s k) = true → ∀ j, j < k + 1 → midB (at_ s j) = true from fun hm j hj => by
            rcases Nat.lt_or_ge j k with h | h
            · exact HA.out j h
            · obtain rfl : j = k := by omega
              exact hm)
          have hp : (((s[k]).toNat : Int) ≤ 122 ∧ 97 ≤ ((s[k]).toNat : Int)) ∨ (122 < ((s[k]).toNat : Int) ∧ 97 ≤ ((s[k]).toNat : Int) ∧ 57 < ((s[k]).toNat : Int) ∧ 48 ≤ ((s[k]).toNat : Int)) ∨ (((s[k]).toNat : Int) < 97 ∧ 48 ≤ ((s[k]).toNat : Int) ∧ ((s[k]).toNat : Int) ≤ 57) ∨ (((s[k]).toNat : Int) < 97 ∧ 48 ≤ ((s[k]).toNat : Int) ∧ 57 < ((s[k]).toNat : Int)) ∨ (((s[k]).toNat : Int) < 97 ∧ ((s[k]).toNat : Int) < 48) := by omega
          have hbad : (57 < ((s[k]).toNat : Int) ∧ ((s[k]).toNat : Int) < 97) ∨ 122 < ((s[k]).toNat : Int) → midB (at_ s k) = false := fun h => by
            rw [← HX.out]
            unfold midB wi
            simp
            omega
          have hgood : (97 ≤ ((s[k]).toNat : Int) ∧ ((s[k]).toNat : Int) ≤ 122) ∨ (48 ≤ ((s[k]).toNat : Int) ∧ ((s[k]).toNat : Int) ≤ 57) → midB (at_ s k) = true := fun h => by
            rw [← HX.out]
            unfold midB wi
            simp
            omega
          have hlow : ((s[k]).toNat : Int) < 48 → midB (at_ s k) = (((s[k]).toNat : Int) == 45) := fun h => by
            rw [← HX.out]
            unfold midB wi
            have e1 : decide (97 ≤ ((s[k]).toNat : Int)) = false := by simp; omega
            have e2 : decide (48 ≤ ((s[k]).toNat : Int)) = false := by simp; omega
            rw [e1, e2]
            simp
          rcases hp with ⟨h1, h2⟩ | ⟨h1, h2, h3, h4⟩ | ⟨h1, h2, h3⟩ | ⟨h1, h2, h3⟩ | ⟨h1, h2⟩
          · have HG := Lib.hid (hgood (.inl ⟨h2, h1⟩))
            clear hbad hgood hlow
            go_wp2_with fail
            go_round
            case rel => exact ⟨k + 1, by omega, by go_num, Lib.hid (HS.out HG.out)⟩
            case measure => simp [intOf]; omega
          · have HV := Lib.hid (HN.out (hbad (.inr h1)))
            have d1 : decide (((s[k]).toNat : Int) ≤ 122) = false := decide_eq_false (by omega)
            have d2 : decide (((s[k]).toNat : Int) ≤ 57) = false := decide_eq_false (by omega)
            have h5 : (((s[k]).toNat : Int) != 45) = true := bne_iff_ne.2 (by omega)
            clear hbad hgood hlow
            go_wp2_with fail
            go_ret
            exact ⟨ret_bool HV.out.symm, rfl⟩
          · have HG := Lib.hid (hgood (.inr ⟨h2, h3⟩))
            clear hbad hgood hlow
            go_wp2_with fail
            go_round
            case rel => exact ⟨k + 1, by omega, by go_num, Lib.hid (HS.out HG.out)⟩
            case measure => simp [intOf]; omega
          · have HV := Lib.hid (HN.out (hbad (.inl ⟨h3, h1⟩)))
            have d2 : decide (((s[k]).toNat : Int) ≤ 57) = false := decide_eq_false (by omega)
            have h5 : (((s[k]).toNat : Int) != 45) = true := bne_iff_ne.2 (by omega)
            clear hbad hgood hlow
            go_wp2_with fail
            go_ret
            exact ⟨ret_bool HV.out.symm, rfl⟩
          · cases h5 : (((s[k]).toNat : Int) == 45)
            · have HV := Lib.hid (HN.out (by rw [hlow h2]; exact h5))
              have h6 : (((s[k]).toNat : Int) != 45) = true := by rw [bne, h5]; rfl
              clear hbad hgood hlow
              go_wp2_with fail
              go_ret
              exact ⟨ret_bool HV.out.symm, rfl⟩
            · have HG := Lib.hid (show midB (at_ s k) = true by rw [hlow h2]; exact h5)
              have h6 : (((s[k]).toNat : Int) != 45) = false := by rw [bne, h5]; rfl
              clear hbad hgood hlow
              go_wp2_with fail
              go_round
              case rel => exact ⟨k + 1, by omega, by go_num, Lib.hid (HS.out HG.out)⟩
              case measure => simp [intOf]; omega
        · have HV := Lib.hid (HY.out fun j hj => HA.out j (by omega))
          go_wp2_with fail
          go_ret
          exact ⟨ret_bool HV.out.symm, rfl⟩

set_option maxRecDepth 100000 in
theorem right_any (q : List ByteArray) (b off cp : Nat) (w : World) (hl : q.length ≤ 9223372036854775806) (_ : q.length ≤ cp) (hz : ∀ i, i < q.length → (nth q i).size ≤ 9223372036854775806) (hr : ∀ i, i < q.length → w.cell? ⟨b, off + i, none⟩ = some (.string (nth q i))) :
    Calls Tryd.prog 39 #[.slice (some ⟨b, off, none⟩) q.length cp] w fun e w' => e = .returned (.bool (q.all partB)) ∧ w = w' := by
  have HQ := Lib.hid hr
  have HZ := Lib.hid hz
  clear hr hz
  go_enter Tryd.func39, Tryd.ntmps39
  go_wp2_with fail
  go_loop [8] (fun i => ∃ k : Nat, k ≤ q.length ∧ i = .int .i64 k ∧ Hid (∀ j, j < k → partB (nth q j) = true)) (fun i => q.length - (intOf i).toNat)
  case atStart => exact ⟨0, Nat.zero_le _, rfl, Lib.hid (by intro j hj; omega)⟩
  case round =>
    obtain ⟨m, hm, rfl, HA⟩ := hrel
    by_cases hlt : m < q.length
    · have hc := HQ.out m hlt
      have hsz := HZ.out m hlt
      have HNO := Lib.hid (not_all_nth q partB m hlt)
      have HS := Lib.hid (show partB (nth q m) = true → ∀ j, j < m + 1 → partB (nth q j) = true from fun hm j hj => by
        rcases Nat.lt_or_ge j m with h | h
        · exact HA.out j h
        · obtain rfl : j = m := by omega
          exact hm)
      generalize nth q m = s at hc hsz HNO HS
      by_cases z1 : s.size < 1
      · have HV := Lib.hid (HNO.out (part_small s z1))
        go_wp2_with fail
        go_ret
        exact ⟨ret_bool HV.out.symm, rfl⟩
      by_cases z2 : 63 < s.size
      · have HV := Lib.hid (HNO.out (part_large s z2))
        go_wp2_with fail
        go_ret
        exact ⟨ret_bool HV.out.symm, rfl⟩
      go_wp2_with fail
      go_loop [22] (fun i => ∃ k : Nat, k ≤ s.size ∧ i = .int .i64 k ∧ Hid (∀ j, j < k → mayB (at_ s j) (j == 0 || j == s.size - 1) = true)) (fun i => s.size - (intOf i).toNat)
      case atStart => exact ⟨0, Nat.zero_le _, rfl, Lib.hid (by intro j hj; omega)⟩
      case round =>
        obtain ⟨k, hk, rfl, HB⟩ := hrel
        by_cases hlt2 : k < s.size
        · have HX := Lib.hid (at_get s k hlt2)
          have HN := Lib.hid (part_no s k hlt2)
          have HT := Lib.hid (show mayB (at_ s k) (k == 0 || k == s.size - 1) = true → ∀ j, j < k + 1 → mayB (at_ s j) (j == 0 || j == s.size - 1) = true from fun hm j hj => by
            rcases Nat.lt_or_ge j k with h | h
            · exact HB.out j h
            · obtain rfl : j = k := by omega
              exact hm)
          have hp : (((k : Int) == 0) = true ∧ (k == 0 || k == s.size - 1) = true) ∨ (((k : Int) == 0) = false ∧ ((k : Int) == (s.size : Int) - 1) = true ∧ (k == 0 || k == s.size - 1) = true) ∨ (((k : Int) == 0) = false ∧ ((k : Int) == (s.size : Int) - 1) = false ∧ (k == 0 || k == s.size - 1) = false) := by
            by_cases g0 : k = 0
            · left; subst g0; simp
            · by_cases g1 : k = s.size - 1
              · right; left
                refine ⟨beq_eq_false_iff_ne.2 (by omega), beq_iff_eq.2 (by omega), by simp [g1]⟩
              · right; right
                refine ⟨beq_eq_false_iff_ne.2 (by omega), beq_eq_false_iff_ne.2 (by omega), by simp; omega⟩
          rcases hp with ⟨g0, g2⟩ | ⟨g0, g1, g2⟩ | ⟨g0, g1, g2⟩
          all_goals
            rw [g2] at HN HT
            clear g2
          · cases hb : mayB (at_ s k) true
            · have HV := Lib.hid (HNO.out (HN.out hb))
              go_wp2_with (go_at_call 45; refine (may_any _ _ _).mono ?_; rintro e w' ⟨rfl, rfl⟩; rw [HX.out])
              go_ret
              exact ⟨ret_bool HV.out.symm, rfl⟩
            · have HG := Lib.hid (HT.out hb)
              go_wp2_with (go_at_call 45; refine (may_any _ _ _).mono ?_; rintro e w' ⟨rfl, rfl⟩; rw [HX.out])
              go_round
              case rel => exact ⟨k + 1, by omega, by go_num, HG⟩
              case measure => simp [intOf]; omega
          · cases hb : mayB (at_ s k) true
            · have HV := Lib.hid (HNO.out (HN.out hb))
              go_wp2_with (go_at_call 45; refine (may_any _ _ _).mono ?_; rintro e w' ⟨rfl, rfl⟩; rw [HX.out])
              go_ret
              exact ⟨ret_bool HV.out.symm, rfl⟩
            · have HG := Lib.hid (HT.out hb)
              go_wp2_with (go_at_call 45; refine (may_any _ _ _).mono ?_; rintro e w' ⟨rfl, rfl⟩; rw [HX.out])
              go_round
              case rel => exact ⟨k + 1, by omega, by go_num, HG⟩
              case measure => simp [intOf]; omega
          · cases hb : mayB (at_ s k) false
            · have HV := Lib.hid (HNO.out (HN.out hb))
              go_wp2_with (go_at_call 45; refine (may_any _ _ _).mono ?_; rintro e w' ⟨rfl, rfl⟩; rw [HX.out])
              go_ret
              exact ⟨ret_bool HV.out.symm, rfl⟩
            · have HG := Lib.hid (HT.out hb)
              go_wp2_with (go_at_call 45; refine (may_any _ _ _).mono ?_; rintro e w' ⟨rfl, rfl⟩; rw [HX.out])
              go_round
              case rel => exact ⟨k + 1, by omega, by go_num, HG⟩
              case measure => simp [intOf]; omega
        · have HG := Lib.hid (HS.out (part_yes s (by omega) (by omega) fun j hj => HB.out j (by omega)))
          go_wp2_with fail
          go_round
          case rel => exact ⟨m + 1, by omega, by go_num, HG⟩
          case measure => simp [intOf]; omega
    · have HV := Lib.hid (all_nth q partB fun j hj => HA.out j (by omega))
      go_wp2_with fail
      go_ret
      exact ⟨ret_bool HV.out.symm, rfl⟩
end Go.Proofs.YtnjmhkehckhihaaDoor
