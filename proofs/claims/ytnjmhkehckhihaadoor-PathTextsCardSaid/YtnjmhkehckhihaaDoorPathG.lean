/- Paths: the reference's path of cookies that have none. -/
import Derived.Test.YtnjmhkehckhihaaDoorPathF
namespace Go.Proofs.YtnjmhkehckhihaaDoor
open Go.RowKit

set_option maxRecDepth 100000 in
theorem rdefault_none (s : ByteArray) (w : World) (hs : s.size ≤ 9223372036854775806) (h : ∀ h : 0 < s.size, (((s[0]).toNat : Int) == 47) = false) : Calls Tryd.prog 13 #[.string s] w fun e w' => e = .returned (.string ⟨#[47]⟩) ∧ w = w' := by
  by_cases h0 : 0 < s.size
  · have hb := h h0
    have hb2 : ((((s[0]'h0).toNat : Int)) != 47) = true := by rw [bne, hb]; rfl
    have h1 : ((s.size : Int) == 0) = false := beq_eq_false_iff_ne.2 (by omega)
    clear h
    go_enter Tryd.func13, Tryd.ntmps13
    go_wp2_with fail
    go_ret
    exact ⟨rfl, rfl⟩
  · have h1 : ((s.size : Int) == 0) = true := beq_iff_eq.2 (by omega)
    clear h
    go_enter Tryd.func13, Tryd.ntmps13
    go_wp2_with fail
    go_ret
    exact ⟨rfl, rfl⟩
set_option maxRecDepth 100000 in
theorem rdefault_zero (s : ByteArray) (w : World) (hs : s.size ≤ 9223372036854775806) (h : LastAt s 0) : Calls Tryd.prog 13 #[.string s] w fun e w' => e = .returned (.string ⟨#[47]⟩) ∧ w = w' := by
  obtain ⟨hn, hb0, hN⟩ := h
  have g0 : ((((s[0]'hn).toNat : Int)) != 47) = false := by rw [bne, hb0]; rfl
  have g1 : ((s.size : Int) == 0) = false := beq_eq_false_iff_ne.2 (by omega)
  have HN := Lib.hid hN
  have HB := Lib.hid hb0
  clear hN hb0
  go_enter Tryd.func13, Tryd.ntmps13
  go_wp2_with fail
  go_loop [3] (fun i => ∃ k : Nat, 0 ≤ k ∧ k < s.size ∧ i = .int .i64 (k : Int)) (fun i => (intOf i).toNat)
  case atStart => exact ⟨s.size - 1, by omega, by omega, by congr 1; omega⟩
  case round =>
    obtain ⟨k, hk0, hk, rfl⟩ := hrel
    by_cases h0 : k = 0
    · subst h0
      have hb := HB.out
      have hb3 : (((s[0]).toNat : Int) != 47) = false := by rw [bne, hb]; rfl
      go_wp2_with fail
      go_ret
      exact ⟨rfl, rfl⟩
    · have hb := HN.out k hk (by omega)
      have hb3 : (((s[k]).toNat : Int) != 47) = true := by rw [bne, hb]; rfl
      have e1 : (k : Int) - 1 = ((k - 1 : Nat) : Int) := by omega
      have hk2 : 0 ≤ k - 1 := by omega
      have hk3 : k - 1 < s.size := by omega
      have hk4 : (k : Int) - 1 < (k : Int) := by omega
      go_wp2_with fail
      go_round
      case rel => exact ⟨k - 1, hk2, hk3, by congr 1⟩
      case measure => simp [intOf]; omega

set_option maxRecDepth 100000 in
theorem rdefault_some (s : ByteArray) (n : Nat) (w : World) (hs : s.size ≤ 9223372036854775806) (hn0 : 0 < n) (h : LastAt s n) (h2 : ∃ h : 0 < s.size, (((s[0]).toNat : Int) == 47) = true) : Calls Tryd.prog 13 #[.string s] w fun e w' => e = .returned (.string (s.extract 0 n)) ∧ w = w' := by
  obtain ⟨hn, hb0, hN⟩ := h
  obtain ⟨h20, hb2⟩ := h2
  have g0 : ((((s[0]'h20).toNat : Int)) != 47) = false := by rw [bne, hb2]; rfl
  have g1 : ((s.size : Int) == 0) = false := beq_eq_false_iff_ne.2 (by omega)
  have g2 : ((n : Int) == 0) = false := beq_eq_false_iff_ne.2 (by omega)
  have HN := Lib.hid hN
  have HB := Lib.hid hb0
  clear hN hb0 hb2
  go_enter Tryd.func13, Tryd.ntmps13
  go_wp2_with fail
  go_loop [3] (fun i => ∃ k : Nat, n ≤ k ∧ k < s.size ∧ i = .int .i64 (k : Int)) (fun i => (intOf i).toNat)
  case atStart => exact ⟨s.size - 1, by omega, by omega, by congr 1; omega⟩
  case round =>
    obtain ⟨k, hk0, hk, rfl⟩ := hrel
    by_cases h0 : k = n
    · rw [h0]
      have hb := HB.out
      have hb3 : (((s[n]).toNat : Int) != 47) = false := by rw [bne, hb]; rfl
      go_wp2_with fail
      go_ret
      exact ⟨rfl, rfl⟩
    · have hb := HN.out k hk (by omega)
      have hb3 : (((s[k]).toNat : Int) != 47) = true := by rw [bne, hb]; rfl
      have e1 : (k : Int) - 1 = ((k - 1 : Nat) : Int) := by omega
      have hk2 : n ≤ k - 1 := by omega
      have hk3 : k - 1 < s.size := by omega
      have hk4 : (k : Int) - 1 < (k : Int) := by omega
      go_wp2_with fail
      go_round
      case rel => exact ⟨k - 1, hk2, hk3, by congr 1⟩
      case measure => simp [intOf]; omega

theorem rdefault_any (s d : ByteArray) (w : World) (hs : s.size ≤ 9223372036854775806) (h : Dfl s d) : Calls Tryd.prog 13 #[.string s] w fun e w' => e = .returned (.string d) ∧ w = w' := by
  cases h with
  | none h => exact rdefault_none s w hs h
  | zero h => exact rdefault_zero s w hs h
  | some k hk h h2 => exact rdefault_some s k w hs hk h h2
end Go.Proofs.YtnjmhkehckhihaaDoor
