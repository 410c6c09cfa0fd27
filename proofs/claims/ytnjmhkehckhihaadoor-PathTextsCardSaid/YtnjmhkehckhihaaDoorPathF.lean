/- Paths: the path of cookies that have none. -/
import Derived.Test.YtnjmhkehckhihaaDoorPathE
namespace Go.Proofs.YtnjmhkehckhihaaDoor
open Go.RowKit

set_option maxRecDepth 100000 in
theorem llast_some (s : ByteArray) (n : Nat) (w : World) (hs : s.size ≤ 9223372036854775806) (h : LastAt s n) : Calls Tryd.prog 32 #[.string s, .int .u8 47] w fun e w' => e = .returned (.int .i64 (n : Int)) ∧ w = w' := by
  obtain ⟨hn, hb0, hN⟩ := h
  have HN := Lib.hid hN
  have HB := Lib.hid hb0
  clear hN hb0
  go_enter Tryd.func32, Tryd.ntmps32
  go_wp2_with fail
  go_loop [5] (fun i => ∃ k : Nat, n < k ∧ k ≤ s.size ∧ i = .int .i64 ((k : Int) - 1)) (fun i => (intOf i + 1).toNat)
  case atStart => exact ⟨s.size, hn, Nat.le_refl _, rfl⟩
  case round =>
    obtain ⟨k, hk0, hk, rfl⟩ := hrel
    have e1 : (k : Int) - 1 = ((k - 1 : Nat) : Int) := by omega
    by_cases h0 : k - 1 = n
    · rw [e1, h0]
      have hb := HB.out
      go_wp2_with fail
      go_ret
      exact ⟨rfl, rfl⟩
    · have hlt : k - 1 < s.size := by omega
      have hb := HN.out (k - 1) hlt (by omega)
      rw [e1]
      have hk1 : ((k - 1 : Nat) : Int) < 9223372036854775807 := by omega
      have hk2 : n < k - 1 := by omega
      generalize k - 1 = m at *
      go_wp2_with fail
      go_round
      case rel => exact ⟨m, hk2, by omega, rfl⟩
      case measure => simp [intOf]
theorem last_none (s : ByteArray) (w : World) (hs : s.size ≤ 9223372036854775806) (h : NoneFrom s 0) : Calls Tryd.prog 20 #[.string s, .int .u8 47] w fun e w' => e = .returned (.int .i64 (-1)) ∧ w = w' := by
  have HN := Lib.hid h
  clear h
  go_enter Tryd.func20, Tryd.ntmps20
  go_wp2_with fail
  refine (llast_none s _ hs HN.out).mono ?_
  rintro e w1 ⟨rfl, rfl⟩
  go_wp2_with fail
  go_ret
  exact ⟨rfl, rfl⟩
theorem last_some (s : ByteArray) (n : Nat) (w : World) (hs : s.size ≤ 9223372036854775806) (h : LastAt s n) : Calls Tryd.prog 20 #[.string s, .int .u8 47] w fun e w' => e = .returned (.int .i64 (n : Int)) ∧ w = w' := by
  have HN := Lib.hid h
  clear h
  go_enter Tryd.func20, Tryd.ntmps20
  go_wp2_with fail
  refine (llast_some s n _ hs HN.out).mono ?_
  rintro e w1 ⟨rfl, rfl⟩
  go_wp2_with fail
  go_ret
  exact ⟨rfl, rfl⟩

/-- The path of a cookie that has none, told by where the slashes are. -/
inductive Dfl (s : ByteArray) : ByteArray → Prop
  | none : (∀ h : 0 < s.size, (((s[0]).toNat : Int) == 47) = false) → Dfl s ⟨#[47]⟩
  | zero : LastAt s 0 → Dfl s ⟨#[47]⟩
  | some (k : Nat) : 0 < k → LastAt s k → (∃ h : 0 < s.size, (((s[0]).toNat : Int) == 47) = true) → Dfl s (s.extract 0 k)
theorem dfl_ex (s : ByteArray) : ∃ d, Dfl s d := by
  by_cases h0 : 0 < s.size
  · cases hb : (((s[0]'h0).toNat : Int) == 47)
    · exact ⟨_, .none fun _ => hb⟩
    · rcases last_or s with h | ⟨k, h⟩
      · rw [h 0 h0 (Nat.le_refl _)] at hb; cases hb
      · by_cases hk : k = 0
        · subst hk; exact ⟨_, .zero h⟩
        · exact ⟨_, .some k (by omega) h ⟨h0, hb⟩⟩
  · exact ⟨_, .none fun h => absurd h h0⟩

set_option maxRecDepth 100000 in
theorem default_any (s d : ByteArray) (w : World) (hs : s.size ≤ 9223372036854775806) (h : Dfl s d) : Calls Tryd.prog 10 #[.string s] w fun e w' => e = .returned (.string d) ∧ w = w' := by
  cases h with
  | none h =>
    rcases last_or s with hl | ⟨k, hl⟩
    · have HL := Lib.hid hl
      clear hl h
      go_enter Tryd.func10, Tryd.ntmps10
      go_wp2_with fail
      refine (last_none s _ hs HL.out).mono ?_
      rintro e w1 ⟨rfl, rfl⟩
      go_wp2_with fail
      go_ret
      exact ⟨rfl, rfl⟩
    · have h0 : 0 < s.size := by obtain ⟨h1, -⟩ := hl; omega
      have hb := h h0
      have hb2 : ((((s[0]'h0).toNat : Int)) != 47) = true := by rw [bne, hb]; rfl
      have HL := Lib.hid hl
      clear hl h
      by_cases hk : k = 0
      · subst hk
        go_enter Tryd.func10, Tryd.ntmps10
        go_wp2_with fail
        refine (last_some s 0 _ hs HL.out).mono ?_
        rintro e w1 ⟨rfl, rfl⟩
        go_wp2_with fail
        go_ret
        exact ⟨rfl, rfl⟩
      · have hk0 : ¬ ((k : Int) ≤ 0) := by omega
        clear hk
        go_enter Tryd.func10, Tryd.ntmps10
        go_wp2_with fail
        refine (last_some s k _ hs HL.out).mono ?_
        rintro e w1 ⟨rfl, rfl⟩
        go_wp2_with fail
        go_ret
        exact ⟨rfl, rfl⟩
  | zero hl =>
    have HL := Lib.hid hl
    clear hl
    go_enter Tryd.func10, Tryd.ntmps10
    go_wp2_with fail
    refine (last_some s 0 _ hs HL.out).mono ?_
    rintro e w1 ⟨rfl, rfl⟩
    go_wp2_with fail
    go_ret
    exact ⟨rfl, rfl⟩
  | some k hk hl h =>
    obtain ⟨h0, hb⟩ := h
    have hb2 : ((((s[0]'h0).toNat : Int)) != 47) = false := by rw [bne, hb]; rfl
    have hlt : k ≤ s.size := by obtain ⟨h1, -⟩ := hl; omega
    have hk0 : ¬ ((k : Int) ≤ 0) := by omega
    have HL := Lib.hid hl
    clear hl
    go_enter Tryd.func10, Tryd.ntmps10
    go_wp2_with fail
    refine (last_some s k _ hs HL.out).mono ?_
    rintro e w1 ⟨rfl, rfl⟩
    go_wp2_with fail
    go_ret
    exact ⟨rfl, rfl⟩
end Go.Proofs.YtnjmhkehckhihaaDoor
