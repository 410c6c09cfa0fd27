/- Addresses and paths: path.Parse in one statement; the last slash, and the path of cookies that have none. -/
import Derived.Test.YtnjmhkehckhihaaDoorPathD
namespace Go.Proofs.YtnjmhkehckhihaaDoor
open Go.RowKit

theorem parse_any (s : ByteArray) (w : World) (hs : s.size ≤ 9223372036854775806) (hm : HasMax w) :
    Calls Tryd.prog 16 #[.string s] w fun e w' => e = .returned (urlV (parseO s)) ∧ Below w.heap.size w w' := by
  cases h1 : preB s safeS
  case true =>
    cases hk : canonS ((s.extract 8 s.size).extract 0 (pos stopB (s.extract 8 s.size))) with
    | none => exact parse_safe_none s _ w hs rfl hm h1 hk
    | some h =>
      by_cases h2 : (((s.extract 8 s.size).extract (pos stopB (s.extract 8 s.size)) (s.extract 8 s.size).size).extract 0 (pos askB ((s.extract 8 s.size).extract (pos stopB (s.extract 8 s.size)) (s.extract 8 s.size).size))).size = 0
      · exact parse_safe_empty s _ w hs rfl hm h1 h hk _ rfl h2
      · cases h3 : pathB (((s.extract 8 s.size).extract (pos stopB (s.extract 8 s.size)) (s.extract 8 s.size).size).extract 0 (pos askB ((s.extract 8 s.size).extract (pos stopB (s.extract 8 s.size)) (s.extract 8 s.size).size)))
        · exact parse_safe_bad s _ w hs rfl hm h1 h hk _ rfl h2 h3
        · exact parse_safe_ok s _ w hs rfl hm h1 h hk _ rfl h2 h3
  case false =>
    cases h4 : preB s openS
    case false => exact parse_scheme s w hs h1 h4
    case true =>
      cases hk : canonS ((s.extract 7 s.size).extract 0 (pos stopB (s.extract 7 s.size))) with
      | none => exact parse_open_none s _ w hs rfl hm h1 h4 hk
      | some h =>
        by_cases h2 : (((s.extract 7 s.size).extract (pos stopB (s.extract 7 s.size)) (s.extract 7 s.size).size).extract 0 (pos askB ((s.extract 7 s.size).extract (pos stopB (s.extract 7 s.size)) (s.extract 7 s.size).size))).size = 0
        · exact parse_open_empty s _ w hs rfl hm h1 h4 h hk _ rfl h2
        · cases h3 : pathB (((s.extract 7 s.size).extract (pos stopB (s.extract 7 s.size)) (s.extract 7 s.size).size).extract 0 (pos askB ((s.extract 7 s.size).extract (pos stopB (s.extract 7 s.size)) (s.extract 7 s.size).size)))
          · exact parse_open_bad s _ w hs rfl hm h1 h4 h hk _ rfl h2 h3
          · exact parse_open_ok s _ w hs rfl hm h1 h4 h hk _ rfl h2 h3

/-- No slash from here on; the last one. -/
def NoneFrom (s : ByteArray) (k : Nat) : Prop := ∀ j (h : j < s.size), k ≤ j → (((s[j]).toNat : Int) == 47) = false
def LastAt (s : ByteArray) (k : Nat) : Prop := ∃ h : k < s.size, (((s[k]).toNat : Int) == 47) = true ∧ NoneFrom s (k + 1)
theorem last_or (s : ByteArray) : NoneFrom s 0 ∨ ∃ k, LastAt s k := by
  have : ∀ n, n ≤ s.size → NoneFrom s (s.size - n) ∨ ∃ k, LastAt s k := by
    intro n
    induction n with
    | zero => intro _; exact .inl fun j h1 h2 => by omega
    | succ n ih =>
      intro hn
      rcases ih (by omega) with h | h
      · have hlt : s.size - (n + 1) < s.size := by omega
        cases hb : (((s[s.size - (n + 1)]'hlt).toNat : Int) == 47)
        · left
          intro j h1 h2
          by_cases hj : j = s.size - (n + 1)
          · subst hj; exact hb
          · exact h j h1 (by omega)
        · right
          exact ⟨_, hlt, hb, fun j h1 h2 => h j h1 (by omega)⟩
      · exact .inr h
  have h := this s.size (Nat.le_refl _)
  rwa [Nat.sub_self] at h

set_option maxRecDepth 100000 in
theorem llast_none (s : ByteArray) (w : World) (hs : s.size ≤ 9223372036854775806) (h : NoneFrom s 0) : Calls Tryd.prog 32 #[.string s, .int .u8 47] w fun e w' => e = .returned (.int .i64 (-1)) ∧ w = w' := by
  have HN := Lib.hid h
  clear h
  go_enter Tryd.func32, Tryd.ntmps32
  go_wp2_with fail
  go_loop [5] (fun i => ∃ k : Nat, k ≤ s.size ∧ i = .int .i64 ((k : Int) - 1)) (fun i => (intOf i + 1).toNat)
  case atStart => exact ⟨s.size, Nat.le_refl _, rfl⟩
  case round =>
    obtain ⟨k, hk, rfl⟩ := hrel
    by_cases h0 : k = 0
    · subst h0
      go_wp2_with fail
      go_ret
      exact ⟨rfl, rfl⟩
    · have hlt : k - 1 < s.size := by omega
      have hb := HN.out (k - 1) hlt (Nat.zero_le _)
      have e1 : (k : Int) - 1 = ((k - 1 : Nat) : Int) := by omega
      rw [e1]
      have hk1 : ((k - 1 : Nat) : Int) < 9223372036854775807 := by omega
      generalize k - 1 = m at *
      go_wp2_with fail
      go_round
      case rel => exact ⟨m, by omega, rfl⟩
      case measure => simp [intOf]
end Go.Proofs.YtnjmhkehckhihaaDoor
