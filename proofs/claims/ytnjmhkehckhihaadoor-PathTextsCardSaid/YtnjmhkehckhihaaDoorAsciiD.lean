/- Contracts of the reference's classes of bytes (package cracknelref01). -/
import Derived.Test.YtnjmhkehckhihaaDoorAsciiC
namespace Go.Proofs.YtnjmhkehckhihaaDoor
open Go.RowKit

set_option maxRecDepth 100000 in
theorem rplain_any (s : ByteArray) (w : World) (hs : s.size ≤ 9223372036854775807) : Calls Tryd.prog 22 #[.string s] w fun e w' => e = .returned (.bool (allB plainB s)) ∧ w = w' := by
  go_enter Tryd.func22, Tryd.ntmps22
  go_wp2_with fail
  go_loop [3] (fun i => ∃ k : Nat, k ≤ s.size ∧ i = .int .i64 k ∧ Hid (((bs s).take k).all (fun c => plainB (c.toNat : Int)) = true)) (fun i => s.size - (intOf i).toNat)
  case atStart => exact ⟨0, Nat.zero_le _, rfl, Lib.hid (by simp)⟩
  case round =>
    obtain ⟨k, hk, rfl, HA⟩ := hrel
    by_cases hlt : k < s.size
    · have HX := Lib.hid (at_get s k hlt)
      have hp : ((s[k]).toNat : Int) < 33 ∨ (33 ≤ ((s[k]).toNat : Int) ∧ 126 < ((s[k]).toNat : Int)) ∨ (33 ≤ ((s[k]).toNat : Int) ∧ ((s[k]).toNat : Int) ≤ 126 ∧ (((s[k]).toNat : Int) == 59) = true) ∨ (33 ≤ ((s[k]).toNat : Int) ∧ ((s[k]).toNat : Int) ≤ 126 ∧ (((s[k]).toNat : Int) == 59) = false) := by
        cases h : (((s[k]).toNat : Int) == 59) <;> simp <;> omega
      rcases hp with h | ⟨h, h'⟩ | ⟨h, h', h3⟩ | ⟨h, h', h3⟩
      case inl | inr.inl =>
        have HN := Lib.hid (all_no plainB s k hlt (by rw [← HX.out]; unfold plainB wi; simp; omega))
        go_wp2_with fail
        go_ret
        exact ⟨ret_bool HN.out.symm, rfl⟩
      case inr.inr.inl =>
        have HN := Lib.hid (all_no plainB s k hlt (by rw [← HX.out]; unfold plainB; rw [h3]; simp))
        go_wp2_with fail
        go_ret
        exact ⟨ret_bool HN.out.symm, rfl⟩
      case inr.inr.inr =>
        have HT := Lib.hid (all_take plainB s k hlt)
        have HB := Lib.hid (show plainB (at_ s k) = true by rw [← HX.out]; unfold plainB wi; rw [h3]; simp; omega)
        go_wp2_with fail
        go_round
        case rel => exact ⟨k + 1, by omega, by go_num, Lib.hid (by rw [HT.out, HA.out, HB.out]; rfl)⟩
        case measure => simp [intOf]; omega
    · have HY := Lib.hid (all_yes plainB s k (by omega) HA.out)
      go_wp2_with fail
      go_ret
      exact ⟨ret_bool HY.out.symm, rfl⟩
end Go.Proofs.YtnjmhkehckhihaaDoor
