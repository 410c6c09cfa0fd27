/- Contracts of package ascii and of its reference: tokens, octets and plain texts. -/
import Derived.Test.YtngamlikhgilhaaDoorAscii
namespace Go.Proofs.YtngamlikhgilhaaDoor
open Go.RowKit

/-- Is each byte of a text such? -/
def allB (p : Int → Bool) (s : ByteArray) : Bool := (bs s).all fun c => p (c.toNat : Int)
theorem all_take (p : Int → Bool) (s : ByteArray) (k : Nat) (hk : k < s.size) : ((bs s).take (k + 1)).all (fun c => p (c.toNat : Int)) = (((bs s).take k).all (fun c => p (c.toNat : Int)) && p (at_ s k)) := by
  have h' : k < (bs s).length := by rw [← size_bs]; exact hk
  rw [List.take_succ_eq_append_getElem h', List.all_append]
  simp [at_, List.getD_eq_getElem?_getD, h']
theorem all_no (p : Int → Bool) (s : ByteArray) (k : Nat) (hk : k < s.size) (h : p (at_ s k) = false) : allB p s = false := by
  have h' : k < (bs s).length := by rw [← size_bs]; exact hk
  unfold allB
  rw [List.all_eq_false]
  refine ⟨(bs s)[k], List.getElem_mem h', ?_⟩
  simp [at_, List.getD_eq_getElem?_getD, h'] at h
  simp [h]
theorem all_yes (p : Int → Bool) (s : ByteArray) (k : Nat) (hk : s.size ≤ k) (h : ((bs s).take k).all (fun c => p (c.toNat : Int)) = true) : allB p s = true := by
  rw [List.take_of_length_le (by rw [← size_bs]; exact hk)] at h
  exact h

set_option maxRecDepth 100000 in
theorem all_tok (s : ByteArray) (w : World) (hs : s.size ≤ 9223372036854775807) : Calls Tryd.prog 70 #[.string s, .func (.func 71) #[] #[]] w fun e w' => e = .returned (.bool (allB nameB s)) ∧ w = w' := by
  go_enter Tryd.func70, Tryd.ntmps70
  go_wp2_with fail
  go_loop [8] (fun i => ∃ k : Nat, k ≤ s.size ∧ i = .int .i64 k ∧ Hid (((bs s).take k).all (fun c => nameB (c.toNat : Int)) = true)) (fun i => s.size - (intOf i).toNat)
  case atStart => exact ⟨0, Nat.zero_le _, rfl, Lib.hid (by simp)⟩
  case round =>
    obtain ⟨k, hk, rfl, HA⟩ := hrel
    by_cases hlt : k < s.size
    · have HX := Lib.hid (at_get s k hlt)
      cases hb : nameB (at_ s k)
      · have HN := Lib.hid (all_no nameB s k hlt hb)
        go_wp2_with (go_at_call 71; refine (tok1_any _ _).mono ?_; rintro e w' ⟨rfl, rfl⟩; rw [HX.out])
        go_ret
        exact ⟨ret_bool HN.out.symm, rfl⟩
      · have HT := Lib.hid (all_take nameB s k hlt)
        have HB := Lib.hid hb
        go_wp2_with (go_at_call 71; refine (tok1_any _ _).mono ?_; rintro e w' ⟨rfl, rfl⟩; rw [HX.out])
        go_round
        case rel => exact ⟨k + 1, by omega, by go_num, Lib.hid (by rw [HT.out, HA.out, HB.out]; rfl)⟩
        case measure => simp [intOf]; omega
    · have HY := Lib.hid (all_yes nameB s k (by omega) HA.out)
      go_wp2_with fail
      go_ret
      exact ⟨ret_bool HY.out.symm, rfl⟩

set_option maxRecDepth 100000 in
theorem all_oct (s : ByteArray) (w : World) (hs : s.size ≤ 9223372036854775807) : Calls Tryd.prog 70 #[.string s, .func (.func 72) #[] #[]] w fun e w' => e = .returned (.bool (allB octB s)) ∧ w = w' := by
  go_enter Tryd.func70, Tryd.ntmps70
  go_wp2_with fail
  go_loop [8] (fun i => ∃ k : Nat, k ≤ s.size ∧ i = .int .i64 k ∧ Hid (((bs s).take k).all (fun c => octB (c.toNat : Int)) = true)) (fun i => s.size - (intOf i).toNat)
  case atStart => exact ⟨0, Nat.zero_le _, rfl, Lib.hid (by simp)⟩
  case round =>
    obtain ⟨k, hk, rfl, HA⟩ := hrel
    by_cases hlt : k < s.size
    · have HX := Lib.hid (at_get s k hlt)
      cases hb : octB (at_ s k)
      · have HN := Lib.hid (all_no octB s k hlt hb)
        go_wp2_with (go_at_call 72; refine (oct1_any _ _).mono ?_; rintro e w' ⟨rfl, rfl⟩; rw [HX.out])
        go_ret
        exact ⟨ret_bool HN.out.symm, rfl⟩
      · have HT := Lib.hid (all_take octB s k hlt)
        have HB := Lib.hid hb
        go_wp2_with (go_at_call 72; refine (oct1_any _ _).mono ?_; rintro e w' ⟨rfl, rfl⟩; rw [HX.out])
        go_round
        case rel => exact ⟨k + 1, by omega, by go_num, Lib.hid (by rw [HT.out, HA.out, HB.out]; rfl)⟩
        case measure => simp [intOf]; omega
    · have HY := Lib.hid (all_yes octB s k (by omega) HA.out)
      go_wp2_with fail
      go_ret
      exact ⟨ret_bool HY.out.symm, rfl⟩

set_option maxRecDepth 100000 in
theorem all_plain (s : ByteArray) (w : World) (hs : s.size ≤ 9223372036854775807) : Calls Tryd.prog 70 #[.string s, .func (.func 85) #[] #[]] w fun e w' => e = .returned (.bool (allB plainB s)) ∧ w = w' := by
  go_enter Tryd.func70, Tryd.ntmps70
  go_wp2_with fail
  go_loop [8] (fun i => ∃ k : Nat, k ≤ s.size ∧ i = .int .i64 k ∧ Hid (((bs s).take k).all (fun c => plainB (c.toNat : Int)) = true)) (fun i => s.size - (intOf i).toNat)
  case atStart => exact ⟨0, Nat.zero_le _, rfl, Lib.hid (by simp)⟩
  case round =>
    obtain ⟨k, hk, rfl, HA⟩ := hrel
    by_cases hlt : k < s.size
    · have HX := Lib.hid (at_get s k hlt)
      cases hb : plainB (at_ s k)
      · have HN := Lib.hid (all_no plainB s k hlt hb)
        go_wp2_with (go_at_call 85; refine (plain1_any _ _).mono ?_; rintro e w' ⟨rfl, rfl⟩; rw [HX.out])
        go_ret
        exact ⟨ret_bool HN.out.symm, rfl⟩
      · have HT := Lib.hid (all_take plainB s k hlt)
        have HB := Lib.hid hb
        go_wp2_with (go_at_call 85; refine (plain1_any _ _).mono ?_; rintro e w' ⟨rfl, rfl⟩; rw [HX.out])
        go_round
        case rel => exact ⟨k + 1, by omega, by go_num, Lib.hid (by rw [HT.out, HA.out, HB.out]; rfl)⟩
        case measure => simp [intOf]; omega
    · have HY := Lib.hid (all_yes plainB s k (by omega) HA.out)
      go_wp2_with fail
      go_ret
      exact ⟨ret_bool HY.out.symm, rfl⟩
end Go.Proofs.YtngamlikhgilhaaDoor
