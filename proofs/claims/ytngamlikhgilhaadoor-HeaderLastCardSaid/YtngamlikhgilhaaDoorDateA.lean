/- Contracts: which bytes part words; numbers and months at the beginning of a word. -/
import Derived.Test.YtngamlikhgilhaaDoorDateM
import Derived.Test.YtngamlikhgilhaaDoorDecQ
import Derived.Deep.QuietTactic
import Derived.BigQuiet
namespace Go.Proofs.YtngamlikhgilhaaDoor
open Go.RowKit

theorem parts_eq {c : Int} {b : Bool} (h : partsB c = b) : Ending.returned (.bool b) = .returned (.bool (partsB c)) := by rw [h]
set_option maxRecDepth 100000 in
theorem parts_any (c : Int) (w : World) : Calls Tryd.prog 50 #[.int .u8 c] w fun e w' => e = .returned (.bool (partsB c)) ∧ w = w' := by
  by_cases h9 : c = 9
  · subst h9
    go_enter Tryd.func50, Tryd.ntmps50
    go_wp2_with fail
    go_ret
    exact ⟨parts_eq (by decide), rfl⟩
  · have h9' : (c == 9) = false := beq_eq_false_iff_ne.2 h9
    have hi : (c < 32) ∨ (32 ≤ c ∧ c ≤ 47) ∨ (48 ≤ c ∧ c ≤ 58) ∨ (59 ≤ c ∧ c ≤ 64) ∨ (65 ≤ c ∧ c ≤ 90) ∨ (91 ≤ c ∧ c ≤ 96) ∨ (97 ≤ c ∧ c ≤ 122) ∨ (123 ≤ c ∧ c ≤ 126) ∨ (127 ≤ c) := by omega
    clear h9
    rcases hi with hi | hi | hi | hi | hi | hi | hi | hi | hi
    · have HV := Lib.hid (show partsB c = false by unfold partsB; rw [h9']; simp; omega)
      have q32 : decide (32 ≤ c) = false := by simp; omega
      have q59 : decide (59 ≤ c) = false := by simp; omega
      have q91 : decide (91 ≤ c) = false := by simp; omega
      have q123 : decide (123 ≤ c) = false := by simp; omega
      have q47 : decide (c ≤ 47) = true := by simp; omega
      have q64 : decide (c ≤ 64) = true := by simp; omega
      have q96 : decide (c ≤ 96) = true := by simp; omega
      have q126 : decide (c ≤ 126) = true := by simp; omega
      clear hi
      go_enter Tryd.func50, Tryd.ntmps50
      go_wp2_with fail
      go_ret
      exact ⟨parts_eq HV.out, rfl⟩
    · have HV := Lib.hid (show partsB c = true by unfold partsB; rw [h9']; simp; omega)
      have q32 : decide (32 ≤ c) = true := by simp; omega
      have q59 : decide (59 ≤ c) = false := by simp; omega
      have q91 : decide (91 ≤ c) = false := by simp; omega
      have q123 : decide (123 ≤ c) = false := by simp; omega
      have q47 : decide (c ≤ 47) = true := by simp; omega
      have q64 : decide (c ≤ 64) = true := by simp; omega
      have q96 : decide (c ≤ 96) = true := by simp; omega
      have q126 : decide (c ≤ 126) = true := by simp; omega
      clear hi
      go_enter Tryd.func50, Tryd.ntmps50
      go_wp2_with fail
      go_ret
      exact ⟨parts_eq HV.out, rfl⟩
    · have HV := Lib.hid (show partsB c = false by unfold partsB; rw [h9']; simp; omega)
      have q32 : decide (32 ≤ c) = true := by simp; omega
      have q59 : decide (59 ≤ c) = false := by simp; omega
      have q91 : decide (91 ≤ c) = false := by simp; omega
      have q123 : decide (123 ≤ c) = false := by simp; omega
      have q47 : decide (c ≤ 47) = false := by simp; omega
      have q64 : decide (c ≤ 64) = true := by simp; omega
      have q96 : decide (c ≤ 96) = true := by simp; omega
      have q126 : decide (c ≤ 126) = true := by simp; omega
      clear hi
      go_enter Tryd.func50, Tryd.ntmps50
      go_wp2_with fail
      go_ret
      exact ⟨parts_eq HV.out, rfl⟩
    · have HV := Lib.hid (show partsB c = true by unfold partsB; rw [h9']; simp; omega)
      have q32 : decide (32 ≤ c) = true := by simp; omega
      have q59 : decide (59 ≤ c) = true := by simp; omega
      have q91 : decide (91 ≤ c) = false := by simp; omega
      have q123 : decide (123 ≤ c) = false := by simp; omega
      have q47 : decide (c ≤ 47) = false := by simp; omega
      have q64 : decide (c ≤ 64) = true := by simp; omega
      have q96 : decide (c ≤ 96) = true := by simp; omega
      have q126 : decide (c ≤ 126) = true := by simp; omega
      clear hi
      go_enter Tryd.func50, Tryd.ntmps50
      go_wp2_with fail
      go_ret
      exact ⟨parts_eq HV.out, rfl⟩
    · have HV := Lib.hid (show partsB c = false by unfold partsB; rw [h9']; simp; omega)
      have q32 : decide (32 ≤ c) = true := by simp; omega
      have q59 : decide (59 ≤ c) = true := by simp; omega
      have q91 : decide (91 ≤ c) = false := by simp; omega
      have q123 : decide (123 ≤ c) = false := by simp; omega
      have q47 : decide (c ≤ 47) = false := by simp; omega
      have q64 : decide (c ≤ 64) = false := by simp; omega
      have q96 : decide (c ≤ 96) = true := by simp; omega
      have q126 : decide (c ≤ 126) = true := by simp; omega
      clear hi
      go_enter Tryd.func50, Tryd.ntmps50
      go_wp2_with fail
      go_ret
      exact ⟨parts_eq HV.out, rfl⟩
    · have HV := Lib.hid (show partsB c = true by unfold partsB; rw [h9']; simp; omega)
      have q32 : decide (32 ≤ c) = true := by simp; omega
      have q59 : decide (59 ≤ c) = true := by simp; omega
      have q91 : decide (91 ≤ c) = true := by simp; omega
      have q123 : decide (123 ≤ c) = false := by simp; omega
      have q47 : decide (c ≤ 47) = false := by simp; omega
      have q64 : decide (c ≤ 64) = false := by simp; omega
      have q96 : decide (c ≤ 96) = true := by simp; omega
      have q126 : decide (c ≤ 126) = true := by simp; omega
      clear hi
      go_enter Tryd.func50, Tryd.ntmps50
      go_wp2_with fail
      go_ret
      exact ⟨parts_eq HV.out, rfl⟩
    · have HV := Lib.hid (show partsB c = false by unfold partsB; rw [h9']; simp; omega)
      have q32 : decide (32 ≤ c) = true := by simp; omega
      have q59 : decide (59 ≤ c) = true := by simp; omega
      have q91 : decide (91 ≤ c) = true := by simp; omega
      have q123 : decide (123 ≤ c) = false := by simp; omega
      have q47 : decide (c ≤ 47) = false := by simp; omega
      have q64 : decide (c ≤ 64) = false := by simp; omega
      have q96 : decide (c ≤ 96) = false := by simp; omega
      have q126 : decide (c ≤ 126) = true := by simp; omega
      clear hi
      go_enter Tryd.func50, Tryd.ntmps50
      go_wp2_with fail
      go_ret
      exact ⟨parts_eq HV.out, rfl⟩
    · have HV := Lib.hid (show partsB c = true by unfold partsB; rw [h9']; simp; omega)
      have q32 : decide (32 ≤ c) = true := by simp; omega
      have q59 : decide (59 ≤ c) = true := by simp; omega
      have q91 : decide (91 ≤ c) = true := by simp; omega
      have q123 : decide (123 ≤ c) = true := by simp; omega
      have q47 : decide (c ≤ 47) = false := by simp; omega
      have q64 : decide (c ≤ 64) = false := by simp; omega
      have q96 : decide (c ≤ 96) = false := by simp; omega
      have q126 : decide (c ≤ 126) = true := by simp; omega
      clear hi
      go_enter Tryd.func50, Tryd.ntmps50
      go_wp2_with fail
      go_ret
      exact ⟨parts_eq HV.out, rfl⟩
    · have HV := Lib.hid (show partsB c = false by unfold partsB; rw [h9']; simp; omega)
      have q32 : decide (32 ≤ c) = true := by simp; omega
      have q59 : decide (59 ≤ c) = true := by simp; omega
      have q91 : decide (91 ≤ c) = true := by simp; omega
      have q123 : decide (123 ≤ c) = true := by simp; omega
      have q47 : decide (c ≤ 47) = false := by simp; omega
      have q64 : decide (c ≤ 64) = false := by simp; omega
      have q96 : decide (c ≤ 96) = false := by simp; omega
      have q126 : decide (c ≤ 126) = false := by simp; omega
      clear hi
      go_enter Tryd.func50, Tryd.ntmps50
      go_wp2_with fail
      go_ret
      exact ⟨parts_eq HV.out, rfl⟩
def NumP1 (s : ByteArray) (w : World) (e : Ending) (w' : World) : Prop := e = .returned (if oneTwo s = true then .tuple #[.int .i64 (numV s), .string (afterD s), .bool true] else .tuple #[.int .i64 0, .string ⟨#[]⟩, .bool false]) ∧ ∃ n, w' = w.drewN n
set_option maxHeartbeats 1000000 in
set_option maxRecDepth 100000 in
theorem number_1 (s : ByteArray) (w : World) (hs : s.size ≤ 9223372036854775807) : Calls Tryd.prog 27 #[.string s, .int .i64 1, .int .i64 2] w (NumP1 s w) := by
  have hle := ndig_le s
  have HB := Lib.hid (ndig_before s)
  have HA := Lib.hid (ndig_at s)
  have HU := Lib.hid (unf_num s)
  have HNO := Lib.hid (show ¬ (1 ≤ ndig s ∧ ndig s ≤ 2) → NumP1 s w (.returned (.tuple #[.int .i64 0, .string ⟨#[]⟩, .bool false])) w from fun h => ⟨by rw [if_neg (fun h2 => h ((oneTwo_iff s).1 h2))], 0, rfl⟩)
  have HYES := Lib.hid (show (1 ≤ ndig s ∧ ndig s ≤ 2) → ∀ k, NumP1 s w (.returned (.tuple #[.int .i64 (numV s), .string (s.extract (ndig s) s.size), .bool true])) (w.drewN k) from fun h k => ⟨by rw [if_pos ((oneTwo_iff s).2 h)]; rfl, k, rfl⟩)
  generalize hm : ndig s = m at hle HB HA HU HNO HYES
  clear hm
  go_enter Tryd.func27, Tryd.ntmps27
  go_wp2_with fail
  go_loop [9] (fun i => ∃ k : Nat, k ≤ m ∧ i = .int .i64 k) (fun i => s.size - (intOf i).toNat)
  case atStart => exact ⟨0, Nat.zero_le _, rfl⟩
  case round =>
    obtain ⟨k, hk, rfl⟩ := hrel
    by_cases hlt : k < m
    · have hks : k < s.size := by omega
      obtain ⟨d1, d2⟩ := dig_iff.1 (HB.out k hlt hks)
      go_wp2_with fail
      go_round
      case rel => exact ⟨k + 1, by omega, by go_num⟩
      case measure => simp [intOf]; omega
    · obtain rfl : k = m := by omega
      have hx : (¬ k < s.size) ∨ (∃ h : k < s.size, ((s[k]'h).toNat : Int) < 48) ∨ (∃ h : k < s.size, 48 ≤ ((s[k]'h).toNat : Int) ∧ 57 < ((s[k]'h).toNat : Int)) := by
        by_cases h : k < s.size
        · have h2 := dig_no.1 (HA.out h)
          rcases h2 with h2 | h2
          · exact .inr (.inl ⟨h, h2⟩)
          · exact .inr (.inr ⟨h, by omega, h2⟩)
        · exact .inl h
      clear hlt hk
      by_cases hn : 1 ≤ k ∧ k ≤ 2
      · have HU2 := Lib.hid (HU.out (by omega) (by omega))
        have HY := Lib.hid (HYES.out hn)
        obtain ⟨n1, n2⟩ := hn
        have hz : (s.extract 0 k).size ≤ 9223372036854775807 := by rw [ByteArray.size_extract]; omega
        have hq1 : ¬ ((k : Int) < 1) := by omega
        have hq2 : ¬ (2 < (k : Int)) := by omega
        have hq3 : ((k : Int) ≤ (s.size : Int)) := by omega
        rcases hx with hx | ⟨hks, hx⟩ | ⟨hks, hx, hx2⟩
        all_goals
          go_wp2_with fail
          refine (unfixed_any (s.extract 0 k) _ hz).mono ?_
          rintro e w1 ⟨rfl, rfl⟩
          rw [HU2.out, show unfV (some (numV s)) = .tuple #[.int .i64 (numV s), .bool true] from rfl]
          go_wp2_with fail
          go_quiet (fail)
          go_wp2_with fail
          try rw [Exit.noGoto_ret]
          refine bodyPost_ret (results_tmp3 rfl _ _ _) rfl ?_
          exact HY.out _
      · have HN := Lib.hid (HNO.out hn)
        have hn2 : (k < 1) ∨ (¬ (k < 1) ∧ 2 < k) := by omega
        clear hn
        rcases hx with hx | ⟨hks, hx⟩ | ⟨hks, hx, hx2⟩
        all_goals
          rcases hn2 with hn2 | ⟨hn2, hn3⟩
          all_goals
            go_wp2_with fail
            refine bodyPost_ret (results_tmp3 rfl _ _ _) rfl ?_
            exact HN.out
def NumP2 (s : ByteArray) (w : World) (e : Ending) (w' : World) : Prop := e = .returned (if twoFour s = true then .tuple #[.int .i64 (numV s), .string (afterD s), .bool true] else .tuple #[.int .i64 0, .string ⟨#[]⟩, .bool false]) ∧ ∃ n, w' = w.drewN n
set_option maxHeartbeats 1000000 in
set_option maxRecDepth 100000 in
theorem number_2 (s : ByteArray) (w : World) (hs : s.size ≤ 9223372036854775807) : Calls Tryd.prog 27 #[.string s, .int .i64 2, .int .i64 4] w (NumP2 s w) := by
  have hle := ndig_le s
  have HB := Lib.hid (ndig_before s)
  have HA := Lib.hid (ndig_at s)
  have HU := Lib.hid (unf_num s)
  have HNO := Lib.hid (show ¬ (2 ≤ ndig s ∧ ndig s ≤ 4) → NumP2 s w (.returned (.tuple #[.int .i64 0, .string ⟨#[]⟩, .bool false])) w from fun h => ⟨by rw [if_neg (fun h2 => h ((twoFour_iff s).1 h2))], 0, rfl⟩)
  have HYES := Lib.hid (show (2 ≤ ndig s ∧ ndig s ≤ 4) → ∀ k, NumP2 s w (.returned (.tuple #[.int .i64 (numV s), .string (s.extract (ndig s) s.size), .bool true])) (w.drewN k) from fun h k => ⟨by rw [if_pos ((twoFour_iff s).2 h)]; rfl, k, rfl⟩)
  generalize hm : ndig s = m at hle HB HA HU HNO HYES
  clear hm
  go_enter Tryd.func27, Tryd.ntmps27
  go_wp2_with fail
  go_loop [9] (fun i => ∃ k : Nat, k ≤ m ∧ i = .int .i64 k) (fun i => s.size - (intOf i).toNat)
  case atStart => exact ⟨0, Nat.zero_le _, rfl⟩
  case round =>
    obtain ⟨k, hk, rfl⟩ := hrel
    by_cases hlt : k < m
    · have hks : k < s.size := by omega
      obtain ⟨d1, d2⟩ := dig_iff.1 (HB.out k hlt hks)
      go_wp2_with fail
      go_round
      case rel => exact ⟨k + 1, by omega, by go_num⟩
      case measure => simp [intOf]; omega
    · obtain rfl : k = m := by omega
      have hx : (¬ k < s.size) ∨ (∃ h : k < s.size, ((s[k]'h).toNat : Int) < 48) ∨ (∃ h : k < s.size, 48 ≤ ((s[k]'h).toNat : Int) ∧ 57 < ((s[k]'h).toNat : Int)) := by
        by_cases h : k < s.size
        · have h2 := dig_no.1 (HA.out h)
          rcases h2 with h2 | h2
          · exact .inr (.inl ⟨h, h2⟩)
          · exact .inr (.inr ⟨h, by omega, h2⟩)
        · exact .inl h
      clear hlt hk
      by_cases hn : 2 ≤ k ∧ k ≤ 4
      · have HU2 := Lib.hid (HU.out (by omega) (by omega))
        have HY := Lib.hid (HYES.out hn)
        obtain ⟨n1, n2⟩ := hn
        have hz : (s.extract 0 k).size ≤ 9223372036854775807 := by rw [ByteArray.size_extract]; omega
        have hq1 : ¬ ((k : Int) < 2) := by omega
        have hq2 : ¬ (4 < (k : Int)) := by omega
        have hq3 : ((k : Int) ≤ (s.size : Int)) := by omega
        rcases hx with hx | ⟨hks, hx⟩ | ⟨hks, hx, hx2⟩
        all_goals
          go_wp2_with fail
          refine (unfixed_any (s.extract 0 k) _ hz).mono ?_
          rintro e w1 ⟨rfl, rfl⟩
          rw [HU2.out, show unfV (some (numV s)) = .tuple #[.int .i64 (numV s), .bool true] from rfl]
          go_wp2_with fail
          go_quiet (fail)
          go_wp2_with fail
          try rw [Exit.noGoto_ret]
          refine bodyPost_ret (results_tmp3 rfl _ _ _) rfl ?_
          exact HY.out _
      · have HN := Lib.hid (HNO.out hn)
        have hn2 : (k < 2) ∨ (¬ (k < 2) ∧ 4 < k) := by omega
        clear hn
        rcases hx with hx | ⟨hks, hx⟩ | ⟨hks, hx, hx2⟩
        all_goals
          rcases hn2 with hn2 | ⟨hn2, hn3⟩
          all_goals
            go_wp2_with fail
            refine bodyPost_ret (results_tmp3 rfl _ _ _) rfl ?_
            exact HN.out
end Go.Proofs.YtngamlikhgilhaaDoor
