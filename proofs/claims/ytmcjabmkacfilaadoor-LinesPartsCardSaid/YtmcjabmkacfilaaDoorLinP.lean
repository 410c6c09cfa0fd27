/- The contracts of the reference's escaped and Escape. -/
import Derived.Test.YtmcjabmkacfilaaDoorLinO
namespace Go.Proofs.YtmcjabmkacfilaaDoor
open Go.RowKit Go.Shelf

set_option maxRecDepth 100000 in
set_option maxHeartbeats 1000000 in
theorem resc1_any (c : UInt8) (w : World) : Calls Tryd.prog 42 #[.int .u8 (c.toNat : Int)] w fun e w' => e = .returned (.string (mk (escB c))) ∧ Below w.heap.size w w' := by
  by_cases h92 : c = 92
  · subst h92
    have hcv := conv_new w [92, 92] 2 rfl
    rw [show (cellsU [92, 92]).toArray = #[Value.int .u8 92, Value.int .u8 92] from rfl] at hcv
    go_enter Tryd.func42, Tryd.ntmps42
    go_wp2_with fail
    go_ret
    exact ⟨rfl, (Below.refl _ w).alloc (Nat.le_refl _) _⟩
  by_cases h9 : c = 9
  · subst h9
    have hcv := conv_new w [92, 116] 2 rfl
    rw [show (cellsU [92, 116]).toArray = #[Value.int .u8 92, Value.int .u8 116] from rfl] at hcv
    go_enter Tryd.func42, Tryd.ntmps42
    go_wp2_with fail
    go_ret
    exact ⟨rfl, (Below.refl _ w).alloc (Nat.le_refl _) _⟩
  by_cases h10 : c = 10
  · subst h10
    have hcv := conv_new w [92, 110] 2 rfl
    rw [show (cellsU [92, 110]).toArray = #[Value.int .u8 92, Value.int .u8 110] from rfl] at hcv
    go_enter Tryd.func42, Tryd.ntmps42
    go_wp2_with fail
    go_ret
    exact ⟨rfl, (Below.refl _ w).alloc (Nat.le_refl _) _⟩
  by_cases h13 : c = 13
  · subst h13
    have hcv := conv_new w [92, 114] 2 rfl
    rw [show (cellsU [92, 114]).toArray = #[Value.int .u8 92, Value.int .u8 114] from rfl] at hcv
    go_enter Tryd.func42, Tryd.ntmps42
    go_wp2_with fail
    go_ret
    exact ⟨rfl, (Below.refl _ w).alloc (Nat.le_refl _) _⟩
  have HN := Lib.hid (show escB c = [c] by unfold escB; rw [if_neg h92, if_neg h9, if_neg h10, if_neg h13])
  obtain ⟨a1, a2⟩ := ne_int (n := 92) (by decide) h92
  obtain ⟨b1, b2⟩ := ne_int (n := 9) (by decide) h9
  obtain ⟨c1, c2⟩ := ne_int (n := 10) (by decide) h10
  obtain ⟨d1, d2⟩ := ne_int (n := 13) (by decide) h13
  clear h92 h9 h10 h13
  rw [HN.out]
  have hcv := conv_new w [c] 1 rfl
  rw [show (cellsU [c]).toArray = #[Value.int .u8 (c.toNat : Int)] from rfl] at hcv
  go_enter Tryd.func42, Tryd.ntmps42
  go_wp2_with fail
  go_ret
  exact ⟨rfl, (Below.refl _ w).alloc (Nat.le_refl _) _⟩
theorem mk_append (a b : List UInt8) : mk a ++ mk b = mk (a ++ b) := bs_inj (by rw [bs_append, bs_mk, bs_mk, bs_mk])
set_option maxRecDepth 100000 in
set_option maxHeartbeats 1000000 in
theorem rescape_any (s : ByteArray) (w : World) (hs : s.size ≤ 1000000) : Calls Tryd.prog 23 #[.string s] w fun e w' => e = .returned (.string (escS s)) ∧ Below w.heap.size w w' := by
  go_enter Tryd.func23, Tryd.ntmps23
  go_wp2_with fail
  go_loopw [3, 4] (fun o i wr => ∃ (k : Nat) (O : ByteArray), k ≤ s.size ∧ i = .int .i64 k ∧ o = .string O ∧ Hid (O = mk (((bs s).take k).flatMap escB)) ∧ O.size ≤ 3 * k ∧ Below w.heap.size w wr) (fun _ i _ => s.size - (intOf i).toNat)
  case atStart => exact ⟨0, ⟨#[]⟩, Nat.zero_le _, rfl, rfl, Lib.hid rfl, Nat.le_refl _, Below.refl _ _⟩
  case round =>
    obtain ⟨k, O, hk, rfl, rfl, HO, hO, hb⟩ := hrel
    by_cases hlt : k < s.size
    · have hlt2 : k < (bs s).length := by rw [← size_bs]; exact hlt
      have hf3 := escB_len s[k]
      have hz := size_mk (escB s[k])
      have hsum : (O ++ mk (escB s[k])).size ≤ 9223372036854775807 := by rw [ByteArray.size_append]; omega
      have hsum2 : (O ++ mk (escB s[k])).size ≤ 3 * (k + 1) := by rw [ByteArray.size_append]; omega
      have hsum3 : O.size + (mk (escB s[k])).size ≤ 9223372036854775807 := by omega
      have HN : Hid (O ++ mk (escB s[k]) = mk (((bs s).take (k + 1)).flatMap escB)) := Lib.hid (by rw [flat_take escB (bs s) k hlt2, ← mk_append, HO.out]; rfl)
      clear HO hf3
      go_wp2_with fail
      refine (resc1_any s[k] _).mono ?_
      rintro e w1 ⟨rfl, hb1⟩
      generalize mk (escB s[k]) = E at *
      go_wp2_with fail
      go_round
      case rel => exact ⟨k + 1, _, by omega, by go_num, rfl, HN, hsum2, Lsnoc hb hb1⟩
      case measure => simp [intOf]; omega
    · obtain rfl : k = s.size := by omega
      have HN : Hid (O = escS s) := Lib.hid (by rw [HO.out, List.take_of_length_le (by rw [← size_bs]; exact Nat.le_refl _)]; rfl)
      clear HO
      go_wp2_with fail
      go_ret
      exact ⟨by rw [← HN.out]; rfl, hb⟩
end Go.Proofs.YtmcjabmkacfilaaDoor
