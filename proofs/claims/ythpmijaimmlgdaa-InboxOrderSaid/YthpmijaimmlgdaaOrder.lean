/- The walk of the law InboxOrder. -/
import Derived.Test.YthpmijaimmlgdaaSt
import Derived.Test.YthpmijaimmlgdaaStr
namespace Go.Proofs.Ythpmijaimmlgdaa
open Go.Conc Go.RowKit

set_option maxRecDepth 100000 in
theorem order_out (a : Option Addr) (len cap : Nat) (w : World) (h : 200 < len) (hm : len ≤ maxLen) :
    Calls Try.prog 4 #[.slice a len cap] w fun e w' => e = .returned (.bool true) ∧ Below w.heap.size w w' := by
  unfold maxLen at hm
  go_enter Try.func4, Try.ntmps4
  go_wp2_with fail
  refine (st_new w w (Below.refl _ _)).mono ?_
  rintro e w1 ⟨p, c, rfl, h1, -, -⟩
  go_wp2_with fail
  refine (St.alive h1).mono ?_
  rintro e w2 ⟨rfl, h2⟩
  go_wp2_with fail
  go_ret
  exact ⟨by simp, h2.below⟩

theorem take_snoc (ss : List ByteArray) (k : Nat) (h : k < ss.length) : ss.take k ++ [nth ss k] = ss.take (k + 1) := by
  rw [List.take_succ_eq_append_getElem h]
  simp [h, nth]
theorem take_snoc8 (ss : List ByteArray) (k : Nat) (h : k < ss.length) (h8 : k < 8) : (ss.take 8).take k ++ [nth ss k] = (ss.take 8).take (k + 1) := by
  rw [List.take_take, List.take_take, show min k 8 = k by omega, show min (k + 1) 8 = k + 1 by omega, take_snoc ss k h]

theorem drop_nth (ss : List ByteArray) (k : Nat) (h : k < ss.length) (h8 : k < 8) : (ss.take 8).drop k = nth ss k :: (ss.take 8).drop (k + 1) := by
  rw [List.drop_eq_getElem_cons (by simp; omega)]
  simp [nth, h]

set_option maxRecDepth 100000 in
theorem order_in (b off len cap : Nat) (ss : List ByteArray) (w : World) (hl : len ≤ 200) (hs : ss.length = len) (hc : ∀ i, i < len → w.cell? ⟨b, off + i, none⟩ = some (.string (nth ss i)) ∧ b < w.heap.size) :
    Calls Try.prog 4 #[.slice (some ⟨b, off, none⟩) len cap] w fun e w' => e = .returned (.bool true) ∧ Below w.heap.size w w' := by
  have HS := Lib.hid hs
  have HC := Lib.hid hc
  clear hs hc
  have hb200 : decide (200 < (len : Int)) = false := by simp; omega
  go_enter Try.func4, Try.ntmps4
  go_wp2_with fail
  refine (st_new w w (Below.refl _ _)).mono ?_
  rintro e w1 ⟨p, c, rfl, h1, -, -⟩
  go_wp2_with fail
  go_loopw [26] (fun v wr => ∃ k : Nat, k ≤ len ∧ v = .int .i64 k ∧ St w wr p c ((ss.take 8).take k)) (fun v _ => (len - intOf v).toNat)
  case atStart => exact ⟨0, by omega, rfl, h1⟩
  case round =>
    obtain ⟨k, hk, rfl, hS⟩ := hrel
    by_cases hlt : k < len
    · have hcell : wr.cell? ⟨b, off + k, none⟩ = some (.string (nth ss k)) := by
        obtain ⟨h2, h3⟩ := HC.out k hlt
        rw [hS.below.cell h3]; exact h2
      by_cases h8 : k < 8
      · go_wp2_with fail
        refine (st_post_room hS (by simp; have := HS.out; omega) _).mono ?_
        rintro e w2 ⟨rfl, h2⟩
        rw [take_snoc8 ss k (by have := HS.out; omega) h8] at h2
        have hb : decide ((k : Int) < 8) = true := by simp; omega
        go_wp2_with fail
        go_roundw
        case rel => exact ⟨k + 1, by omega, by go_num, h2⟩
        case measure => simp [intOf]; omega
      · have h8' : 8 ≤ k := by omega
        go_wp2_with fail
        refine (st_post_full hS (by simp; have := HS.out; omega) _).mono ?_
        rintro e w2 ⟨rfl, h2⟩
        have h3 : St w w2 p c ((ss.take 8).take (k + 1)) := by
          rw [List.take_of_length_le (by simp; omega)] at h2 ⊢
          exact h2
        clear h2
        have hb : decide ((k : Int) < 8) = false := by simp; omega
        go_wp2_with fail
        go_roundw
        case rel => exact ⟨k + 1, by omega, by go_num, h3⟩
        case measure => simp [intOf]; omega
    · have hS8 : St w wr p c (ss.take 8) := by
        rw [List.take_of_length_le (by simp; have := HS.out; omega)] at hS
        exact hS
      clear hS
      by_cases h8 : 8 < len
      all_goals
        go_wp2_with fail
        clear hlt hk
        go_loopw [41] (fun v wr => ∃ k : Nat, k ≤ 8 ∧ k ≤ len ∧ v = .int .i64 k ∧ St w wr p c ((ss.take 8).drop k)) (fun v _ => (8 - intOf v).toNat)
        case atStart => exact ⟨0, by omega, by omega, rfl, hS8⟩
        case round =>
          clear hS8
          obtain ⟨k, hk, hk', rfl, hS⟩ := hrel
          by_cases hlt : k < 8 ∧ k < len
          · obtain ⟨hlt1, hlt2⟩ := hlt
            have hcell : wr.cell? ⟨b, off + k, none⟩ = some (.string (nth ss k)) := by
              obtain ⟨h2, h3⟩ := HC.out k hlt2
              rw [hS.below.cell h3]; exact h2
            have hS' : St w wr p c (nth ss k :: (ss.take 8).drop (k + 1)) := by
              rw [← drop_nth ss k (by have := HS.out; omega) hlt1]; exact hS
            clear hS
            go_wp2_with fail
            refine (st_next_some hS').mono ?_
            rintro e w2 ⟨rfl, h2⟩
            clear hS'
            have hcell2 : w2.cell? ⟨b, off + k, none⟩ = some (.string (nth ss k)) := by
              obtain ⟨h5, h6⟩ := HC.out k hlt2
              rw [h2.below.cell h6]; exact h5
            go_wp2_with fail
            go_roundw
            case rel => exact ⟨k + 1, by omega, by omega, by go_num, h2⟩
            case measure => simp [intOf]; omega
          · have hS' : St w wr p c [] := by
              rw [List.drop_of_length_le (by simp; have := HS.out; omega)] at hS
              exact hS
            clear hS
            have hlt3 : 8 ≤ k ∨ len ≤ k := by omega
            clear hlt
            have hlt4 : k = 8 ∨ k = len := by omega
            clear hlt3
            go_wp2_with fail
            refine (st_next_none hS').mono ?_
            rintro e w2 ⟨rfl, h2⟩
            clear hS'
            go_wp2_with fail
            refine (St.alive h2).mono ?_
            rintro e w3 ⟨rfl, h3⟩
            clear h2
            go_wp2_with fail
            refine (st_len h3).mono ?_
            rintro e w4 ⟨rfl, h4⟩
            go_wp2_with fail
            go_ret
            exact ⟨by simp, h4.below⟩

set_option maxRecDepth 100000 in
theorem order_zero (a : Option Addr) (cap : Nat) (w : World) :
    Calls Try.prog 4 #[.slice a 0 cap] w fun e w' => e = .returned (.bool true) ∧ Below w.heap.size w w' := by
  go_enter Try.func4, Try.ntmps4
  go_wp2_with fail
  refine (st_new w w (Below.refl _ _)).mono ?_
  rintro e w1 ⟨p, c, rfl, h1, -, -⟩
  go_wp2_with fail
  go_loopw [26] (fun v wr => v = .int .i64 0 ∧ St w wr p c []) (fun _ _ => 0)
  case atStart => exact ⟨rfl, h1⟩
  case round =>
    obtain ⟨rfl, hS⟩ := hrel
    go_wp2_with fail
    go_loopw [41] (fun v wr => v = .int .i64 0 ∧ St w wr p c []) (fun _ _ => 0)
    case atStart => exact ⟨rfl, hS⟩
    case round =>
      clear hS
      obtain ⟨rfl, hS⟩ := hrel
      go_wp2_with fail
      refine (st_next_none hS).mono ?_
      rintro e w2 ⟨rfl, h2⟩
      clear hS
      go_wp2_with fail
      refine (St.alive h2).mono ?_
      rintro e w3 ⟨rfl, h3⟩
      clear h2
      go_wp2_with fail
      refine (st_len h3).mono ?_
      rintro e w4 ⟨rfl, h4⟩
      go_wp2_with fail
      go_ret
      exact ⟨by simp, h4.below⟩

theorem order_any (a : Option Addr) (len cap : Nat) (ss : List ByteArray) (w : World) (h : StrRow w a len cap ss) :
    Calls Try.prog 4 #[.slice a len cap] w fun e w' => e = .returned (.bool true) ∧ Below w.heap.size w w' := by
  obtain ⟨h1, h2, h3, h4⟩ := h
  by_cases hl : 200 < len
  · exact order_out a len cap w hl (Nat.le_trans h2 h3)
  · rcases h4 with rfl | ⟨b, off, rfl, h5⟩
    · exact order_zero a cap w
    · exact order_in b off len cap ss w (by omega) h1 h5
end Go.Proofs.Ythpmijaimmlgdaa
