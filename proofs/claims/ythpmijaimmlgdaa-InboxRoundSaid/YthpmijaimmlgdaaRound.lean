/- The walk of the law InboxRound. -/
import Derived.Test.YthpmijaimmlgdaaSt
namespace Go.Proofs.Ythpmijaimmlgdaa
open Go.Conc Go.RowKit

def xx : ByteArray := ⟨#[120]⟩
theorem rep_succ (k : Nat) : List.replicate k xx ++ [xx] = List.replicate (k + 1) xx := by
  rw [List.replicate_succ']

set_option maxRecDepth 100000 in
theorem round_out (n : Int) (s : ByteArray) (w : World) (h : n < 0 ∨ 100 < n) :
    Calls Try.prog 5 #[.int .i64 n, .string s] w fun e w' => e = .returned (.bool true) ∧ Below w.heap.size w w' := by
  rcases h with h | h
  all_goals
    go_enter Try.func5, Try.ntmps5
    go_wp2_with fail
    refine (st_new w w (Below.refl _ _)).mono ?_
    rintro e w1 ⟨p, c, rfl, h1, -, -⟩
    go_wp2_with fail
    refine (St.alive h1).mono ?_
    rintro e w2 ⟨rfl, h2⟩
    go_wp2_with fail
    go_ret
    exact ⟨by simp, h2.below⟩

set_option maxRecDepth 100000 in
theorem round_in (n : Int) (s : ByteArray) (w : World) (h0 : 0 ≤ n) (h1 : n ≤ 100) :
    Calls Try.prog 5 #[.int .i64 n, .string s] w fun e w' => e = .returned (.bool true) ∧ Below w.heap.size w w' := by
  have g0 : ¬ n < 0 := by omega
  have g1 : ¬ 100 < n := by omega
  go_enter Try.func5, Try.ntmps5
  go_wp2_with fail
  refine (st_new w w (Below.refl _ _)).mono ?_
  rintro e w1 ⟨p, c, rfl, h1, -, -⟩
  go_wp2_with fail
  go_loopw [28] (fun v wr => ∃ k : Nat, k ≤ 8 ∧ v = .int .i64 k ∧ St w wr p c (List.replicate k xx)) (fun v _ => (8 - intOf v).toNat)
  case atStart => exact ⟨0, by omega, rfl, h1⟩
  case round =>
    obtain ⟨k, hk, rfl, hS⟩ := hrel
    by_cases hlt : k < 8
    · go_wp2_with fail
      refine (st_post_room hS (by simp; omega) _).mono ?_
      rintro e w2 ⟨rfl, h2⟩
      go_wp2_with fail
      go_roundw
      case rel => exact ⟨k + 1, by omega, by go_num, by have h3 := h2; rw [show ({ data := #[120] } : ByteArray) = xx from rfl, rep_succ] at h3; exact h3⟩
      case measure => simp [intOf]; omega
    · have hS8 : St w wr p c (List.replicate 8 xx) := by
        rw [show 8 = k by omega]
        exact hS
      clear hS
      go_wp2_with fail
      clear hlt hk
      go_loopw [35] (fun v wr => ∃ k : Nat, k ≤ n.toNat ∧ v = .int .i64 k ∧ St w wr p c (List.replicate 8 xx)) (fun v _ => (n.toNat - (intOf v).toNat))
      case atStart => exact ⟨0, by omega, rfl, hS8⟩
      case round =>
        clear hS8
        obtain ⟨k, hk, rfl, hS⟩ := hrel
        by_cases hlt : (k : Int) < n
        · go_wp2_with fail
          refine (st_next_some (x := xx) (l := List.replicate 7 xx) hS).mono ?_
          rintro e w2 ⟨rfl, h2⟩
          go_wp2_with fail
          refine (st_post_room h2 (by simp) _).mono ?_
          rintro e w3 ⟨rfl, h3⟩
          rw [show ({ data := #[120] } : ByteArray) = xx from rfl, rep_succ] at h3
          go_wp2_with fail
          refine (st_post_full h3 (by simp) _).mono ?_
          rintro e w4 ⟨rfl, h4⟩
          go_wp2_with fail
          go_roundw
          case rel => exact ⟨k + 1, by omega, by go_num, h4⟩
          case measure => simp [intOf]; omega
        · have hk2 : n ≤ (k : Int) := by omega
          go_wp2_with fail
          refine (st_next_some (x := xx) (l := List.replicate 7 xx) hS).mono ?_
          rintro e w2 ⟨rfl, h2⟩
          clear hS
          go_wp2_with fail
          refine (st_post_room h2 (by simp) _).mono ?_
          rintro e w3 ⟨rfl, h3⟩
          clear h2
          go_wp2_with fail
          clear hlt hk hk2
          go_loopw [60] (fun v wr => ∃ k : Nat, k ≤ 7 ∧ v = .int .i64 k ∧ St w wr p c (List.replicate (7 - k) xx ++ [s])) (fun v _ => (7 - intOf v).toNat)
          case atStart => exact ⟨0, by omega, rfl, h3⟩
          case round =>
            clear h3
            obtain ⟨k, hk, rfl, hS⟩ := hrel
            by_cases hlt : k < 7
            · have hS' : St w wr p c (xx :: (List.replicate (6 - k) xx ++ [s])) := by
                rw [show 7 - k = (6 - k) + 1 by omega, List.replicate_succ] at hS
                exact hS
              clear hS
              go_wp2_with fail
              refine (st_next_some (x := ⟨#[120]⟩) hS').mono ?_
              rintro e w2 ⟨rfl, h2⟩
              clear hS'
              go_wp2_with fail
              go_roundw
              case rel => exact ⟨k + 1, by omega, by go_num, by rw [show 7 - (k + 1) = 6 - k by omega]; exact h2⟩
              case measure => simp [intOf]; omega
            · have hS7 : St w wr p c [s] := by
                rw [show 7 - k = 0 by omega] at hS
                exact hS
              clear hS
              go_wp2_with fail
              refine (st_next_some (x := s) (l := []) hS7).mono ?_
              rintro e w2 ⟨rfl, h2⟩
              clear hS7
              go_wp2_with fail
              refine (St.alive h2).mono ?_
              rintro e w3 ⟨rfl, h3⟩
              clear h2
              go_wp2_with fail
              go_ret
              exact ⟨by simp, h3.below⟩

theorem round_any (n : Int) (s : ByteArray) (w : World) (_ : (Lit.int .i64 n).wf = true) (_ : s.size ≤ 140737488351232) :
    Calls Try.prog 5 #[.int .i64 n, .string s] w fun e w' => e = .returned (.bool true) ∧ Below w.heap.size w w' := by
  by_cases h : 0 ≤ n ∧ n ≤ 100
  · exact round_in n s w h.1 h.2
  · exact round_out n s w (by omega)
end Go.Proofs.Ythpmijaimmlgdaa
