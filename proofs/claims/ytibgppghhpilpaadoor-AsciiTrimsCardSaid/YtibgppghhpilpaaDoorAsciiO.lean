/- The walk of the statement AsciiTrims. -/
import Derived.Test.YtibgppghhpilpaaDoorAsciiL
import Derived.OpenShut
import Derived.Deep.RegionHeld3
import Derived.Deep.DeepCutAuto
namespace Go.Proofs.YtibgppghhpilpaaDoor
open Go.RowKit

def blanks : ByteArray := ⟨#[9, 32, 9, 9, 32, 32, 9, 32, 32, 32, 9, 32, 9, 9, 32, 32, 9, 32, 32, 32, 9, 9, 9, 32, 9, 9, 32, 32, 9, 32, 32, 32]⟩
theorem blanks_all : ∀ x ∈ bs blanks, blk x = true := by decide
theorem blanks_cut (n : Nat) : ∀ x ∈ bs (blanks.extract 0 n), blk x = true := by
  intro x hx
  rw [bs_extract, List.drop_zero] at hx
  exact blanks_all x (List.mem_of_mem_take hx)
theorem trimS_more (s : ByteArray) (m n : Nat) : trimS (blanks.extract 0 m ++ s ++ blanks.extract 0 n) = trimS s := by
  unfold trimS
  rw [bs_append, bs_append, trimL_more _ _ _ (blanks_cut m) (blanks_cut n)]
theorem trimS_trimS (s : ByteArray) : trimS (trimS s) = trimS s := by
  unfold trimS
  rw [bs_mk, trimL_trimL]
theorem trimS_size (s : ByteArray) : (trimS s).size ≤ s.size := by
  unfold trimS
  rw [size_mk, size_bs]
  exact trimL_len _

set_option maxRecDepth 100000 in
theorem asciiTrims_out (s : ByteArray) (m n : Int) (w : World) (h : (m < 0 ∨ 20 < m) ∨ (n < 0 ∨ 20 < n)) :
    Calls Tryd.prog 6 #[.string s, .int .i64 m, .int .i64 n] w fun e w' => e = .returned (.bool true) ∧ Below w.heap.size w w' := by
  rcases h with (h | h) | (h | h)
  all_goals
    by_cases h1 : m < 0
    all_goals by_cases h2 : 20 < m
    all_goals by_cases h3 : n < 0
    all_goals by_cases h4 : 20 < n
    all_goals first | (exfalso; omega) | skip
  all_goals
    go_enter Tryd.func6, Tryd.ntmps6
    go_wp2_with fail
    refine (alive_any _).mono ?_
    rintro e w1 ⟨rfl, hb1⟩
    go_wp2_with fail
    go_ret
    exact ⟨by simp, hb1⟩

set_option maxHeartbeats 1000000 in
set_option maxRecDepth 100000 in
theorem asciiTrims_in (s : ByteArray) (m n : Nat) (w : World) (hm : m ≤ 20) (hn : n ≤ 20) (hs : s.size ≤ 140737488351232) :
    Calls Tryd.prog 6 #[.string s, .int .i64 (m : Int), .int .i64 (n : Int)] w fun e w' => e = .returned (.bool true) ∧ Below w.heap.size w w' := by
  have h0 : s.size ≤ 9223372036854775807 := by omega
  have m0 : (0 : Int) ≤ (m : Int) := by omega
  have m1 : (m : Int) ≤ 32 := by omega
  have n0 : (0 : Int) ≤ (n : Int) := by omega
  have n1 : (n : Int) ≤ 32 := by omega
  have H1 := Lib.hid (show trimS (({ data := #[9, 32, 9, 9, 32, 32, 9, 32, 32, 32, 9, 32, 9, 9, 32, 32, 9, 32, 32, 32, 9, 9, 9, 32, 9, 9, 32, 32, 9, 32, 32, 32] } : ByteArray).extract 0 m ++ s ++ ({ data := #[9, 32, 9, 9, 32, 32, 9, 32, 32, 32, 9, 32, 9, 9, 32, 32, 9, 32, 32, 32, 9, 9, 9, 32, 9, 9, 32, 32, 9, 32, 32, 32] } : ByteArray).extract 0 n) = trimS s from trimS_more s m n)
  have H2 := Lib.hid (trimS_trimS s)
  have H3 := Lib.hid (trimS_size s)
  have k1 : (({ data := #[9, 32, 9, 9, 32, 32, 9, 32, 32, 32, 9, 32, 9, 9, 32, 32, 9, 32, 32, 32, 9, 9, 9, 32, 9, 9, 32, 32, 9, 32, 32, 32] } : ByteArray).extract 0 m).size + s.size ≤ 9223372036854775807 := by rw [ByteArray.size_extract]; omega
  have k2 : (({ data := #[9, 32, 9, 9, 32, 32, 9, 32, 32, 32, 9, 32, 9, 9, 32, 32, 9, 32, 32, 32, 9, 9, 9, 32, 9, 9, 32, 32, 9, 32, 32, 32] } : ByteArray).extract 0 m ++ s).size + (({ data := #[9, 32, 9, 9, 32, 32, 9, 32, 32, 32, 9, 32, 9, 9, 32, 32, 9, 32, 32, 32, 9, 9, 9, 32, 9, 9, 32, 32, 9, 32, 32, 32] } : ByteArray).extract 0 n).size ≤ 9223372036854775807 := by rw [ByteArray.size_append, ByteArray.size_extract, ByteArray.size_extract]; omega
  have k3 : ¬ (9223372036854775807 < min m 32 + s.size) := by omega
  have k4 : ¬ (9223372036854775807 < min m 32 + s.size + min n 32) := by omega
  have K3 := Lib.hid (show (({ data := #[9, 32, 9, 9, 32, 32, 9, 32, 32, 32, 9, 32, 9, 9, 32, 32, 9, 32, 32, 32, 9, 9, 9, 32, 9, 9, 32, 32, 9, 32, 32, 32] } : ByteArray).extract 0 m ++ s ++ ({ data := #[9, 32, 9, 9, 32, 32, 9, 32, 32, 32, 9, 32, 9, 9, 32, 32, 9, 32, 32, 32, 9, 9, 9, 32, 9, 9, 32, 32, 9, 32, 32, 32] } : ByteArray).extract 0 n).size ≤ 9223372036854775807 by rw [ByteArray.size_append]; exact k2)
  go_enter Tryd.func6, Tryd.ntmps6
  go_wp2_with fail
  refine (trim_any s _ h0).mono ?_
  rintro e w1 ⟨rfl, hb1⟩
  go_wp2_with fail
  go_region_held3 (fun W => Below w.heap.size w W) (first | (exact Below.drew (by assumption)) | assumption | (exact Below.snoc (by assumption) (by assumption)) | go_keep)
    (first
    | (go_at_call 10; refine (alive_any _).mono ?_; rintro e w2 ⟨rfl, hb2⟩)
    | (go_at_call 20; refine (rtrim_any s _ h0).mono ?_; rintro e w3 ⟨rfl, rfl⟩)
    | (go_at_call 19; refine (trim_any (trimS s) _ (Nat.le_trans H3.out h0)).mono ?_; rintro e w4 ⟨rfl, hb4⟩; rw [H2.out])
    | (go_at_call 19; refine (trim_any (({ data := #[9, 32, 9, 9, 32, 32, 9, 32, 32, 32, 9, 32, 9, 9, 32, 32, 9, 32, 32, 32, 9, 9, 9, 32, 9, 9, 32, 32, 9, 32, 32, 32] } : ByteArray).extract 0 m ++ s ++ ({ data := #[9, 32, 9, 9, 32, 32, 9, 32, 32, 32, 9, 32, 9, 9, 32, 32, 9, 32, 32, 32, 9, 9, 9, 32, 9, 9, 32, 32, 9, 32, 32, 32] } : ByteArray).extract 0 n) _ K3.out).mono ?_; rintro e w5 ⟨rfl, hb5⟩; rw [H1.out]))
  all_goals go_wp2_with fail
  all_goals go_ret
  all_goals refine ⟨by simp, ?_⟩
  all_goals first | assumption | (exact Below.drawn (by assumption) _)
theorem asciiTrims_any (s : ByteArray) (m n : Int) (w : World) (hs : s.size ≤ 140737488351232) (_ : (Lit.int .i64 m).wf = true) (_ : (Lit.int .i64 n).wf = true) :
    Calls Tryd.prog 6 #[.string s, .int .i64 m, .int .i64 n] w fun e w' => e = .returned (.bool true) ∧ Below w.heap.size w w' := by
  by_cases h : (m < 0 ∨ 20 < m) ∨ (n < 0 ∨ 20 < n)
  · exact asciiTrims_out s m n w h
  · obtain ⟨m', rfl⟩ := Int.eq_ofNat_of_zero_le (show 0 ≤ m by omega)
    obtain ⟨n', rfl⟩ := Int.eq_ofNat_of_zero_le (show 0 ≤ n by omega)
    exact asciiTrims_in s m' n' w (by omega) (by omega) hs
end Go.Proofs.YtibgppghhpilpaaDoor
