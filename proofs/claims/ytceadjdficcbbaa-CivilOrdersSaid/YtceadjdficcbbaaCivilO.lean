/- The walks of the statements CivilEpochs and CivilOf. -/
import Derived.Test.YtceadjdficcbbaaCivilA
import Derived.Test.YtceadjdficcbbaaCivilS
import Derived.OpenShut
namespace Go.Proofs.Ytceadjdficcbbaa
open Go.RowKit

theorem bcell {W w1 : World} (hb : Below W.heap.size W w1) : (∀ b o, b < W.heap.size → w1.cell? ⟨b, o, none⟩ = W.cell? ⟨b, o, none⟩) ∧ (∀ b o, b < W.heap.size → w1.frozen? ⟨b, o, none⟩ = W.frozen? ⟨b, o, none⟩) :=
  ⟨fun b o h => hb.cell (p := ⟨b, o, none⟩) h, fun b o h => hb.frozen (p := ⟨b, o, none⟩) h⟩

theorem Below.snoc {w w1 w2 : World} (h : Below w.heap.size w w1) (h2 : Below w1.heap.size w1 w2) : Below w.heap.size w w2 := h.trans (h2.mono h.size)
theorem Below.box {w w1 : World} (h : Below w.heap.size w w1) (o : Obj) : Below w.heap.size w (w1.alloc o) := h.alloc h.size o

set_option maxRecDepth 100000 in
theorem civilEpochs_yes (y m d h n s : Int) (w : World) (hv : vclk y m d h n s) :
    Calls Try.prog 7 #[.agg #[.int .i64 y, .int .i64 m, .int .i64 d, .int .i64 h, .int .i64 n, .int .i64 s]] w fun e w' => e = .returned (.bool true) ∧ Below w.heap.size w w' := by
  have hb0 := secs_bd hv
  obtain ⟨p1, p2⟩ := hb0
  go_enter Try.func7, Try.ntmps7
  go_wp2_with fail
  refine (epoch_yes y m d h n s _ hv).mono ?_
  rintro e w1 ⟨rfl, hb1⟩
  obtain ⟨hc1, hf1⟩ := bcell hb1
  go_wp2_with fail
  refine (repoch_yes y m d h n s _ hv).mono ?_
  rintro e w2 ⟨rfl, hb2⟩
  obtain ⟨hc2, hf2⟩ := bcell hb2
  go_wp2_with fail
  refine (of_yes _ _ p1 p2).mono ?_
  rintro e w3 ⟨y', m', d', h', n', s', rfl, hv', hs, hb3⟩
  obtain ⟨rfl, rfl, rfl, rfl, rfl, rfl⟩ := secs_inj hv' hv hs
  clear hs hv'
  simp only [clkV]
  obtain ⟨hc3, hf3⟩ := bcell hb3
  go_wp2_with fail
  refine (alive_any _).mono ?_
  rintro e w4 ⟨rfl, hb4⟩
  obtain ⟨hc4, hf4⟩ := bcell hb4
  have hz1 : w.heap.size < w1.heap.size := by have := hb1.size; simp at this; omega
  have hz2 : w.heap.size < w2.heap.size := Nat.lt_of_lt_of_le hz1 hb2.size
  have hz3 : w.heap.size < w3.heap.size := Nat.lt_of_lt_of_le hz2 hb3.size
  go_wp2_with fail
  go_ret
  exact ⟨by simp, Below.snoc (Below.box (Below.snoc (Below.snoc (Below.snoc (Below.box (Below.refl _ _) _) hb1) hb2) hb3) _) hb4⟩

set_option maxRecDepth 100000 in
theorem civilEpochs_no (y m d h n s : Int) (w : World) (hv : ¬vclk y m d h n s) :
    Calls Try.prog 7 #[.agg #[.int .i64 y, .int .i64 m, .int .i64 d, .int .i64 h, .int .i64 n, .int .i64 s]] w fun e w' => e = .returned (.bool true) ∧ Below w.heap.size w w' := by
  go_enter Try.func7, Try.ntmps7
  go_wp2_with fail
  refine (epoch_no y m d h n s _ hv).mono ?_
  rintro e w1 ⟨rfl, hb1⟩
  obtain ⟨hc1, hf1⟩ := bcell hb1
  go_wp2_with fail
  refine (repoch_no y m d h n s _ hv).mono ?_
  rintro e w2 ⟨rfl, hb2⟩
  obtain ⟨hc2, hf2⟩ := bcell hb2
  go_wp2_with fail
  refine (of_yes 0 _ (by omega) (by omega)).mono ?_
  rintro e w3 ⟨y', m', d', h', n', s', rfl, hv', hs, hb3⟩
  clear hs hv'
  simp only [clkV]
  obtain ⟨hc3, hf3⟩ := bcell hb3
  go_wp2_with fail
  refine (alive_any _).mono ?_
  rintro e w4 ⟨rfl, hb4⟩
  obtain ⟨hc4, hf4⟩ := bcell hb4
  go_wp2_with fail
  go_ret
  exact ⟨by simp, Below.snoc (Below.box (Below.snoc (Below.snoc (Below.snoc (Below.box (Below.refl _ _) _) hb1) hb2) hb3) _) hb4⟩

set_option maxRecDepth 100000 in
theorem civilOf_yes (t : Int) (w : World) (h1 : -62135596800 ≤ t) (h2 : t ≤ 253402300799) :
    Calls Try.prog 8 #[.int .i64 t] w fun e w' => e = .returned (.bool true) ∧ Below w.heap.size w w' := by
  go_enter Try.func8, Try.ntmps8
  go_wp2_with fail
  refine (of_yes t _ h1 h2).mono ?_
  rintro e w1 ⟨y, m, d, h, n, s, rfl, hv, hs, hb1⟩
  have HS := Lib.hid hs
  clear hs
  simp only [clkV]
  go_wp2_with fail
  refine (rof_yes t _ h1 h2).mono ?_
  rintro e w2 ⟨y', m', d', h', n', s', rfl, hv', hs, hb2⟩
  obtain ⟨rfl, rfl, rfl, rfl, rfl, rfl⟩ := secs_inj hv' hv (hs.trans HS.out.symm)
  clear hs hv'
  simp only [clkV]
  obtain ⟨hc2, hf2⟩ := bcell hb2
  have hz2 : w1.heap.size < w2.heap.size := by have := hb2.size; simp at this; omega
  go_wp2_with fail
  refine (epoch_yes y' m' d' h' n' s' _ hv).mono ?_
  rintro e w3 ⟨rfl, hb3⟩
  rw [HS.out]
  obtain ⟨hc3, hf3⟩ := bcell hb3
  have hz3 : w2.heap.size < w3.heap.size := by have := hb3.size; simp at this; omega
  have hz4 : w1.heap.size < w3.heap.size := by omega
  go_wp2_with fail
  refine (alive_any _).mono ?_
  rintro e w4 ⟨rfl, hb4⟩
  obtain ⟨hc4, hf4⟩ := bcell hb4
  go_wp2_with fail
  go_ret
  exact ⟨by simp, Below.snoc (Below.snoc (Below.box (Below.snoc (Below.box (Below.snoc (Below.refl _ _) hb1) _) hb2) _) hb3) hb4⟩

set_option maxRecDepth 100000 in
theorem civilOf_no (t : Int) (w : World) (h : t < -62135596800 ∨ 253402300799 < t) (hw : -9223372036854775808 ≤ t ∧ t ≤ 9223372036854775807) :
    Calls Try.prog 8 #[.int .i64 t] w fun e w' => e = .returned (.bool true) ∧ Below w.heap.size w w' := by
  go_enter Try.func8, Try.ntmps8
  go_wp2_with fail
  refine (of_no t _ h hw).mono ?_
  rintro e w1 ⟨rfl, hb1⟩
  clear hw
  simp only [clkV]
  go_wp2_with fail
  refine (rof_no t _ h).mono ?_
  rintro e w2 ⟨rfl, hb2⟩
  simp only [clkV]
  obtain ⟨hc2, hf2⟩ := bcell hb2
  have hz2 : w1.heap.size < w2.heap.size := by have := hb2.size; simp at this; omega
  go_wp2_with fail
  refine (epoch_no 0 0 0 0 0 0 _ (by unfold vclk vld; omega)).mono ?_
  rintro e w3 ⟨rfl, hb3⟩
  obtain ⟨hc3, hf3⟩ := bcell hb3
  have hz3 : w2.heap.size < w3.heap.size := by have := hb3.size; simp at this; omega
  have hz4 : w1.heap.size < w3.heap.size := by omega
  go_wp2_with fail
  refine (alive_any _).mono ?_
  rintro e w4 ⟨rfl, hb4⟩
  obtain ⟨hc4, hf4⟩ := bcell hb4
  go_wp2_with fail
  go_ret
  exact ⟨by simp, Below.snoc (Below.snoc (Below.box (Below.snoc (Below.box (Below.snoc (Below.refl _ _) hb1) _) hb2) _) hb3) hb4⟩

theorem civilOf_any (t : Int) (w : World) (h : (Lit.int .i64 t).wf = true) :
    Calls Try.prog 8 #[.int .i64 t] w fun e w' => e = .returned (.bool true) ∧ Below w.heap.size w w' := by
  have hw := bounds_i64 h
  by_cases h1 : t < -62135596800 ∨ 253402300799 < t
  · exact civilOf_no t w h1 hw
  · exact civilOf_yes t w (by omega) (by omega)
end Go.Proofs.Ytceadjdficcbbaa
