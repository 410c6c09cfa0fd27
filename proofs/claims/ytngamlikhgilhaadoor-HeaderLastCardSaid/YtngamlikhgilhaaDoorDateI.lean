/- Contracts: times written for archives. -/
import Derived.Test.YtngamlikhgilhaaDoorDateF
import Derived.Test.YtngamlikhgilhaaDoorQReg
namespace Go.Proofs.YtngamlikhgilhaaDoor
open Go.RowKit

theorem Bsnoc {w w1 w2 : World} (h : Below w.heap.size w w1) (h2 : Below w1.heap.size w1 w2) : Below w.heap.size w w2 := h.trans (h2.mono h.size)
theorem Bdrawn {w w1 : World} (h : Below w.heap.size w w1) (n : Nat) : Below w.heap.size w (w1.drewN n) := ⟨h.os, h.tape, h.output, h.size, h.block⟩
theorem bcellD {W w1 : World} (hb : Below W.heap.size W w1) : (∀ b o, b < W.heap.size → w1.cell? ⟨b, o, none⟩ = W.cell? ⟨b, o, none⟩) ∧ (∀ b o, b < W.heap.size → w1.frozen? ⟨b, o, none⟩ = W.frozen? ⟨b, o, none⟩) :=
  ⟨fun b o h => hb.cell (p := ⟨b, o, none⟩) h, fun b o h => hb.frozen (p := ⟨b, o, none⟩) h⟩
/-- A clock in plain numbers, and its seconds. -/
structure CkN (t : Int) (y m d h n s : Nat) : Prop where
  v : vclk y m d h n s
  t : secs y m d h n s = t
  y1 : y < 10000
  m0 : 1 ≤ m
  m1 : m ≤ 12
  d1 : d < 100
  h1 : h < 100
  n1 : n < 100
  s1 : s < 100
theorem mlen_le (b : Bool) (m : Int) : mlen b m ≤ 31 := (mlen_bd b m).2
theorem ckN_of {t y m d h n s : Int} (hv : vclk y m d h n s) (hs : secs y m d h n s = t) : ∃ y' m' d' h' n' s' : Nat, y = y' ∧ m = m' ∧ d = d' ∧ h = h' ∧ n = n' ∧ s = s' ∧ CkN t y' m' d' h' n' s' := by
  have h0 := hv
  obtain ⟨⟨a1, a2, a3, a4, a5, a6⟩, b1, b2, b3, b4, b5, b6⟩ := h0
  have := mlen_le (leapB y) m
  obtain ⟨y, rfl⟩ := Int.eq_ofNat_of_zero_le (show 0 ≤ y by omega)
  obtain ⟨m, rfl⟩ := Int.eq_ofNat_of_zero_le (show 0 ≤ m by omega)
  obtain ⟨d, rfl⟩ := Int.eq_ofNat_of_zero_le (show 0 ≤ d by omega)
  obtain ⟨h, rfl⟩ := Int.eq_ofNat_of_zero_le b1
  obtain ⟨n, rfl⟩ := Int.eq_ofNat_of_zero_le b3
  obtain ⟨s, rfl⟩ := Int.eq_ofNat_of_zero_le b5
  exact ⟨y, m, d, h, n, s, rfl, rfl, rfl, rfl, rfl, rfl, hv, hs, by omega, by omega, by omega, by omega, by omega, by omega, by omega⟩
theorem CkN.uniq {t : Int} {y m d h n s y' m' d' h' n' s' : Nat} (a : CkN t y m d h n s) (b : CkN t y' m' d' h' n' s') : y = y' ∧ m = m' ∧ d = d' ∧ h = h' ∧ n = n' ∧ s = s' := by
  obtain ⟨e1, e2, e3, e4, e5, e6⟩ := secs_inj a.v b.v (a.t.trans b.t.symm)
  exact ⟨by omega, by omega, by omega, by omega, by omega, by omega⟩
/-- Clocks of a time. -/
def ClockP (t : Int) (w : World) (e : Ending) (w' : World) : Prop := ∃ y m d h n s : Nat, CkN t y m d h n s ∧ e = .returned (.tuple #[.agg #[.int .i64 y, .int .i64 m, .int .i64 d, .int .i64 h, .int .i64 n, .int .i64 s], .bool true]) ∧ Below w.heap.size w w'
theorem clockP_of {t : Int} {w w' : World} {e : Ending} (h : OfP t w e w') : ClockP t w e w' := by
  obtain ⟨y, m, d, hh, n, s, he, hv, hs, hb⟩ := h
  obtain ⟨y', m', d', h', n', s', rfl, rfl, rfl, rfl, rfl, rfl, hc⟩ := ckN_of hv hs
  exact ⟨y', m', d', h', n', s', hc, he, hb⟩
set_option maxRecDepth 100000 in
theorem clock_no (t : Int) (w : World) (h : t < 0 ∨ 253402300799 < t) : Calls Tryd.prog 63 #[.int .i64 t] w fun e w' => e = .returned (.tuple #[.agg #[.int .i64 0, .int .i64 0, .int .i64 0, .int .i64 0, .int .i64 0, .int .i64 0], .bool false]) ∧ Below w.heap.size w w' := by
  have h' : t < 0 ∨ (¬ t < 0 ∧ 253402300799 < t) := by omega
  clear h
  rcases h' with h | ⟨h, h'⟩
  all_goals
    go_enter Tryd.func63, Tryd.ntmps63
    go_wp2_with fail
    refine bodyPost_ret (v := .tuple #[.agg #[.int .i64 0, .int .i64 0, .int .i64 0, .int .i64 0, .int .i64 0, .int .i64 0], .bool false]) (by simp [results, Tryd.results63, go_sem]) rfl ⟨rfl, ?_⟩
    exact (Below.refl _ _).alloc (Nat.le_refl _) _
set_option maxHeartbeats 1000000 in
set_option maxRecDepth 100000 in
theorem clock_yes (t : Int) (w : World) (h1 : 0 ≤ t) (h2 : t ≤ 253402300799) : Calls Tryd.prog 63 #[.int .i64 t] w (ClockP t w) := by
  have k1 : ¬ t < 0 := by omega
  have k2 : ¬ 253402300799 < t := by omega
  go_enter Tryd.func63, Tryd.ntmps63
  go_wp2_with fail
  refine (of_yes t _ (by omega) h2).mono ?_
  intro e w1 ho
  obtain ⟨y, m, d, h, n, s, hc, rfl, hb⟩ := clockP_of ho
  have HC := Lib.hid hc
  have hB := Bsnoc ((Below.refl _ w).alloc (Nat.le_refl _) _) hb
  obtain ⟨hc1, hf1⟩ := bcellD hb
  have hz1 : w.heap.size < w1.heap.size := by have := hb.size; simp at this; omega
  clear ho hc hb
  go_wp2_with fail
  refine bodyPost_ret (v := .tuple #[.agg #[.int .i64 y, .int .i64 m, .int .i64 d, .int .i64 h, .int .i64 n, .int .i64 s], .bool true]) ?res rfl ⟨y, m, d, h, n, s, HC.out, rfl, ?bel⟩
  case res => simp [results, Tryd.results63, go_sem, *]; try rfl
  case bel => repeat (first | assumption | exact Nat.le_refl _ | refine Below.setCell ?_ ?_ _)
def handS (h n s : Nat) : ByteArray := fixS 2 h ++ (⟨#[58]⟩ : ByteArray) ++ fixS 2 n ++ (⟨#[58]⟩ : ByteArray) ++ fixS 2 s
theorem handS_size (h n s : Nat) : (handS h n s).size = 8 := by
  unfold handS
  simp only [ByteArray.size_append, fixS_size]
  rfl
set_option maxHeartbeats 1000000 in
set_option maxRecDepth 100000 in
theorem hands_any (y m d h n s : Nat) (w : World) (h1 : h < 100) (n1 : n < 100) (s1 : s < 100) : Calls Tryd.prog 66 #[.agg #[.int .i64 y, .int .i64 m, .int .i64 d, .int .i64 h, .int .i64 n, .int .i64 s]] w fun e w' => e = .returned (.string (handS h n s)) ∧ Below w.heap.size w w' := by
  have zh := fixS_size 2 h
  have zn := fixS_size 2 n
  have zs := fixS_size 2 s
  have HV := Lib.hid (show handS h n s = fixS 2 h ++ (⟨#[58]⟩ : ByteArray) ++ fixS 2 n ++ (⟨#[58]⟩ : ByteArray) ++ fixS 2 s from rfl)
  have hB := (Below.refl _ w).alloc (Nat.le_refl _) (.cells #[.int .i64 y, .int .i64 m, .int .i64 d, .int .i64 h, .int .i64 n, .int .i64 s] 49)
  have q3 : ∀ x : BW (w.alloc (.cells #[.int .i64 y, .int .i64 m, .int .i64 d, .int .i64 h, .int .i64 n, .int .i64 s] 49)), x.W.cell? ⟨w.heap.size, 3, none⟩ = some (.int .i64 h) := fun x => (x.cell _ _ (by simp)).trans (by rw [World.cell?_alloc_new]; rfl)
  have q4 : ∀ x : BW (w.alloc (.cells #[.int .i64 y, .int .i64 m, .int .i64 d, .int .i64 h, .int .i64 n, .int .i64 s] 49)), x.W.cell? ⟨w.heap.size, 4, none⟩ = some (.int .i64 n) := fun x => (x.cell _ _ (by simp)).trans (by rw [World.cell?_alloc_new]; rfl)
  have q5 : ∀ x : BW (w.alloc (.cells #[.int .i64 y, .int .i64 m, .int .i64 d, .int .i64 h, .int .i64 n, .int .i64 s] 49)), x.W.cell? ⟨w.heap.size, 5, none⟩ = some (.int .i64 s) := fun x => (x.cell _ _ (by simp)).trans (by rw [World.cell?_alloc_new]; rfl)
  go_enter Tryd.func66, Tryd.ntmps66
  go_wp2_with fail
  refine wp_region_class (by kernel_rfl) (by kernel_rfl) ?_
  repeat (go_big_quiet_step (first
    | (go_at_call 65; first | with_reducible exact BW.call (fixed_2 h h1 _) | with_reducible exact BW.call (fixed_2 n n1 _) | with_reducible exact BW.call (fixed_2 s s1 _))))
  refine wpQuiet_nil ?_
  rintro Wx ⟨x, rfl⟩
  have hx := x.bel
  go_wp2_with fail
  go_ret
  exact ⟨by rw [HV.out]; rfl, Below.trans hB (hx.mono hB.size)⟩
end Go.Proofs.YtngamlikhgilhaaDoor
