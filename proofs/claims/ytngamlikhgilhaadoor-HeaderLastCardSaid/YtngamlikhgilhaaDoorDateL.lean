/- Contract: Imf. -/
import Derived.Test.YtngamlikhgilhaaDoorDateK
namespace Go.Proofs.YtngamlikhgilhaaDoor
open Go.RowKit

def dayNames : ByteArray := ⟨#[83, 117, 110, 77, 111, 110, 84, 117, 101, 87, 101, 100, 84, 104, 117, 70, 114, 105, 83, 97, 116]⟩
def monNames : ByteArray := ⟨#[74, 97, 110, 70, 101, 98, 77, 97, 114, 65, 112, 114, 77, 97, 121, 74, 117, 110, 74, 117, 108, 65, 117, 103, 83, 101, 112, 79, 99, 116, 78, 111, 118, 68, 101, 99]⟩
def dayS (k : Nat) : ByteArray := dayNames.extract (3 * k) (3 * k + 3)
def monS (k : Nat) : ByteArray := monNames.extract (3 * k) (3 * k + 3)
theorem dayS_size (k : Nat) (h : k < 7) : (dayS k).size = 3 := by unfold dayS; rw [ByteArray.size_extract, show dayNames.size = 21 from rfl]; omega
theorem monS_size (k : Nat) (h : k < 12) : (monS k).size = 3 := by unfold monS; rw [ByteArray.size_extract, show monNames.size = 36 from rfl]; omega
/-- A time as headers have it: the day of the week, the day, the month (from 0 on), the year, the hands. -/
def imfS (k d m y h n s : Nat) : ByteArray := dayS k ++ (⟨#[44, 32]⟩ : ByteArray) ++ fixS 2 d ++ (⟨#[32]⟩ : ByteArray) ++ monS m ++ (⟨#[32]⟩ : ByteArray) ++ fixS 4 y ++ (⟨#[32]⟩ : ByteArray) ++ handS h n s ++ (⟨#[32, 71, 77, 84]⟩ : ByteArray)
theorem imfS_size (k d m y h n s : Nat) (hk : k < 7) (hm : m < 12) : (imfS k d m y h n s).size = 29 := by
  unfold imfS
  simp only [ByteArray.size_append, fixS_size, handS_size, dayS_size k hk, monS_size m hm]
  rfl
def ImfP (t : Int) (w : World) (e : Ending) (w' : World) : Prop := ∃ k y m d h n s : Nat, CkN t y (m + 1) d h n s ∧ m < 12 ∧ k < 7 ∧ wday (num y ((m : Int) + 1) d) = k ∧ e = .returned (.tuple #[.string (imfS k d m y h n s), .bool true]) ∧ Below w.heap.size w w'
set_option maxRecDepth 100000 in
theorem imf_no (t : Int) (w : World) (h : t < 0 ∨ 253402300799 < t) : Calls Tryd.prog 42 #[.int .i64 t] w fun e w' => e = .returned (.tuple #[.string ⟨#[]⟩, .bool false]) ∧ Below w.heap.size w w' := by
  have H := Lib.hid h
  clear h
  go_enter Tryd.func42, Tryd.ntmps42
  go_wp2_with fail
  refine (clock_no t _ H.out).mono ?_
  rintro e w1 ⟨rfl, hb⟩
  go_wp2_with fail
  go_ret2
  exact ⟨rfl, hb.alloc hb.size _⟩
theorem wday_nat (x : Int) : ∃ k : Nat, wday x = k ∧ k < 7 := by
  have h : 0 ≤ wday x ∧ wday x < 7 := by unfold wday; omega
  obtain ⟨k, hk⟩ := Int.eq_ofNat_of_zero_le h.1
  exact ⟨k, hk, by omega⟩
theorem wday_at (x : Int) (k : Int) (W : World) (h : wday x = k) : Calls Tryd.prog 64 #[.int .i64 x] W fun e w' => e = .returned (.int .i64 k) ∧ w' = W := by
  subst h
  exact (wday_any x W).mono fun _ _ ⟨a, b⟩ => ⟨a, b.symm⟩
theorem hands_at (y m d h n s : Nat) (w : World) (h1 : h < 100) (n1 : n < 100) (s1 : s < 100) : Calls Tryd.prog 66 #[.agg #[.int .i64 y, .int .i64 ((m : Int) + 1), .int .i64 d, .int .i64 h, .int .i64 n, .int .i64 s]] w fun e w' => e = .returned (.string (handS h n s)) ∧ Below w.heap.size w w' := hands_any y (m + 1) d h n s w h1 n1 s1
set_option maxHeartbeats 2000000 in
set_option maxRecDepth 100000 in
theorem imf_yes (t : Int) (w : World) (h1 : 0 ≤ t) (h2 : t ≤ 253402300799) : Calls Tryd.prog 42 #[.int .i64 t] w (ImfP t w) := by
  go_enter Tryd.func42, Tryd.ntmps42
  go_wp2_with fail
  refine (clock_yes t _ h1 h2).mono ?_
  rintro e w1 ⟨y, m, d, h, n, s, hc, rfl, hb⟩
  have hm0 := hc.m0
  obtain ⟨m, rfl⟩ : ∃ k, m = k + 1 := ⟨m - 1, by omega⟩
  have HC := Lib.hid hc
  have HB := Lib.hid hb
  have q1 := hc.y1
  have q2 : m < 12 := by have := hc.m1; omega
  have q3 := hc.d1
  have q4 := hc.h1
  have q5 := hc.n1
  have q6 := hc.s1
  have HV := Lib.hid (show vld (y : Int) ((m : Int) + 1) d from by have h9 := hc.v.1; rw [show ((m + 1 : Nat) : Int) = (m : Int) + 1 by omega] at h9; exact h9)
  clear hc hb hm0
  obtain ⟨k, hk, hk7⟩ := wday_nat (num y ((m : Int) + 1) d)
  have HK := Lib.hid hk
  clear hk
  have zy := fixS_size 4 y
  have zd := fixS_size 2 d
  have zh := handS_size h n s
  have zk := dayS_size k hk7
  have zm := monS_size m q2
  have HI := Lib.hid (show imfS k d m y h n s = dayS k ++ (⟨#[44, 32]⟩ : ByteArray) ++ fixS 2 d ++ (⟨#[32]⟩ : ByteArray) ++ monS m ++ (⟨#[32]⟩ : ByteArray) ++ fixS 4 y ++ (⟨#[32]⟩ : ByteArray) ++ handS h n s ++ (⟨#[32, 71, 77, 84]⟩ : ByteArray) from rfl)
  go_wp2_with fail
  refine (days_yes _ _ _ _ HV.out).mono ?_
  rintro e w2 ⟨rfl, rfl⟩
  go_wp2_with fail
  go_quiet ((go_at_call 64; exact Calls.quiet_of_same (wday_at _ _ _ HK.out)))
  go_wp2_with fail
  have c0 : ∀ x : BW ((w1.alloc (.cells #[.int .i64 y, .int .i64 ((m : Int) + 1), .int .i64 d, .int .i64 h, .int .i64 n, .int .i64 s] 49)).drewN nq), x.W.cell? ⟨w1.heap.size, 0, none⟩ = some (.int .i64 y) := fun x => (x.cell _ _ (by show w1.heap.size < (w1.alloc _).heap.size; simp)).trans (by show (w1.alloc _).cell? _ = _; rw [World.cell?_alloc_new]; rfl)
  have c2 : ∀ x : BW ((w1.alloc (.cells #[.int .i64 y, .int .i64 ((m : Int) + 1), .int .i64 d, .int .i64 h, .int .i64 n, .int .i64 s] 49)).drewN nq), x.W.cell? ⟨w1.heap.size, 2, none⟩ = some (.int .i64 d) := fun x => (x.cell _ _ (by show w1.heap.size < (w1.alloc _).heap.size; simp)).trans (by show (w1.alloc _).cell? _ = _; rw [World.cell?_alloc_new]; rfl)
  have c1 : ∀ x : BW ((w1.alloc (.cells #[.int .i64 y, .int .i64 ((m : Int) + 1), .int .i64 d, .int .i64 h, .int .i64 n, .int .i64 s] 49)).drewN nq), x.W.cell? ⟨w1.heap.size, 1, none⟩ = some (.int .i64 ((m : Int) + 1)) := fun x => (x.cell _ _ (by show w1.heap.size < (w1.alloc _).heap.size; simp)).trans (by show (w1.alloc _).cell? _ = _; rw [World.cell?_alloc_new]; rfl)
  have c3 : ∀ x : BW ((w1.alloc (.cells #[.int .i64 y, .int .i64 ((m : Int) + 1), .int .i64 d, .int .i64 h, .int .i64 n, .int .i64 s] 49)).drewN nq), x.W.cell? ⟨w1.heap.size, 3, none⟩ = some (.int .i64 h) := fun x => (x.cell _ _ (by show w1.heap.size < (w1.alloc _).heap.size; simp)).trans (by show (w1.alloc _).cell? _ = _; rw [World.cell?_alloc_new]; rfl)
  have c4 : ∀ x : BW ((w1.alloc (.cells #[.int .i64 y, .int .i64 ((m : Int) + 1), .int .i64 d, .int .i64 h, .int .i64 n, .int .i64 s] 49)).drewN nq), x.W.cell? ⟨w1.heap.size, 4, none⟩ = some (.int .i64 n) := fun x => (x.cell _ _ (by show w1.heap.size < (w1.alloc _).heap.size; simp)).trans (by show (w1.alloc _).cell? _ = _; rw [World.cell?_alloc_new]; rfl)
  have c5 : ∀ x : BW ((w1.alloc (.cells #[.int .i64 y, .int .i64 ((m : Int) + 1), .int .i64 d, .int .i64 h, .int .i64 n, .int .i64 s] 49)).drewN nq), x.W.cell? ⟨w1.heap.size, 5, none⟩ = some (.int .i64 s) := fun x => (x.cell _ _ (by show w1.heap.size < (w1.alloc _).heap.size; simp)).trans (by show (w1.alloc _).cell? _ = _; rw [World.cell?_alloc_new]; rfl)
  have hBW : Below w.heap.size w ((w1.alloc (.cells #[.int .i64 y, .int .i64 ((m : Int) + 1), .int .i64 d, .int .i64 h, .int .i64 n, .int .i64 s] 49)).drewN nq) := Bdrawn (HB.out.alloc HB.out.size _) nq
  have HBW := Lib.hid hBW
  clear hBW
  have i1 : IntKind.i64.wrap (3 * (k : Int) + 3) = 3 * (k : Int) + 3 := by rw [IntKind.wrap_i64]; omega
  have i2 : IntKind.i64.wrap (3 * (m : Int) + 3) = 3 * (m : Int) + 3 := by rw [IntKind.wrap_i64]; omega
  have i3 : (0 : Int) ≤ 3 * (k : Int) := by omega
  have i4 : (0 : Int) ≤ 3 * (m : Int) := by omega
  have i5 : 3 * (k : Int) ≤ 3 * (k : Int) + 3 := by omega
  have i6 : 3 * (m : Int) ≤ 3 * (m : Int) + 3 := by omega
  have i7 : 3 * (k : Int) + 3 ≤ 21 := by omega
  have i8 : 3 * (m : Int) + 3 ≤ 36 := by omega
  have i9 : (3 * (k : Int)).toNat = 3 * k := by omega
  have i10 : (3 * (m : Int)).toNat = 3 * m := by omega
  have i11 : (3 * (k : Int) + 3).toNat = 3 * k + 3 := by omega
  have i12 : (3 * (m : Int) + 3).toNat = 3 * m + 3 := by omega
  have zk2 : ((⟨#[83, 117, 110, 77, 111, 110, 84, 117, 101, 87, 101, 100, 84, 104, 117, 70, 114, 105, 83, 97, 116]⟩ : ByteArray).extract (3 * k) (3 * k + 3)).size = 3 := zk
  have zm2 : ((⟨#[74, 97, 110, 70, 101, 98, 77, 97, 114, 65, 112, 114, 77, 97, 121, 74, 117, 110, 74, 117, 108, 65, 117, 103, 83, 101, 112, 79, 99, 116, 78, 111, 118, 68, 101, 99]⟩ : ByteArray).extract (3 * m) (3 * m + 3)).size = 3 := zm
  clear zk zm
  refine wp_region_class (by kernel_rfl) (by kernel_rfl) ?_
  repeat (go_big_quiet_step (first
    | (go_at_call 65; first | with_reducible exact BW.call (fixed_4 y q1 _) | with_reducible exact BW.call (fixed_2 d q3 _))
    | (go_at_call 66; with_reducible exact BW.call (hands_at y m d h n s _ q4 q5 q6))))
  refine wpQuiet_nil ?_
  rintro Wx ⟨x, rfl⟩
  have HX := Lib.hid x.bel
  clear i1 i2 i3 i4 i5 i6 i7 i8 i9 i10 i11 i12 c0 c1 c2 c3 c4 c5
  go_wp2_with fail
  go_ret2
  exact ⟨k, y, m, d, h, n, s, HC.out, q2, hk7, HK.out, by rw [HI.out]; rfl, Below.trans HBW.out (HX.out.mono HBW.out.size)⟩
end Go.Proofs.YtngamlikhgilhaaDoor
