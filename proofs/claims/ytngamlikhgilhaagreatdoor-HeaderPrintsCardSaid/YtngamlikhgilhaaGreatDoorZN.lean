/- Contracts: the reference's Iso and Uniso; the walks of DateIso and DateUniso. -/
import Derived.Test.YtngamlikhgilhaaGreatDoorZM
import Derived.Test.YtngamlikhgilhaaGreatDoorZC
namespace Go.Proofs.YtngamlikhgilhaaGreatDoor
open Go.RowKit

theorem rof_nat (t : Int) (w : World) (h1 : 0 ≤ t) (h2 : t ≤ 253402300799) : Calls Tryz.prog 72 #[.int .i64 t] w (ClockP t w) :=
  (rof_yes t w (by omega) h2).mono fun _ _ h => clockP_of h
def OfAny (w : World) (e : Ending) (w' : World) : Prop := ∃ (y m d h n s : Int) (b : Bool), e = .returned (.tuple #[.agg #[.int .i64 y, .int .i64 m, .int .i64 d, .int .i64 h, .int .i64 n, .int .i64 s], .bool b]) ∧ Below w.heap.size w w'
theorem rof_any (t : Int) (w : World) : Calls Tryz.prog 72 #[.int .i64 t] w (OfAny w) := by
  by_cases h : t < -62135596800 ∨ 253402300799 < t
  · exact (rof_no t w h).mono fun _ _ ⟨he, hb⟩ => ⟨_, _, _, _, _, _, _, he, hb⟩
  · exact (rof_yes t w (by omega) (by omega)).mono fun _ _ ⟨y, m, d, hh, n, s, he, _, _, hb⟩ => ⟨y, m, d, hh, n, s, true, he, hb⟩
set_option maxRecDepth 100000 in
theorem rtwo_any (n : Nat) (hn : n < 100) (w : World) : Calls Tryz.prog 74 #[.int .i64 n] w fun e w' => e = .returned (.string (fixS 2 n)) ∧ Below w.heap.size w w' := by
  go_enter Tryz.func74, Tryz.ntmps74
  go_wp2_with fail
  refine (rfixed_any n 2 (by decide) (by decide) hn _).mono ?_
  rintro e w1 ⟨rfl, hb⟩
  go_wp2_with fail
  go_ret
  exact ⟨rfl, hb⟩
theorem rfixed_4 (n : Nat) (hn : n < 10 ^ 4) (w : World) : Calls Tryz.prog 75 #[.int .i64 n, .int .i64 4] w fun e w' => e = .returned (.string (fixS 4 n)) ∧ Below w.heap.size w w' := rfixed_any n 4 (by decide) (by decide) hn w
theorem iso_flat (y m d h n s : Nat) : isoS y m d h n s = fixS 4 y ++ (⟨#[45]⟩ : ByteArray) ++ fixS 2 m ++ (⟨#[45]⟩ : ByteArray) ++ fixS 2 d ++ (⟨#[84]⟩ : ByteArray) ++ fixS 2 h ++ (⟨#[58]⟩ : ByteArray) ++ fixS 2 n ++ (⟨#[58]⟩ : ByteArray) ++ fixS 2 s ++ (⟨#[90]⟩ : ByteArray) := by
  unfold isoS handS
  simp only [ByteArray.append_assoc]
/-- Both are one. -/
theorem UnV.uniq {s : ByteArray} {v v' : Value} (a : UnV s v) (b : UnV s v') : v = v' := by
  rcases a with ⟨t, h1, rfl⟩ | ⟨h1, rfl⟩ <;> rcases b with ⟨t', h2, rfl⟩ | ⟨h2, rfl⟩
  · rw [isIso_uniq h1 h2]
  · exact absurd h1 (h2 _)
  · exact absurd h2 (h1 _)
  · rfl
theorem UnV.empty : UnV ⟨#[]⟩ (.tuple #[.int .i64 0, .bool false]) := UnV.size (by decide)
end Go.Proofs.YtngamlikhgilhaaGreatDoor
/- Contract: the reference's Imf; the walk of DateImf. -/
namespace Go.Proofs.YtngamlikhgilhaaGreatDoor
open Go.RowKit

theorem imf_flat (k d m y h n s : Nat) : imfS k d m y h n s = dayS k ++ (⟨#[44, 32]⟩ : ByteArray) ++ fixS 2 d ++ (⟨#[32]⟩ : ByteArray) ++ monS m ++ (⟨#[32]⟩ : ByteArray) ++ fixS 4 y ++ (⟨#[32]⟩ : ByteArray) ++ fixS 2 h ++ (⟨#[58]⟩ : ByteArray) ++ fixS 2 n ++ (⟨#[58]⟩ : ByteArray) ++ fixS 2 s ++ (⟨#[32, 71, 77, 84]⟩ : ByteArray) := by
  unfold imfS handS
  simp only [ByteArray.append_assoc]
theorem day_cell (W : World) (k : Nat) (hk : k < 7) : (W.alloc (.cells #[.string ⟨#[83, 117, 110]⟩, .string ⟨#[77, 111, 110]⟩, .string ⟨#[84, 117, 101]⟩, .string ⟨#[87, 101, 100]⟩, .string ⟨#[84, 104, 117]⟩, .string ⟨#[70, 114, 105]⟩, .string ⟨#[83, 97, 116]⟩] 9)).cell? ⟨W.heap.size, k, none⟩ = some (.string (dayS k)) := by
  have : k = 0 ∨ k = 1 ∨ k = 2 ∨ k = 3 ∨ k = 4 ∨ k = 5 ∨ k = 6 := by omega
  rcases this with rfl | rfl | rfl | rfl | rfl | rfl | rfl
  · rw [World.cell?_alloc_new, show dayS 0 = ⟨#[83, 117, 110]⟩ by decide]; rfl
  · rw [World.cell?_alloc_new, show dayS 1 = ⟨#[77, 111, 110]⟩ by decide]; rfl
  · rw [World.cell?_alloc_new, show dayS 2 = ⟨#[84, 117, 101]⟩ by decide]; rfl
  · rw [World.cell?_alloc_new, show dayS 3 = ⟨#[87, 101, 100]⟩ by decide]; rfl
  · rw [World.cell?_alloc_new, show dayS 4 = ⟨#[84, 104, 117]⟩ by decide]; rfl
  · rw [World.cell?_alloc_new, show dayS 5 = ⟨#[70, 114, 105]⟩ by decide]; rfl
  · rw [World.cell?_alloc_new, show dayS 6 = ⟨#[83, 97, 116]⟩ by decide]; rfl
theorem mon_cell (W : World) (k : Nat) (hk : k < 12) : (W.alloc (.cells #[.string ⟨#[74, 97, 110]⟩, .string ⟨#[70, 101, 98]⟩, .string ⟨#[77, 97, 114]⟩, .string ⟨#[65, 112, 114]⟩, .string ⟨#[77, 97, 121]⟩, .string ⟨#[74, 117, 110]⟩, .string ⟨#[74, 117, 108]⟩, .string ⟨#[65, 117, 103]⟩, .string ⟨#[83, 101, 112]⟩, .string ⟨#[79, 99, 116]⟩, .string ⟨#[78, 111, 118]⟩, .string ⟨#[68, 101, 99]⟩] 9)).cell? ⟨W.heap.size, k, none⟩ = some (.string (monS k)) := by
  have : k = 0 ∨ k = 1 ∨ k = 2 ∨ k = 3 ∨ k = 4 ∨ k = 5 ∨ k = 6 ∨ k = 7 ∨ k = 8 ∨ k = 9 ∨ k = 10 ∨ k = 11 := by omega
  rcases this with rfl | rfl | rfl | rfl | rfl | rfl | rfl | rfl | rfl | rfl | rfl | rfl
  · rw [World.cell?_alloc_new, show monS 0 = ⟨#[74, 97, 110]⟩ by decide]; rfl
  · rw [World.cell?_alloc_new, show monS 1 = ⟨#[70, 101, 98]⟩ by decide]; rfl
  · rw [World.cell?_alloc_new, show monS 2 = ⟨#[77, 97, 114]⟩ by decide]; rfl
  · rw [World.cell?_alloc_new, show monS 3 = ⟨#[65, 112, 114]⟩ by decide]; rfl
  · rw [World.cell?_alloc_new, show monS 4 = ⟨#[77, 97, 121]⟩ by decide]; rfl
  · rw [World.cell?_alloc_new, show monS 5 = ⟨#[74, 117, 110]⟩ by decide]; rfl
  · rw [World.cell?_alloc_new, show monS 6 = ⟨#[74, 117, 108]⟩ by decide]; rfl
  · rw [World.cell?_alloc_new, show monS 7 = ⟨#[65, 117, 103]⟩ by decide]; rfl
  · rw [World.cell?_alloc_new, show monS 8 = ⟨#[83, 101, 112]⟩ by decide]; rfl
  · rw [World.cell?_alloc_new, show monS 9 = ⟨#[79, 99, 116]⟩ by decide]; rfl
  · rw [World.cell?_alloc_new, show monS 10 = ⟨#[78, 111, 118]⟩ by decide]; rfl
  · rw [World.cell?_alloc_new, show monS 11 = ⟨#[68, 101, 99]⟩ by decide]; rfl
theorem rwday_at (x : Int) (k : Int) (W : World) (h : wday x = k) : Calls Tryz.prog 73 #[.int .i64 x] W fun e w' => e = .returned (.int .i64 k) ∧ W = w' := by
  subst h
  exact rwday_any x W
theorem num_div {t : Int} {y m d h n s : Nat} (hc : CkN t y m d h n s) : t / 86400 = num y m d := by
  have h1 := hc.t
  obtain ⟨b1, b2, b3, b4, b5, b6⟩ := hc.v.2
  unfold secs at h1
  omega
set_option maxRecDepth 100000 in
theorem rimf_no (t : Int) (w : World) (h : t < 0 ∨ 253402300799 < t) : Calls Tryz.prog 34 #[.int .i64 t] w fun e w' => e = .returned (.tuple #[.string ⟨#[]⟩, .bool false]) ∧ Below w.heap.size w w' := by
  have h' : t < 0 ∨ (¬ t < 0 ∧ 253402300799 < t) := by omega
  clear h
  rcases h' with h | ⟨h, h'⟩
  all_goals
    go_enter Tryz.func34, Tryz.ntmps34
    go_wp2_with fail
    refine (rof_any t _).mono ?_
    rintro e w1 ⟨y, m, d, hh, n, s, b, rfl, hb⟩
    go_wp2_with fail
    go_ret2
    exact ⟨rfl, hb.alloc hb.size _⟩
set_option maxHeartbeats 2000000 in
set_option maxRecDepth 100000 in
theorem rimf_yes (t : Int) (w : World) (h1 : 0 ≤ t) (h2 : t ≤ 253402300799) : Calls Tryz.prog 34 #[.int .i64 t] w (ImfP t w) := by
  have k1 : ¬ t < 0 := by omega
  have k2 : ¬ 253402300799 < t := by omega
  go_enter Tryz.func34, Tryz.ntmps34
  go_wp2_with fail
  refine (rof_nat t _ h1 h2).mono ?_
  rintro e w1 ⟨y, m, d, h, n, s, hc, rfl, hb⟩
  have hm0 := hc.m0
  obtain ⟨m, rfl⟩ : ∃ k, m = k + 1 := ⟨m - 1, by omega⟩
  have HC := Lib.hid hc
  have HB := Lib.hid hb
  have q1 := hc.y1
  have q2 : m < 12 := by have := hc.m1; omega
  have q3 := hc.d1
  have q4 := hc.h1
  have q5 := hc.n1
  have q6 := hc.s1
  obtain ⟨k, hk, hk7⟩ := wday_nat (num y ((m : Int) + 1) d)
  have HK := Lib.hid hk
  have HT := Lib.hid (show wday (t / 86400) = (k : Int) from by rw [num_div hc, show ((m + 1 : Nat) : Int) = (m : Int) + 1 by omega]; exact hk)
  clear hc hb hm0 hk
  have zy := fixS_size 4 y
  have z2 := fixS_size 2
  have zk := dayS_size k hk7
  have zm := monS_size m q2
  have HI := Lib.hid (imf_flat k d m y h n s)
  have i1 : (k : Int) < 7 := by omega
  have i2 : (m : Int) < 12 := by omega
  go_wp2_with fail
  refine (rwday_at _ _ _ HT.out).mono ?_
  rintro e w2 ⟨rfl, rfl⟩
  have hBW : Below w.heap.size w (((w1.alloc (.cells #[.int .i64 y, .int .i64 ((m : Int) + 1), .int .i64 d, .int .i64 h, .int .i64 n, .int .i64 s] 94)).alloc (.cells #[.string ⟨#[83, 117, 110]⟩, .string ⟨#[77, 111, 110]⟩, .string ⟨#[84, 117, 101]⟩, .string ⟨#[87, 101, 100]⟩, .string ⟨#[84, 104, 117]⟩, .string ⟨#[70, 114, 105]⟩, .string ⟨#[83, 97, 116]⟩] 9)).alloc (.cells #[.string ⟨#[74, 97, 110]⟩, .string ⟨#[70, 101, 98]⟩, .string ⟨#[77, 97, 114]⟩, .string ⟨#[65, 112, 114]⟩, .string ⟨#[77, 97, 121]⟩, .string ⟨#[74, 117, 110]⟩, .string ⟨#[74, 117, 108]⟩, .string ⟨#[65, 117, 103]⟩, .string ⟨#[83, 101, 112]⟩, .string ⟨#[79, 99, 116]⟩, .string ⟨#[78, 111, 118]⟩, .string ⟨#[68, 101, 99]⟩] 9)) := ((HB.out.alloc HB.out.size _).alloc (by have := HB.out.size; simp; omega) _).alloc (by have := HB.out.size; simp; omega) _
  have HBW := Lib.hid hBW
  clear hBW
  have c0 : ∀ x : BW (((w1.alloc (.cells #[.int .i64 y, .int .i64 ((m : Int) + 1), .int .i64 d, .int .i64 h, .int .i64 n, .int .i64 s] 94)).alloc (.cells #[.string ⟨#[83, 117, 110]⟩, .string ⟨#[77, 111, 110]⟩, .string ⟨#[84, 117, 101]⟩, .string ⟨#[87, 101, 100]⟩, .string ⟨#[84, 104, 117]⟩, .string ⟨#[70, 114, 105]⟩, .string ⟨#[83, 97, 116]⟩] 9)).alloc (.cells #[.string ⟨#[74, 97, 110]⟩, .string ⟨#[70, 101, 98]⟩, .string ⟨#[77, 97, 114]⟩, .string ⟨#[65, 112, 114]⟩, .string ⟨#[77, 97, 121]⟩, .string ⟨#[74, 117, 110]⟩, .string ⟨#[74, 117, 108]⟩, .string ⟨#[65, 117, 103]⟩, .string ⟨#[83, 101, 112]⟩, .string ⟨#[79, 99, 116]⟩, .string ⟨#[78, 111, 118]⟩, .string ⟨#[68, 101, 99]⟩] 9)), x.W.cell? ⟨w1.heap.size, 0, none⟩ = some (.int .i64 y) := fun x => (x.cell _ _ (by simp <;> omega)).trans (by rw [World.cell?_alloc_lt _ _ _ (by simp <;> omega), World.cell?_alloc_lt _ _ _ (by simp <;> omega), World.cell?_alloc_new]; rfl)
  have c1 : ∀ x : BW (((w1.alloc (.cells #[.int .i64 y, .int .i64 ((m : Int) + 1), .int .i64 d, .int .i64 h, .int .i64 n, .int .i64 s] 94)).alloc (.cells #[.string ⟨#[83, 117, 110]⟩, .string ⟨#[77, 111, 110]⟩, .string ⟨#[84, 117, 101]⟩, .string ⟨#[87, 101, 100]⟩, .string ⟨#[84, 104, 117]⟩, .string ⟨#[70, 114, 105]⟩, .string ⟨#[83, 97, 116]⟩] 9)).alloc (.cells #[.string ⟨#[74, 97, 110]⟩, .string ⟨#[70, 101, 98]⟩, .string ⟨#[77, 97, 114]⟩, .string ⟨#[65, 112, 114]⟩, .string ⟨#[77, 97, 121]⟩, .string ⟨#[74, 117, 110]⟩, .string ⟨#[74, 117, 108]⟩, .string ⟨#[65, 117, 103]⟩, .string ⟨#[83, 101, 112]⟩, .string ⟨#[79, 99, 116]⟩, .string ⟨#[78, 111, 118]⟩, .string ⟨#[68, 101, 99]⟩] 9)), x.W.cell? ⟨w1.heap.size, 1, none⟩ = some (.int .i64 ((m : Int) + 1)) := fun x => (x.cell _ _ (by simp <;> omega)).trans (by rw [World.cell?_alloc_lt _ _ _ (by simp <;> omega), World.cell?_alloc_lt _ _ _ (by simp <;> omega), World.cell?_alloc_new]; rfl)
  have c2 : ∀ x : BW (((w1.alloc (.cells #[.int .i64 y, .int .i64 ((m : Int) + 1), .int .i64 d, .int .i64 h, .int .i64 n, .int .i64 s] 94)).alloc (.cells #[.string ⟨#[83, 117, 110]⟩, .string ⟨#[77, 111, 110]⟩, .string ⟨#[84, 117, 101]⟩, .string ⟨#[87, 101, 100]⟩, .string ⟨#[84, 104, 117]⟩, .string ⟨#[70, 114, 105]⟩, .string ⟨#[83, 97, 116]⟩] 9)).alloc (.cells #[.string ⟨#[74, 97, 110]⟩, .string ⟨#[70, 101, 98]⟩, .string ⟨#[77, 97, 114]⟩, .string ⟨#[65, 112, 114]⟩, .string ⟨#[77, 97, 121]⟩, .string ⟨#[74, 117, 110]⟩, .string ⟨#[74, 117, 108]⟩, .string ⟨#[65, 117, 103]⟩, .string ⟨#[83, 101, 112]⟩, .string ⟨#[79, 99, 116]⟩, .string ⟨#[78, 111, 118]⟩, .string ⟨#[68, 101, 99]⟩] 9)), x.W.cell? ⟨w1.heap.size, 2, none⟩ = some (.int .i64 d) := fun x => (x.cell _ _ (by simp <;> omega)).trans (by rw [World.cell?_alloc_lt _ _ _ (by simp <;> omega), World.cell?_alloc_lt _ _ _ (by simp <;> omega), World.cell?_alloc_new]; rfl)
  have c3 : ∀ x : BW (((w1.alloc (.cells #[.int .i64 y, .int .i64 ((m : Int) + 1), .int .i64 d, .int .i64 h, .int .i64 n, .int .i64 s] 94)).alloc (.cells #[.string ⟨#[83, 117, 110]⟩, .string ⟨#[77, 111, 110]⟩, .string ⟨#[84, 117, 101]⟩, .string ⟨#[87, 101, 100]⟩, .string ⟨#[84, 104, 117]⟩, .string ⟨#[70, 114, 105]⟩, .string ⟨#[83, 97, 116]⟩] 9)).alloc (.cells #[.string ⟨#[74, 97, 110]⟩, .string ⟨#[70, 101, 98]⟩, .string ⟨#[77, 97, 114]⟩, .string ⟨#[65, 112, 114]⟩, .string ⟨#[77, 97, 121]⟩, .string ⟨#[74, 117, 110]⟩, .string ⟨#[74, 117, 108]⟩, .string ⟨#[65, 117, 103]⟩, .string ⟨#[83, 101, 112]⟩, .string ⟨#[79, 99, 116]⟩, .string ⟨#[78, 111, 118]⟩, .string ⟨#[68, 101, 99]⟩] 9)), x.W.cell? ⟨w1.heap.size, 3, none⟩ = some (.int .i64 h) := fun x => (x.cell _ _ (by simp <;> omega)).trans (by rw [World.cell?_alloc_lt _ _ _ (by simp <;> omega), World.cell?_alloc_lt _ _ _ (by simp <;> omega), World.cell?_alloc_new]; rfl)
  have c4 : ∀ x : BW (((w1.alloc (.cells #[.int .i64 y, .int .i64 ((m : Int) + 1), .int .i64 d, .int .i64 h, .int .i64 n, .int .i64 s] 94)).alloc (.cells #[.string ⟨#[83, 117, 110]⟩, .string ⟨#[77, 111, 110]⟩, .string ⟨#[84, 117, 101]⟩, .string ⟨#[87, 101, 100]⟩, .string ⟨#[84, 104, 117]⟩, .string ⟨#[70, 114, 105]⟩, .string ⟨#[83, 97, 116]⟩] 9)).alloc (.cells #[.string ⟨#[74, 97, 110]⟩, .string ⟨#[70, 101, 98]⟩, .string ⟨#[77, 97, 114]⟩, .string ⟨#[65, 112, 114]⟩, .string ⟨#[77, 97, 121]⟩, .string ⟨#[74, 117, 110]⟩, .string ⟨#[74, 117, 108]⟩, .string ⟨#[65, 117, 103]⟩, .string ⟨#[83, 101, 112]⟩, .string ⟨#[79, 99, 116]⟩, .string ⟨#[78, 111, 118]⟩, .string ⟨#[68, 101, 99]⟩] 9)), x.W.cell? ⟨w1.heap.size, 4, none⟩ = some (.int .i64 n) := fun x => (x.cell _ _ (by simp <;> omega)).trans (by rw [World.cell?_alloc_lt _ _ _ (by simp <;> omega), World.cell?_alloc_lt _ _ _ (by simp <;> omega), World.cell?_alloc_new]; rfl)
  have c5 : ∀ x : BW (((w1.alloc (.cells #[.int .i64 y, .int .i64 ((m : Int) + 1), .int .i64 d, .int .i64 h, .int .i64 n, .int .i64 s] 94)).alloc (.cells #[.string ⟨#[83, 117, 110]⟩, .string ⟨#[77, 111, 110]⟩, .string ⟨#[84, 117, 101]⟩, .string ⟨#[87, 101, 100]⟩, .string ⟨#[84, 104, 117]⟩, .string ⟨#[70, 114, 105]⟩, .string ⟨#[83, 97, 116]⟩] 9)).alloc (.cells #[.string ⟨#[74, 97, 110]⟩, .string ⟨#[70, 101, 98]⟩, .string ⟨#[77, 97, 114]⟩, .string ⟨#[65, 112, 114]⟩, .string ⟨#[77, 97, 121]⟩, .string ⟨#[74, 117, 110]⟩, .string ⟨#[74, 117, 108]⟩, .string ⟨#[65, 117, 103]⟩, .string ⟨#[83, 101, 112]⟩, .string ⟨#[79, 99, 116]⟩, .string ⟨#[78, 111, 118]⟩, .string ⟨#[68, 101, 99]⟩] 9)), x.W.cell? ⟨w1.heap.size, 5, none⟩ = some (.int .i64 s) := fun x => (x.cell _ _ (by simp <;> omega)).trans (by rw [World.cell?_alloc_lt _ _ _ (by simp <;> omega), World.cell?_alloc_lt _ _ _ (by simp <;> omega), World.cell?_alloc_new]; rfl)
  have c6 : ∀ x : BW (((w1.alloc (.cells #[.int .i64 y, .int .i64 ((m : Int) + 1), .int .i64 d, .int .i64 h, .int .i64 n, .int .i64 s] 94)).alloc (.cells #[.string ⟨#[83, 117, 110]⟩, .string ⟨#[77, 111, 110]⟩, .string ⟨#[84, 117, 101]⟩, .string ⟨#[87, 101, 100]⟩, .string ⟨#[84, 104, 117]⟩, .string ⟨#[70, 114, 105]⟩, .string ⟨#[83, 97, 116]⟩] 9)).alloc (.cells #[.string ⟨#[74, 97, 110]⟩, .string ⟨#[70, 101, 98]⟩, .string ⟨#[77, 97, 114]⟩, .string ⟨#[65, 112, 114]⟩, .string ⟨#[77, 97, 121]⟩, .string ⟨#[74, 117, 110]⟩, .string ⟨#[74, 117, 108]⟩, .string ⟨#[65, 117, 103]⟩, .string ⟨#[83, 101, 112]⟩, .string ⟨#[79, 99, 116]⟩, .string ⟨#[78, 111, 118]⟩, .string ⟨#[68, 101, 99]⟩] 9)), x.W.cell? ⟨w1.heap.size + 1, k, none⟩ = some (.string (dayS k)) := fun x => (x.cell _ _ (by simp <;> omega)).trans (by rw [World.cell?_alloc_lt _ _ _ (by simp <;> omega)]; have h9 := day_cell (w1.alloc (.cells #[.int .i64 y, .int .i64 ((m : Int) + 1), .int .i64 d, .int .i64 h, .int .i64 n, .int .i64 s] 94)) k hk7; rw [World.size_alloc] at h9; exact h9)
  have c7 : ∀ x : BW (((w1.alloc (.cells #[.int .i64 y, .int .i64 ((m : Int) + 1), .int .i64 d, .int .i64 h, .int .i64 n, .int .i64 s] 94)).alloc (.cells #[.string ⟨#[83, 117, 110]⟩, .string ⟨#[77, 111, 110]⟩, .string ⟨#[84, 117, 101]⟩, .string ⟨#[87, 101, 100]⟩, .string ⟨#[84, 104, 117]⟩, .string ⟨#[70, 114, 105]⟩, .string ⟨#[83, 97, 116]⟩] 9)).alloc (.cells #[.string ⟨#[74, 97, 110]⟩, .string ⟨#[70, 101, 98]⟩, .string ⟨#[77, 97, 114]⟩, .string ⟨#[65, 112, 114]⟩, .string ⟨#[77, 97, 121]⟩, .string ⟨#[74, 117, 110]⟩, .string ⟨#[74, 117, 108]⟩, .string ⟨#[65, 117, 103]⟩, .string ⟨#[83, 101, 112]⟩, .string ⟨#[79, 99, 116]⟩, .string ⟨#[78, 111, 118]⟩, .string ⟨#[68, 101, 99]⟩] 9)), x.W.cell? ⟨w1.heap.size + 1 + 1, m, none⟩ = some (.string (monS m)) := fun x => (x.cell _ _ (by simp <;> omega)).trans (by have h9 := mon_cell ((w1.alloc (.cells #[.int .i64 y, .int .i64 ((m : Int) + 1), .int .i64 d, .int .i64 h, .int .i64 n, .int .i64 s] 94)).alloc (.cells #[.string ⟨#[83, 117, 110]⟩, .string ⟨#[77, 111, 110]⟩, .string ⟨#[84, 117, 101]⟩, .string ⟨#[87, 101, 100]⟩, .string ⟨#[84, 104, 117]⟩, .string ⟨#[70, 114, 105]⟩, .string ⟨#[83, 97, 116]⟩] 9)) m q2; rw [World.size_alloc, World.size_alloc] at h9; exact h9)
  go_wp2_with fail
  refine wp_region_class (by kernel_rfl) (by kernel_rfl) ?_
  repeat (go_big_quiet_step (first
    | (go_at_call 75; with_reducible exact BW.call (rfixed_4 y q1 _))
    | (go_at_call 74; first | with_reducible exact BW.call (rtwo_any d q3 _) | with_reducible exact BW.call (rtwo_any h q4 _) | with_reducible exact BW.call (rtwo_any n q5 _) | with_reducible exact BW.call (rtwo_any s q6 _))))
  refine wpQuiet_nil ?_
  rintro Wx ⟨x, rfl⟩
  have HX := Lib.hid x.bel
  clear c0 c1 c2 c3 c4 c5 c6 c7
  go_wp2_with fail
  go_ret2
  exact ⟨k, y, m, d, h, n, s, HC.out, q2, hk7, HK.out, by rw [HI.out]; rfl, Below.trans HBW.out (HX.out.mono HBW.out.size)⟩
theorem rimf_at (t : Int) {k y m d h n s : Nat} (hc : CkN t y (m + 1) d h n s) (hk : wday (num y ((m : Int) + 1) d) = k) (w : World) (h1 : 0 ≤ t) (h2 : t ≤ 253402300799) : Calls Tryz.prog 34 #[.int .i64 t] w fun e w' => e = .returned (.tuple #[.string (imfS k d m y h n s), .bool true]) ∧ Below w.heap.size w w' := by
  refine (rimf_yes t w h1 h2).mono ?_
  rintro e w' ⟨k', y', m', d', h', n', s', hc', hm', hk7', hk', rfl, hb⟩
  obtain ⟨rfl, e2, rfl, rfl, rfl, rfl⟩ := hc.uniq hc'
  obtain rfl : m = m' := by omega
  obtain rfl : k = k' := by omega
  exact ⟨rfl, hb⟩
theorem cookie_empty : cookieV (⟨#[]⟩ : ByteArray) = .tuple #[.int .i64 0, .bool false] := by kernel_rfl
end Go.Proofs.YtngamlikhgilhaaGreatDoor
