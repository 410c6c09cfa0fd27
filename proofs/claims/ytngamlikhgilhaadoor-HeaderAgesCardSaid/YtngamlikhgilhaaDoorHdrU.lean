/- The statement HeaderAges: the walk. (printed by wip/genhdru.py) -/
import Derived.Test.YtngamlikhgilhaaDoorHdrT
namespace Go.Proofs.YtngamlikhgilhaaDoor
open Go.RowKit Go.Shelf

theorem new_hd (nm vl dm pt : ByteArray) (ex : Int) (se ho : Bool) (st : Int) (w W : World) (h : Below w.heap.size w W) : ∃ v, v = W.alloc (.cells #[.string nm, .string vl, .string dm, .string pt, .int .i64 ex, .bool se, .bool ho, .int .i64 st] 23) ∧ RB W.heap.size v ⟨nm, vl, dm, pt, ex, se, ho, st⟩ ∧ (∀ b g, RB b W g → RB b v g) ∧ Below w.heap.size w v :=
  ⟨_, rfl, RB.new W ⟨nm, vl, dm, pt, ex, se, ho, st⟩ _, fun _ _ H => H.alloc _, h.alloc h.size _⟩
theorem new_hd2 (nm vl dm pt : ByteArray) (ex ex2 : Int) (se ho : Bool) (st : Int) (w W : World) (h : Below w.heap.size w W) : ∃ v, v = (W.alloc (.cells #[.string nm, .string vl, .string dm, .string pt, .int .i64 ex, .bool se, .bool ho, .int .i64 st] 23)).alloc (.cells #[.string nm, .string vl, .string dm, .string pt, .int .i64 ex2, .bool se, .bool ho, .int .i64 st] 23) ∧ RB W.heap.size v ⟨nm, vl, dm, pt, ex, se, ho, st⟩ ∧ RB (W.heap.size + 1) v ⟨nm, vl, dm, pt, ex2, se, ho, st⟩ ∧ Below w.heap.size w v := by
  obtain ⟨v, e, r1, _, hb⟩ := new_hd nm vl dm pt ex se ho st w W h
  obtain ⟨u, e2, r3, r4, hb2⟩ := new_hd nm vl dm pt ex2 se ho st w v hb
  have hz : v.heap.size = W.heap.size + 1 := by rw [e, World.size_alloc]
  refine ⟨u, by rw [e2, e], r4 _ _ r1, hz ▸ r3, hb2⟩
theorem parV_is {o : Option Hd} {nm vl dm pt : ByteArray} {ex : Int} {se ho : Bool} {st : Int} (e : o = some ⟨nm, vl, dm, pt, ex, se, ho, st⟩) : parV o = .tuple #[.agg #[.string nm, .string vl, .string dm, .string pt, .int .i64 ex, .bool se, .bool ho, .int .i64 st], .bool true] := by rw [e]; rfl
set_option maxHeartbeats 2000000 in
set_option maxRecDepth 100000 in
theorem ages_pos (s : ByteArray) (now n : Int) (w : World) (nm vl dm pt : ByteArray) (ex : Int) (se ho : Bool) (st : Int) (hp : parH s now = some ⟨nm, vl, dm, pt, ex, se, ho, st⟩) (hs : s.size ≤ 500) (h0 : 0 < n) (h1 : n ≤ 253402300799) (hm : HasMax w) :
    Calls Tryd.prog 4 #[.string s, .int .i64 now, .int .i64 n] w fun e w' => e = .returned (.bool true) ∧ Below w.heap.size w w' := by
  have HM := Lib.hid (fun w1 (h : Below w.heap.size w w1) => max_keep hm h)
  clear hm
  obtain ⟨hn0, hn1⟩ := par_now hp
  have HV := Lib.hid (parV_is hp)
  have hz := intL_len n (by omega) h1
  have hE : agedN now n = (min (now + n) 253402300799) := if_pos h0
  have hX1 : parH (s ++ (⟨#[59, 32, 77, 97, 120, 45, 65, 103, 101, 61]⟩ : ByteArray) ++ mk (intL n)) now = some ⟨nm, vl, dm, pt, (min (now + n) 253402300799), se, ho, st⟩ := by
    rw [age_law1 n h1 hp _ (by rw [bs_append, bs_append, bs_mk, List.append_assoc]; rfl), hE]
  have hX2 : parH (s ++ (⟨#[59, 32, 77, 97, 120, 45, 65, 103, 101, 61]⟩ : ByteArray) ++ mk (intL n) ++ (⟨#[59, 32, 69, 120, 112, 105, 114, 101, 115, 61, 83, 117, 110, 44, 32, 48, 54, 32, 78, 111, 118, 32, 49, 57, 57, 52, 32, 48, 56, 58, 52, 57, 58, 51, 55, 32, 71, 77, 84]⟩ : ByteArray)) now = some ⟨nm, vl, dm, pt, (min (now + n) 253402300799), se, ho, st⟩ := by
    rw [age_law2 n h1 hp _ (by rw [bs_append, bs_append, bs_append, bs_mk, List.append_assoc, List.append_assoc]; rfl), hE]
  have hX3 : parH (s ++ (⟨#[59, 32, 77, 97, 120, 45, 65, 103, 101, 61, 120]⟩ : ByteArray) ++ mk (intL n)) now = some ⟨nm, vl, dm, pt, ex, se, ho, st⟩ :=
    age_law3 n hp _ (by rw [bs_append, bs_append, bs_mk, List.append_assoc]; rfl)
  have HV1 := Lib.hid (parV_is hX1)
  have HV2 := Lib.hid (parV_is hX2)
  have HV3 := Lib.hid (parV_is hX3)
  have HN := Lib.hid (fun w => rprint_int n (by omega) h1 w)
  clear hp hX1 hX2 hX3 hE
  generalize mk (intL n) = P at *
  have e1 : (⟨#[59, 32, 77, 97, 120, 45, 65, 103, 101, 61]⟩ : ByteArray).size = 10 := rfl
  have e2 : (⟨#[59, 32, 69, 120, 112, 105, 114, 101, 115, 61, 83, 117, 110, 44, 32, 48, 54, 32, 78, 111, 118, 32, 49, 57, 57, 52, 32, 48, 56, 58, 52, 57, 58, 51, 55, 32, 71, 77, 84]⟩ : ByteArray).size = 39 := rfl
  have e3 : (⟨#[59, 32, 77, 97, 120, 45, 65, 103, 101, 61, 120]⟩ : ByteArray).size = 11 := rfl
  have HC1 := Lib.hid (fun W => par_any (s ++ (⟨#[59, 32, 77, 97, 120, 45, 65, 103, 101, 61]⟩ : ByteArray) ++ P) now W (by rw [ByteArray.size_append, ByteArray.size_append]; omega) (by omega) (by omega))
  have HC2 := Lib.hid (fun W => par_any (s ++ (⟨#[59, 32, 77, 97, 120, 45, 65, 103, 101, 61]⟩ : ByteArray) ++ P ++ (⟨#[59, 32, 69, 120, 112, 105, 114, 101, 115, 61, 83, 117, 110, 44, 32, 48, 54, 32, 78, 111, 118, 32, 49, 57, 57, 52, 32, 48, 56, 58, 52, 57, 58, 51, 55, 32, 71, 77, 84]⟩ : ByteArray)) now W (by rw [ByteArray.size_append, ByteArray.size_append, ByteArray.size_append]; omega) (by omega) (by omega))
  have HC3 := Lib.hid (fun W => par_any (s ++ (⟨#[59, 32, 77, 97, 120, 45, 65, 103, 101, 61, 120]⟩ : ByteArray) ++ P) now W (by rw [ByteArray.size_append, ByteArray.size_append]; omega) (by omega) (by omega))
  have q1 : ¬ 9223372036854775807 < s.size + 10 := by omega
  have q2 : ¬ 9223372036854775807 < s.size + 10 + P.size := by omega
  have q3 : ¬ 9223372036854775807 < s.size + 10 + P.size + 39 := by omega
  have q4 : ¬ 9223372036854775807 < s.size + 11 := by omega
  have q5 : ¬ 9223372036854775807 < s.size + 11 + P.size := by omega
  clear e1 e2 e3
  go_enter Tryd.func4, Tryd.ntmps4
  go_wp2_with fail
  refine (par_any s now _ (by omega) (by omega) (by omega)).mono ?_
  rintro e w1 ⟨rfl, hb1⟩
  rw [HV.out]
  go_wp2_with fail
  obtain ⟨v1, ev, A7, A9, hb⟩ := new_hd2 nm vl dm pt ex (min (now + n) 253402300799) se ho st w w1 hb1
  rw [← ev]
  generalize w1.heap.size + 1 = b9 at *
  generalize w1.heap.size = b7 at *
  clear ev hb1
  refine (HN.out _).mono ?_
  rintro e u1 ⟨rfl, hu⟩
  replace A7 := A7.keep hu
  replace A9 := A9.keep hu
  replace hb := hb.trans (hu.mono hb.size)
  clear hu
  go_wp2_with fail
  refine (HC1.out _).mono ?_
  rintro e t1 ⟨rfl, hu⟩
  rw [HV1.out]
  replace A7 := A7.keep hu
  replace A9 := A9.keep hu
  replace hb := hb.trans (hu.mono hb.size)
  clear hu
  go_wp2_with fail
  obtain ⟨v2, ev, A10, hk, hb'⟩ := new_hd nm vl dm pt (min (now + n) 253402300799) se ho st w t1 hb
  rw [← ev]
  replace A7 := hk _ _ A7
  replace A9 := hk _ _ A9
  replace hb := hb'
  generalize t1.heap.size = b10 at *
  clear ev hk hb'
  refine (HN.out _).mono ?_
  rintro e u2 ⟨rfl, hu⟩
  replace A7 := A7.keep hu
  replace A9 := A9.keep hu
  replace A10 := A10.keep hu
  replace hb := hb.trans (hu.mono hb.size)
  clear hu
  go_wp2_with fail
  refine (HC2.out _).mono ?_
  rintro e t2 ⟨rfl, hu⟩
  rw [HV2.out]
  replace A7 := A7.keep hu
  replace A9 := A9.keep hu
  replace A10 := A10.keep hu
  replace hb := hb.trans (hu.mono hb.size)
  clear hu
  go_wp2_with fail
  obtain ⟨v3, ev, A12, hk, hb'⟩ := new_hd nm vl dm pt (min (now + n) 253402300799) se ho st w t2 hb
  rw [← ev]
  replace A7 := hk _ _ A7
  replace A9 := hk _ _ A9
  replace A10 := hk _ _ A10
  replace hb := hb'
  generalize t2.heap.size = b12 at *
  clear ev hk hb'
  refine (HN.out _).mono ?_
  rintro e u3 ⟨rfl, hu⟩
  replace A7 := A7.keep hu
  replace A9 := A9.keep hu
  replace A10 := A10.keep hu
  replace A12 := A12.keep hu
  replace hb := hb.trans (hu.mono hb.size)
  clear hu
  go_wp2_with fail
  refine (HC3.out _).mono ?_
  rintro e t3 ⟨rfl, hu⟩
  rw [HV3.out]
  replace A7 := A7.keep hu
  replace A9 := A9.keep hu
  replace A10 := A10.keep hu
  replace A12 := A12.keep hu
  replace hb := hb.trans (hu.mono hb.size)
  clear hu
  go_wp2_with fail
  obtain ⟨v4, ev, A14, hk, hb'⟩ := new_hd nm vl dm pt ex se ho st w t3 hb
  rw [← ev]
  replace A7 := hk _ _ A7
  replace A9 := hk _ _ A9
  replace A10 := hk _ _ A10
  replace A12 := hk _ _ A12
  replace hb := hb'
  generalize t3.heap.size = b14 at *
  clear ev hk hb'
  refine (alive_any _ (HM.out _ hb)).mono ?_
  rintro e w5 ⟨rfl, hu⟩
  replace A7 := A7.keep hu
  replace A9 := A9.keep hu
  replace A10 := A10.keep hu
  replace A12 := A12.keep hu
  replace A14 := A14.keep hu
  replace hb := hb.trans (hu.mono hb.size)
  clear hu
  obtain ⟨c7_0, c7_1, c7_2, c7_3, c7_4, c7_5, c7_6, c7_7⟩ := A7.cells
  dsimp only at c7_0 c7_1 c7_2 c7_3 c7_4 c7_5 c7_6 c7_7
  obtain ⟨c9_0, c9_1, c9_2, c9_3, c9_4, c9_5, c9_6, c9_7⟩ := A9.cells
  dsimp only at c9_0 c9_1 c9_2 c9_3 c9_4 c9_5 c9_6 c9_7
  obtain ⟨c10_0, c10_1, c10_2, c10_3, c10_4, c10_5, c10_6, c10_7⟩ := A10.cells
  dsimp only at c10_0 c10_1 c10_2 c10_3 c10_4 c10_5 c10_6 c10_7
  obtain ⟨c12_0, c12_1, c12_2, c12_3, c12_4, c12_5, c12_6, c12_7⟩ := A12.cells
  dsimp only at c12_0 c12_1 c12_2 c12_3 c12_4 c12_5 c12_6 c12_7
  obtain ⟨c14_0, c14_1, c14_2, c14_3, c14_4, c14_5, c14_6, c14_7⟩ := A14.cells
  dsimp only at c14_0 c14_1 c14_2 c14_3 c14_4 c14_5 c14_6 c14_7
  clear A7 A9 A10 A12 A14
  go_wp2_with fail
  go_ret
  exact ⟨by simp, hb⟩
set_option maxHeartbeats 2000000 in
set_option maxRecDepth 100000 in
theorem ages_neg (s : ByteArray) (now n : Int) (w : World) (nm vl dm pt : ByteArray) (ex : Int) (se ho : Bool) (st : Int) (hp : parH s now = some ⟨nm, vl, dm, pt, ex, se, ho, st⟩) (hs : s.size ≤ 500) (h0 : ¬ 0 < n) (h9 : -253402300799 ≤ n) (h1 : n ≤ 253402300799) (hm : HasMax w) :
    Calls Tryd.prog 4 #[.string s, .int .i64 now, .int .i64 n] w fun e w' => e = .returned (.bool true) ∧ Below w.heap.size w w' := by
  have HM := Lib.hid (fun w1 (h : Below w.heap.size w w1) => max_keep hm h)
  clear hm
  obtain ⟨hn0, hn1⟩ := par_now hp
  have HV := Lib.hid (parV_is hp)
  have hz := intL_len n (by omega) h1
  have hE : agedN now n = 1 := if_neg h0
  have hX1 : parH (s ++ (⟨#[59, 32, 77, 97, 120, 45, 65, 103, 101, 61]⟩ : ByteArray) ++ mk (intL n)) now = some ⟨nm, vl, dm, pt, 1, se, ho, st⟩ := by
    rw [age_law1 n h1 hp _ (by rw [bs_append, bs_append, bs_mk, List.append_assoc]; rfl), hE]
  have hX2 : parH (s ++ (⟨#[59, 32, 77, 97, 120, 45, 65, 103, 101, 61]⟩ : ByteArray) ++ mk (intL n) ++ (⟨#[59, 32, 69, 120, 112, 105, 114, 101, 115, 61, 83, 117, 110, 44, 32, 48, 54, 32, 78, 111, 118, 32, 49, 57, 57, 52, 32, 48, 56, 58, 52, 57, 58, 51, 55, 32, 71, 77, 84]⟩ : ByteArray)) now = some ⟨nm, vl, dm, pt, 1, se, ho, st⟩ := by
    rw [age_law2 n h1 hp _ (by rw [bs_append, bs_append, bs_append, bs_mk, List.append_assoc, List.append_assoc]; rfl), hE]
  have hX3 : parH (s ++ (⟨#[59, 32, 77, 97, 120, 45, 65, 103, 101, 61, 120]⟩ : ByteArray) ++ mk (intL n)) now = some ⟨nm, vl, dm, pt, ex, se, ho, st⟩ :=
    age_law3 n hp _ (by rw [bs_append, bs_append, bs_mk, List.append_assoc]; rfl)
  have HV1 := Lib.hid (parV_is hX1)
  have HV2 := Lib.hid (parV_is hX2)
  have HV3 := Lib.hid (parV_is hX3)
  have HN := Lib.hid (fun w => rprint_int n (by omega) h1 w)
  clear hp hX1 hX2 hX3 hE
  generalize mk (intL n) = P at *
  have e1 : (⟨#[59, 32, 77, 97, 120, 45, 65, 103, 101, 61]⟩ : ByteArray).size = 10 := rfl
  have e2 : (⟨#[59, 32, 69, 120, 112, 105, 114, 101, 115, 61, 83, 117, 110, 44, 32, 48, 54, 32, 78, 111, 118, 32, 49, 57, 57, 52, 32, 48, 56, 58, 52, 57, 58, 51, 55, 32, 71, 77, 84]⟩ : ByteArray).size = 39 := rfl
  have e3 : (⟨#[59, 32, 77, 97, 120, 45, 65, 103, 101, 61, 120]⟩ : ByteArray).size = 11 := rfl
  have HC1 := Lib.hid (fun W => par_any (s ++ (⟨#[59, 32, 77, 97, 120, 45, 65, 103, 101, 61]⟩ : ByteArray) ++ P) now W (by rw [ByteArray.size_append, ByteArray.size_append]; omega) (by omega) (by omega))
  have HC2 := Lib.hid (fun W => par_any (s ++ (⟨#[59, 32, 77, 97, 120, 45, 65, 103, 101, 61]⟩ : ByteArray) ++ P ++ (⟨#[59, 32, 69, 120, 112, 105, 114, 101, 115, 61, 83, 117, 110, 44, 32, 48, 54, 32, 78, 111, 118, 32, 49, 57, 57, 52, 32, 48, 56, 58, 52, 57, 58, 51, 55, 32, 71, 77, 84]⟩ : ByteArray)) now W (by rw [ByteArray.size_append, ByteArray.size_append, ByteArray.size_append]; omega) (by omega) (by omega))
  have HC3 := Lib.hid (fun W => par_any (s ++ (⟨#[59, 32, 77, 97, 120, 45, 65, 103, 101, 61, 120]⟩ : ByteArray) ++ P) now W (by rw [ByteArray.size_append, ByteArray.size_append]; omega) (by omega) (by omega))
  have q1 : ¬ 9223372036854775807 < s.size + 10 := by omega
  have q2 : ¬ 9223372036854775807 < s.size + 10 + P.size := by omega
  have q3 : ¬ 9223372036854775807 < s.size + 10 + P.size + 39 := by omega
  have q4 : ¬ 9223372036854775807 < s.size + 11 := by omega
  have q5 : ¬ 9223372036854775807 < s.size + 11 + P.size := by omega
  clear e1 e2 e3
  go_enter Tryd.func4, Tryd.ntmps4
  go_wp2_with fail
  refine (par_any s now _ (by omega) (by omega) (by omega)).mono ?_
  rintro e w1 ⟨rfl, hb1⟩
  rw [HV.out]
  go_wp2_with fail
  obtain ⟨v1, ev, A7, A9, hb⟩ := new_hd2 nm vl dm pt ex 1 se ho st w w1 hb1
  rw [← ev]
  generalize w1.heap.size + 1 = b9 at *
  generalize w1.heap.size = b7 at *
  clear ev hb1
  refine (HN.out _).mono ?_
  rintro e u1 ⟨rfl, hu⟩
  replace A7 := A7.keep hu
  replace A9 := A9.keep hu
  replace hb := hb.trans (hu.mono hb.size)
  clear hu
  go_wp2_with fail
  refine (HC1.out _).mono ?_
  rintro e t1 ⟨rfl, hu⟩
  rw [HV1.out]
  replace A7 := A7.keep hu
  replace A9 := A9.keep hu
  replace hb := hb.trans (hu.mono hb.size)
  clear hu
  go_wp2_with fail
  obtain ⟨v2, ev, A10, hk, hb'⟩ := new_hd nm vl dm pt 1 se ho st w t1 hb
  rw [← ev]
  replace A7 := hk _ _ A7
  replace A9 := hk _ _ A9
  replace hb := hb'
  generalize t1.heap.size = b10 at *
  clear ev hk hb'
  refine (HN.out _).mono ?_
  rintro e u2 ⟨rfl, hu⟩
  replace A7 := A7.keep hu
  replace A9 := A9.keep hu
  replace A10 := A10.keep hu
  replace hb := hb.trans (hu.mono hb.size)
  clear hu
  go_wp2_with fail
  refine (HC2.out _).mono ?_
  rintro e t2 ⟨rfl, hu⟩
  rw [HV2.out]
  replace A7 := A7.keep hu
  replace A9 := A9.keep hu
  replace A10 := A10.keep hu
  replace hb := hb.trans (hu.mono hb.size)
  clear hu
  go_wp2_with fail
  obtain ⟨v3, ev, A12, hk, hb'⟩ := new_hd nm vl dm pt 1 se ho st w t2 hb
  rw [← ev]
  replace A7 := hk _ _ A7
  replace A9 := hk _ _ A9
  replace A10 := hk _ _ A10
  replace hb := hb'
  generalize t2.heap.size = b12 at *
  clear ev hk hb'
  refine (HN.out _).mono ?_
  rintro e u3 ⟨rfl, hu⟩
  replace A7 := A7.keep hu
  replace A9 := A9.keep hu
  replace A10 := A10.keep hu
  replace A12 := A12.keep hu
  replace hb := hb.trans (hu.mono hb.size)
  clear hu
  go_wp2_with fail
  refine (HC3.out _).mono ?_
  rintro e t3 ⟨rfl, hu⟩
  rw [HV3.out]
  replace A7 := A7.keep hu
  replace A9 := A9.keep hu
  replace A10 := A10.keep hu
  replace A12 := A12.keep hu
  replace hb := hb.trans (hu.mono hb.size)
  clear hu
  go_wp2_with fail
  obtain ⟨v4, ev, A14, hk, hb'⟩ := new_hd nm vl dm pt ex se ho st w t3 hb
  rw [← ev]
  replace A7 := hk _ _ A7
  replace A9 := hk _ _ A9
  replace A10 := hk _ _ A10
  replace A12 := hk _ _ A12
  replace hb := hb'
  generalize t3.heap.size = b14 at *
  clear ev hk hb'
  refine (alive_any _ (HM.out _ hb)).mono ?_
  rintro e w5 ⟨rfl, hu⟩
  replace A7 := A7.keep hu
  replace A9 := A9.keep hu
  replace A10 := A10.keep hu
  replace A12 := A12.keep hu
  replace A14 := A14.keep hu
  replace hb := hb.trans (hu.mono hb.size)
  clear hu
  obtain ⟨c7_0, c7_1, c7_2, c7_3, c7_4, c7_5, c7_6, c7_7⟩ := A7.cells
  dsimp only at c7_0 c7_1 c7_2 c7_3 c7_4 c7_5 c7_6 c7_7
  obtain ⟨c9_0, c9_1, c9_2, c9_3, c9_4, c9_5, c9_6, c9_7⟩ := A9.cells
  dsimp only at c9_0 c9_1 c9_2 c9_3 c9_4 c9_5 c9_6 c9_7
  obtain ⟨c10_0, c10_1, c10_2, c10_3, c10_4, c10_5, c10_6, c10_7⟩ := A10.cells
  dsimp only at c10_0 c10_1 c10_2 c10_3 c10_4 c10_5 c10_6 c10_7
  obtain ⟨c12_0, c12_1, c12_2, c12_3, c12_4, c12_5, c12_6, c12_7⟩ := A12.cells
  dsimp only at c12_0 c12_1 c12_2 c12_3 c12_4 c12_5 c12_6 c12_7
  obtain ⟨c14_0, c14_1, c14_2, c14_3, c14_4, c14_5, c14_6, c14_7⟩ := A14.cells
  dsimp only at c14_0 c14_1 c14_2 c14_3 c14_4 c14_5 c14_6 c14_7
  clear A7 A9 A10 A12 A14
  go_wp2_with fail
  go_ret
  exact ⟨by simp, hb⟩
set_option maxRecDepth 100000 in
theorem headerAges_any (s : ByteArray) (now n : Int) (w : World) (_ : s.size ≤ 140737488351232) (hnow : (Lit.int .i64 now).wf = true) (hn : (Lit.int .i64 n).wf = true) (hm : HasMax w) :
    Calls Tryd.prog 4 #[.string s, .int .i64 now, .int .i64 n] w fun e w' => e = .returned (.bool true) ∧ Below w.heap.size w w' := by
  obtain ⟨hn0, hn1⟩ := i64_in hnow
  obtain ⟨hm0, hm1⟩ := i64_in hn
  clear hnow hn
  cases hp : parH s now with
  | none =>
    have HV := Lib.hid (parV_none hp)
    have HM := Lib.hid (fun w1 (h : Below w.heap.size w w1) => max_keep hm h)
    clear hm hp
    go_enter Tryd.func4, Tryd.ntmps4
    go_wp2_with fail
    refine (par_any s now _ (by omega) (by omega) (by omega)).mono ?_
    rintro e w1 ⟨rfl, hb1⟩
    rw [HV.out]
    go_wp2_with fail
    refine (alive_any _ (HM.out _ (hb1.alloc hb1.size _))).mono ?_
    rintro e w2 ⟨rfl, hb2⟩
    go_wp2_with fail
    go_ret
    exact ⟨rfl, (hb1.alloc hb1.size _).trans (hb2.mono (hb1.alloc hb1.size _).size)⟩
  | some h =>
    by_cases hout : 500 < s.size ∨ (s.size ≤ 500 ∧ 253402300799 < n) ∨ (s.size ≤ 500 ∧ n ≤ 253402300799 ∧ n < -253402300799)
    · have HV := Lib.hid (parV_some hp)
      have HM := Lib.hid (fun w1 (h : Below w.heap.size w w1) => max_keep hm h)
      clear hm hp
      rcases hout with hh | ⟨h3, hh⟩ | ⟨h3, h4, hh⟩
      all_goals
        go_enter Tryd.func4, Tryd.ntmps4
        go_wp2_with fail
        refine (par_any s now _ (by omega) (by omega) (by omega)).mono ?_
        rintro e w1 ⟨rfl, hb1⟩
        rw [HV.out]
        go_wp2_with fail
        refine (alive_any _ (HM.out _ (hb1.alloc hb1.size _))).mono ?_
        rintro e w2 ⟨rfl, hb2⟩
        go_wp2_with fail
        go_ret
        exact ⟨rfl, (hb1.alloc hb1.size _).trans (hb2.mono (hb1.alloc hb1.size _).size)⟩
    · obtain ⟨nm, vl, dm, pt, ex, se, ho, st⟩ := h
      by_cases h0 : 0 < n
      · exact ages_pos s now n w nm vl dm pt ex se ho st hp (by omega) h0 (by omega) hm
      · exact ages_neg s now n w nm vl dm pt ex se ho st hp (by omega) h0 (by omega) (by omega) hm
end Go.Proofs.YtngamlikhgilhaaDoor
