/- Lines, each ended: the plain law; the walk of LinesJoins. -/
import Derived.Test.YtmcjabmkacfilaaDoorLinY
import Derived.Test.YtmcjabmkacfilaaDoorLinZ
namespace Go.Proofs.YtmcjabmkacfilaaDoor
open Go.RowKit Go.Shelf

theorem chop_keep {x : ByteArray} (h : endsB x 13 = false) : chop (bs x) = bs x := by
  unfold chop
  rw [if_neg]
  unfold endsB at h
  simpa using h
theorem not_mem_of_has {c : UInt8} {x : ByteArray} (h : hasB c x = false) : c ∉ bs x := by
  unfold hasB at h
  intro hm
  rw [List.contains_iff_mem.2 hm] at h
  cases h
theorem lin_join : ∀ (q : List ByteArray), q.all okJ = true → linL (joinL q) = q.map bs
  | [], _ => rfl
  | x :: r, h => by
    rw [List.all_cons, Bool.and_eq_true] at h
    have hi := lin_join r h.2
    have hx := h.1
    unfold okJ at hx
    rw [Bool.not_eq_true', Bool.or_eq_false_iff] at hx
    have e : joinL (x :: r) = bs x ++ 10 :: joinL r := by unfold joinL; simp
    have hf : FirstAt (bs x ++ 10 :: joinL r) 10 (bs x).length := by
      refine ⟨by simp, fun j hj e => ?_⟩
      rw [List.getElem?_append_left hj] at e
      exact not_mem_of_has hx.1 (List.mem_of_getElem? e)
    rw [e, linL_first hf, List.map_cons]
    congr 1
    · rw [List.take_left]
      exact chop_keep hx.2
    · rw [show (bs x ++ 10 :: joinL r).drop ((bs x).length + 1) = joinL r by simp]
      exact hi
theorem joinO_back {q : List ByteArray} {t : ByteArray} (h : joinO q = some t) : linesS t = q ∧ t = mk (joinL q) := by
  unfold joinO at h
  split at h
  · rename_i ha
    injection h with h
    subst h
    refine ⟨?_, rfl⟩
    unfold linesS
    rw [bs_mk, lin_join q ha, map_bk]
  · cases h
theorem joinL_len : ∀ (q : List ByteArray), (joinL q).length = Lib.lens (q.map bs) + q.length
  | [] => rfl
  | x :: r => by
    have hi := joinL_len r
    have e : joinL (x :: r) = bs x ++ 10 :: joinL r := by unfold joinL; simp
    rw [e, List.length_append, List.length_cons, hi, List.map_cons]
    show _ = (bs x).length + Lib.lens (r.map bs) + _
    rw [List.length_cons]
    omega
theorem joinL_sum {q : List ByteArray} (h : sumL q ≤ 2000) (h1 : q.length ≤ 100) : (joinL q).length ≤ 3000 := by
  rw [joinL_len, lens_sum q h]
  omega
set_option maxRecDepth 100000 in
set_option maxHeartbeats 4000000 in
theorem linesJoins_any (A : Option Addr) (len cap : Nat) (q : List ByteArray) (w : World) (hrow : StrRow w A len cap q) (hm : HasMax w) :
    Calls Tryd.prog 4 #[.slice A len cap] w fun e w' => e = .returned (.bool true) ∧ Below w.heap.size w w' := by
  obtain ⟨rfl, hcm, hr⟩ := hrow
  unfold maxLen at hcm
  have hcp : q.length ≤ cap := by obtain ⟨a, cp, he, hc, -⟩ := hr; injection he with _ _ he; omega
  go_enter Tryd.func4, Tryd.ntmps4
  go_wp2_with fail
  go_loop [3, 5, 12] (fun n _ i => ∃ k : Nat, k ≤ q.length ∧ i = .int .i64 k ∧ n = .int .i64 (sumL (q.take k)) ∧ sumL (q.take k) ≤ 2000 ∧ (k = 0 ∨ q.length ≤ 100)) (fun _ _ i => q.length - (intOf i).toNat)
  case atStart => exact ⟨0, Nat.zero_le _, rfl, rfl, Nat.zero_le _, .inl rfl⟩
  case round =>
    obtain ⟨k, hk, rfl, rfl, hs, h100⟩ := hrel
    by_cases hlt : k < q.length
    · obtain ⟨b, o, cp', he, -, -, hbl, hcell⟩ := hr.at hlt
      injection he with he1 he2 he3
      subst he1 he3
      have HT := Lib.hid (sumL_take hlt)
      generalize sumL (q.take k) = n at *
      by_cases hov : 2000 < n + min q[k].size 3000
      · have t1 : (2000 : Int) < (n : Int) + min (q[k].size : Int) 3000 := by omega
        have t2 : decide ((2000 : Int) < (n : Int) + min (q[k].size : Int) 3000) = true := decide_eq_true t1
        clear HT hov
        go_wp2_with fail
        refine (alive_any _ hm).mono ?_
        rintro e w1 ⟨rfl, hb1⟩
        go_wp2_with fail
        go_ret
        exact ⟨rfl, hb1⟩
      · have t1 : ¬ (2000 : Int) < (n : Int) + min (q[k].size : Int) 3000 := by omega
        have t2 : decide ((2000 : Int) < (n : Int) + min (q[k].size : Int) 3000) = false := decide_eq_false t1
        by_cases hlen : 100 < q.length
        · have l1 : (100 : Int) < (q.length : Int) := by omega
          have l2 : decide ((100 : Int) < (q.length : Int)) = true := decide_eq_true l1
          clear HT hov
          go_wp2_with fail
          refine (alive_any _ hm).mono ?_
          rintro e w1 ⟨rfl, hb1⟩
          go_wp2_with fail
          go_ret
          exact ⟨rfl, hb1⟩
        · have l1 : ¬ (100 : Int) < (q.length : Int) := by omega
          have l2 : decide ((100 : Int) < (q.length : Int)) = false := decide_eq_false l1
          have hc2 : (n : Int) + min (q[k].size : Int) 3000 = ((n + min q[k].size 3000 : Nat) : Int) := by omega
          have HC := Lib.hid hc2
          clear hc2
          go_wp2_with fail
          go_round
          case rel => exact ⟨k + 1, by omega, by go_num, by rw [HT.out, HC.out], by rw [HT.out]; omega, .inr (by omega)⟩
          case measure => simp [intOf]; omega
    · obtain rfl : k = q.length := by omega
      rw [List.take_length] at hs
      have hlen : q.length ≤ 100 := by rcases h100 with h | h <;> omega
      have hj0 := joinL_sum hs hlen
      have hj : (joinL q).length ≤ 1000000 := by omega
      have hst : ∀ t, joinO q = some t → t.size ≤ 100000 := fun t ht => by rw [(joinO_back ht).2, size_mk]; omega
      cases ho : joinO q with
      | none =>
        have HO := Lib.hid ho
        clear ho hst
        go_wp2_with fail
        refine (join_any _ q _ hr hj (by omega)).mono ?_
        rintro e w2 ⟨rfl, hb2⟩
        rw [HO.out, optV]
        have R2 := hr.keep hb2
        go_wp2_with fail
        refine (rjoin_any _ q _ R2 hj (by omega)).mono ?_
        rintro e w3 ⟨rfl, hb3⟩
        rw [HO.out, optV]
        have hB3 := Lsnoc hb2 hb3
        clear hb2 hb3 R2
        go_wp2_with fail
        refine (alive_any _ (max_keep hm hB3)).mono ?_
        rintro e w4 ⟨rfl, hb4⟩
        have hB4 := Lsnoc hB3 hb4
        clear hb4 hB3
        go_wp2_with fail
        go_ret
        exact ⟨by simp, hB4⟩
      | some t =>
        have HO := Lib.hid ho
        have HB := Lib.hid (joinO_back ho).1
        have htz := hst t ho
        have hse := str_eq t
        clear ho hst
        go_wp2_with fail
        refine (join_any _ q _ hr hj (by omega)).mono ?_
        rintro e w2 ⟨rfl, hb2⟩
        rw [HO.out, optV]
        have R2 := hr.keep hb2
        go_wp2_with fail
        refine (rjoin_any _ q _ R2 hj (by omega)).mono ?_
        rintro e w3 ⟨rfl, hb3⟩
        rw [HO.out, optV]
        have R3 := R2.keep hb3
        have hB3 := Lsnoc hb2 hb3
        clear hb2 hb3 R2
        go_wp2_with fail
        refine (alive_any _ (max_keep hm hB3)).mono ?_
        rintro e w4 ⟨rfl, hb4⟩
        have R4 := R3.keep hb4
        have hB4 := Lsnoc hB3 hb4
        clear hb4 hB3 R3
        go_wp2_with fail
        refine (split_any t _ htz (max_keep hm hB4)).mono ?_
        rintro e w5 ⟨v5, rfl, R5, hb5⟩
        rw [HB.out] at R5
        have R4' := R4.keep hb5
        have R5' := R5.mono (Nat.zero_le _)
        have hB5 := Lsnoc hB4 hb5
        clear hb5 hB4 R4 R5
        go_wp2_with fail
        refine (rsame_any v5 _ q q _ R5' R4' (by omega)).mono ?_
        rintro e w6 ⟨rfl, hb6⟩
        have hB6 := Lsnoc hB5 hb6
        clear hb6 hB5 R5' R4'
        rw [show decide (q = q) = true from decide_eq_true rfl]
        go_wp2_with fail
        go_ret
        exact ⟨by simp, hB6⟩
end Go.Proofs.YtmcjabmkacfilaaDoor
