/- Canonical hosts: contracts of host.Canon and of the reference's, second text. -/
import Derived.Test.YtnjmhkehckhihaaDoorHostC
namespace Go.Proofs.YtnjmhkehckhihaaDoor
open Go.RowKit

theorem canon_long {s : ByteArray} (h : 64 < s.size) : canonS s = none := if_neg fun h' => by omega
theorem canon_no {s : ByteArray} (h : (dots (lowS s)).all partB = false) : canonS s = none := if_neg fun h' => by rw [h] at h'; simp at h'
theorem canon_yes {s : ByteArray} (h1 : s.size ≤ 64) (h : (dots (lowS s)).all partB = true) : canonS s = some (lowS s) := if_pos ⟨h1, h⟩
theorem canon_short {s : ByteArray} (h : s.size < 1) : canonS s = none := by
  refine canon_no ?_
  have h0 : lowS s = ⟨#[]⟩ := by
    apply bs_inj
    unfold lowS
    rw [bs_mk, List.eq_nil_of_length_eq_zero (by rw [← size_bs]; omega : (bs s).length = 0)]
    rfl
  rw [h0]
  decide
theorem canonV_none {s : ByteArray} (h : canonS s = none) : canonV (canonS s) = .tuple #[.string ByteArray.empty, .bool false] := by rw [h]; rfl
theorem canonV_some {s t : ByteArray} (h : canonS s = some t) : canonV (canonS s) = .tuple #[.string t, .bool true] := by rw [h]; rfl
theorem fresh_texts (W : World) (q : List ByteArray) : ∀ i, i < q.length → (W.alloc (.cells (q.map Value.string).toArray 9)).cell? ⟨W.heap.size, 0 + i, none⟩ = some (.string (nth q i)) := by
  intro i hi
  have h1 := heap_alloc_new W (.cells (q.map Value.string).toArray 9)
  simp only [World.cell?, h1]
  simp [hi, nth]
theorem nth_mem {q : List ByteArray} {i : Nat} (h : i < q.length) : nth q i ∈ q := by rw [nth_lt h]; exact List.getElem_mem h

set_option maxRecDepth 100000 in
theorem canon_any (s : ByteArray) (w : World) (hs : s.size ≤ 9223372036854775806) (hm : HasMax w) :
    Calls Tryd.prog 28 #[.string s] w fun e w' => e = .returned (canonV (canonS s)) ∧ Below w.heap.size w w' := by
  have HM := Lib.hid hm
  clear hm
  by_cases h64 : 64 < s.size
  · have HV := Lib.hid (canonV_none (canon_long h64))
    go_enter Tryd.func28, Tryd.ntmps28
    go_wp2_with fail
    go_ret2
    exact ⟨by rw [HV.out]; rfl, Below.refl _ _⟩
  · have hz : (lowS s).size ≤ 64 := by rw [lowS_size]; omega
    have HZ := Lib.hid hz
    have HQ := Lib.hid (dots_sizes (lowS s))
    have HL := Lib.hid (dots_len (lowS s))
    have HC := Lib.hid (Lib.countB_le ⟨#[46]⟩ (by decide) _ (lowS s) (Nat.le_refl _))
    clear hz
    go_enter Tryd.func28, Tryd.ntmps28
    go_wp2_with fail
    refine (lower_any s _ (by omega)).mono ?_
    rintro e w1 ⟨rfl, hb1⟩
    have HM1 := Lib.hid (max_keep HM.out hb1)
    go_wp2_with fail
    refine (split_any (lowS s) _ (by have := HZ.out; omega) HM1.out).mono ?_
    rintro e w2 ⟨rfl, rfl⟩
    go_wp2_with fail
    refine (right_any (dots (lowS s)) w1.heap.size 0 _ _ (by have := HZ.out; have := HL.out; have := HC.out; omega) (Nat.le_refl _) (fun i hi => by have := HQ.out _ (nth_mem hi); have := HZ.out; omega) (fresh_texts w1 _)).mono ?_
    rintro e w3 ⟨rfl, rfl⟩
    have hb2 : Below w.heap.size w (w1.alloc (.cells ((dots (lowS s)).map Value.string).toArray 9)) := hb1.alloc hb1.size _
    cases hp : (dots (lowS s)).all partB
    · have HV := Lib.hid (canonV_none (canon_no hp))
      go_wp2_with fail
      go_ret2
      exact ⟨by rw [HV.out]; rfl, hb2⟩
    · have HV := Lib.hid (canonV_some (canon_yes (by omega) hp))
      go_wp2_with fail
      go_ret2
      exact ⟨by rw [HV.out]; rfl, hb2⟩

set_option maxRecDepth 100000 in
theorem rcanon_any (s : ByteArray) (w : World) (hs : s.size ≤ 9223372036854775806) :
    Calls Tryd.prog 31 #[.string s] w fun e w' => e = .returned (canonV (canonS s)) ∧ Below w.heap.size w w' := by
  have HLS := Lib.hid (lowS_size s)
  by_cases h64 : 64 < s.size
  · have HV := Lib.hid (canonV_none (canon_long h64))
    have z1 : 64 < (lowS s).size := by rw [lowS_size]; exact h64
    go_enter Tryd.func31, Tryd.ntmps31
    go_wp2_with fail
    refine (rlower_any s _ (by omega)).mono ?_
    rintro e w1 ⟨rfl, hb1⟩
    go_wp2_with fail
    go_ret2
    exact ⟨by rw [HV.out]; rfl, hb1⟩
  by_cases h1 : s.size < 1
  · have HV := Lib.hid (canonV_none (canon_short h1))
    have z1 : (lowS s).size < 1 := by rw [lowS_size]; exact h1
    go_enter Tryd.func31, Tryd.ntmps31
    go_wp2_with fail
    refine (rlower_any s _ (by omega)).mono ?_
    rintro e w1 ⟨rfl, hb1⟩
    go_wp2_with fail
    go_ret2
    exact ⟨by rw [HV.out]; rfl, hb1⟩
  have z1 : (lowS s).size ≤ 64 := by rw [lowS_size]; omega
  have z2 : 1 ≤ (lowS s).size := by rw [lowS_size]; omega
  have HNO := Lib.hid (show ((dots (lowS s)).all partB = false → canonV (canonS s) = .tuple #[.string ByteArray.empty, .bool false]) from fun h => canonV_none (canon_no h))
  have HYES := Lib.hid (show ((dots (lowS s)).all partB = true → canonV (canonS s) = .tuple #[.string (lowS s), .bool true]) from fun h => canonV_some (canon_yes (by omega) h))
  have HQ := Lib.hid (dots_sizes (lowS s))
  have hlen : (dots (lowS s)).length ≤ 65 := by
    have h2 := dots_len (lowS s)
    have h3 := Lib.countB_le ⟨#[46]⟩ (by decide) _ (lowS s) (Nat.le_refl _)
    omega
  go_enter Tryd.func31, Tryd.ntmps31
  go_wp2_with fail
  refine (rlower_any s _ (by omega)).mono ?_
  rintro e w1 ⟨rfl, hb1⟩
  go_wp2_with fail
  refine (rparts_any (lowS s) _ z1).mono ?_
  rintro e w2 ⟨v, rfl, hb2, b, cp, rfl, hcp, hr⟩
  have hB := Below.snoc hb1 hb2
  clear hb1 hb2
  have HR := Lib.hid hr
  clear hr
  generalize hq : dots (lowS s) = q at HNO HYES HQ hlen hcp HR ⊢
  clear hq
  go_wp2_with fail
  go_loop [5] (fun i => ∃ k : Nat, k ≤ q.length ∧ i = .int .i64 k ∧ Hid (∀ j, j < k → partB (nth q j) = true)) (fun i => q.length - (intOf i).toNat)
  case atStart => exact ⟨0, Nat.zero_le _, rfl, Lib.hid (by intro j hj; omega)⟩
  case round =>
    obtain ⟨k, hk, rfl, HA⟩ := hrel
    by_cases hlt : k < q.length
    · have hc : w2.cell? ⟨b, k, none⟩ = some (.string (nth q k)) := by have := HR.out k hlt; rwa [Nat.zero_add] at this
      have hsz : (nth q k).size ≤ 9223372036854775807 := by have := HQ.out _ (nth_mem hlt); omega
      have HN := Lib.hid (not_all_nth q partB k hlt)
      have HS := Lib.hid (show partB (nth q k) = true → ∀ j, j < k + 1 → partB (nth q j) = true from fun hm j hj => by
        rcases Nat.lt_or_ge j k with h | h
        · exact HA.out j h
        · obtain rfl : j = k := by omega
          exact hm)
      generalize nth q k = t at hc hsz HN HS
      cases hp : partB t
      · have HV := Lib.hid (HNO.out (HN.out hp))
        go_wp2_with (go_at_call 43; refine (rpart_any t _ hsz).mono ?_; rintro e w' ⟨rfl, rfl⟩)
        go_ret2
        exact ⟨by rw [HV.out]; rfl, hB⟩
      · have HG := Lib.hid (HS.out hp)
        go_wp2_with (go_at_call 43; refine (rpart_any t _ hsz).mono ?_; rintro e w' ⟨rfl, rfl⟩)
        go_round
        case rel => exact ⟨k + 1, by omega, by go_num, HG⟩
        case measure => simp [intOf]; omega
    · have HV := Lib.hid (HYES.out (all_nth q partB fun j hj => HA.out j (by omega)))
      go_wp2_with fail
      go_ret2
      exact ⟨by rw [HV.out]; rfl, hB⟩
end Go.Proofs.YtnjmhkehckhihaaDoor
