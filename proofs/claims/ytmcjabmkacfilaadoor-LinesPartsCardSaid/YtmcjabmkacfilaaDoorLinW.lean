/- The contract of the reference's Tabbed. -/
import Derived.Test.YtmcjabmkacfilaaDoorLinV
namespace Go.Proofs.YtmcjabmkacfilaaDoor
open Go.RowKit Go.Shelf

theorem rhas9 (s : ByteArray) (w : World) (hs : s.size ≤ 1000000) : Calls Tryd.prog 35 #[.string s, .int .u8 9] w fun e w' => e = .returned (.bool (hasB 9 s)) ∧ w = w' := rhas_any s 9 w hs
theorem rhas10 (s : ByteArray) (w : World) (hs : s.size ≤ 1000000) : Calls Tryd.prog 35 #[.string s, .int .u8 10] w fun e w' => e = .returned (.bool (hasB 10 s)) ∧ w = w' := rhas_any s 10 w hs
theorem rhas13 (s : ByteArray) (w : World) (hs : s.size ≤ 1000000) : Calls Tryd.prog 35 #[.string s, .int .u8 13] w fun e w' => e = .returned (.bool (hasB 13 s)) ∧ w = w' := rhas_any s 13 w hs
theorem tabJ_first {q : List ByteArray} (h : 0 < q.length) : tabJ (q.take 1) = bs q[0] := by
  cases q with
  | nil => cases h
  | cons x r => exact Lib.join_one _ _
theorem tabJ_next {q : List ByteArray} {k : Nat} (hk : k < q.length) (h0 : 0 < k) : tabJ (q.take (k + 1)) = tabJ (q.take k) ++ [9] ++ bs q[k] := by
  cases q with
  | nil => cases hk
  | cons x r =>
    obtain ⟨j, rfl⟩ : ∃ j, k = j + 1 := ⟨k - 1, by omega⟩
    have hj : j < r.length := by simpa using hk
    have e : (r.map bs)[j]? = some (bs r[j]) := by rw [List.getElem?_map, List.getElem?_eq_getElem hj]; rfl
    unfold tabJ
    rw [List.take_succ_cons, List.take_succ_cons, List.map_cons, List.map_cons, Lib.join_cons, Lib.join_cons, List.map_take, List.map_take, Lib.joinTail_take_succ [9] (r.map bs) j _ e]
    simp [List.append_assoc]
theorem tabJ_le (q : List ByteArray) (k : Nat) : (tabJ (q.take k)).length ≤ (tabJ q).length := by
  cases q with
  | nil => simp
  | cons x r =>
    cases k with
    | zero => rw [List.take_zero]; exact Nat.zero_le _
    | succ j =>
      unfold tabJ
      rw [List.take_succ_cons, List.map_cons, List.map_cons, Lib.join_cons, Lib.join_cons, List.length_append, List.length_append, List.map_take]
      have := Lib.joinTail_take_le [9] (r.map bs) j
      omega
theorem tabbedO_no {q : List ByteArray} {k : Nat} (hk : k < q.length) (h : oddB q[k] = true) : tabbedO q = none := by
  unfold tabbedO
  rw [if_pos (.inr (List.any_eq_true.2 ⟨_, List.getElem_mem hk, h⟩))]
theorem any_take {q : List ByteArray} {k : Nat} (hk : k < q.length) (h : (q.take k).any oddB = false) (h1 : oddB q[k] = false) : (q.take (k + 1)).any oddB = false := by
  rw [List.take_add_one, List.getElem?_eq_getElem hk, Option.toList_some, List.any_append, h]
  simp [h1]
set_option maxRecDepth 100000 in
set_option maxHeartbeats 4000000 in
theorem rtabbed_any (v : Value) (q : List ByteArray) (w : World) (hr : RT 0 w v q) (hl : (tabJ q).length ≤ 1000000) (hq : q.length ≤ 1000000) :
    Calls Tryd.prog 19 #[v] w fun e w' => e = .returned (optV (tabbedO q)) ∧ w = w' := by
  have hv : ∃ a cp, v = .slice a q.length cp ∧ q.length ≤ cp := by obtain ⟨a, cp, rfl, hc, -⟩ := hr; exact ⟨a, cp, rfl, hc⟩
  obtain ⟨a, cp, rfl, hc⟩ := hv
  go_enter Tryd.func19, Tryd.ntmps19
  go_wp2_with fail
  go_loop [4, 5] (fun o i => ∃ (k : Nat) (O : ByteArray), k ≤ q.length ∧ i = .int .i64 k ∧ o = .string O ∧ Hid (O = mk (tabJ (q.take k))) ∧ O.size ≤ (tabJ q).length ∧ Hid ((q.take k).any oddB = false)) (fun _ i => q.length - (intOf i).toNat)
  case atStart => exact ⟨0, ⟨#[]⟩, Nat.zero_le _, rfl, rfl, Lib.hid rfl, Nat.zero_le _, Lib.hid rfl⟩
  case round =>
    obtain ⟨k, O, hk, rfl, rfl, HO, hO, HA⟩ := hrel
    by_cases hlt : k < q.length
    · obtain ⟨b, o, cp', he, -, -, hbl, hcell⟩ := hr.at hlt
      injection he with he1 he2 he3
      subst he1 he3
      have hle := tabJ_le q (k + 1)
      have hsz : q[k].size ≤ 1000000 := by
        rcases Nat.eq_zero_or_pos k with h0 | h0
        · subst h0; rw [tabJ_first hlt, ← size_bs] at hle; omega
        · rw [tabJ_next hlt h0, List.length_append, List.length_append, ← size_bs] at hle; omega
      cases h9 : hasB 9 q[k]
      · cases h10 : hasB 10 q[k]
        · cases h13 : hasB 13 q[k]
          · have H9 := Lib.hid h9
            have H10 := Lib.hid h10
            have H13 := Lib.hid h13
            have HN := Lib.hid (any_take hlt HA.out (by unfold oddB; rw [h9, h10, h13]; rfl))
            clear h9 h10 h13 HA
            rcases Nat.eq_zero_or_pos k with h0 | h0
            · subst h0
              rw [Nat.add_zero] at hcell
              have HT := Lib.hid (tabJ_first hlt)
              have hO0 : O = ⟨#[]⟩ := by rw [HO.out]; rfl
              subst hO0
              have hz0 : ((⟨#[]⟩ : ByteArray) ++ q[0]).size ≤ 9223372036854775807 := by rw [ByteArray.size_append]; show 0 + _ ≤ _; omega
              have hz1 : (⟨#[]⟩ : ByteArray).size + q[0].size ≤ 9223372036854775807 := by show 0 + _ ≤ _; omega
              have hz2 : q[0].size ≤ 9223372036854775807 := by omega
              have HE : Hid ((⟨#[]⟩ : ByteArray) ++ q[0] = mk (tabJ (q.take 1))) := Lib.hid (by rw [HT.out]; apply bs_inj; rw [bs_append, bs_mk]; rfl)
              have hz3 : ((⟨#[]⟩ : ByteArray) ++ q[0]).size ≤ (tabJ q).length := by rw [HE.out, size_mk]; exact hle
              clear HO
              go_wp2_with fail
              refine (rhas9 q[0] _ hsz).mono ?_
              rintro e w1 ⟨rfl, rfl⟩
              rw [H9.out]
              go_wp2_with fail
              refine (rhas10 q[0] _ hsz).mono ?_
              rintro e w1 ⟨rfl, rfl⟩
              rw [H10.out]
              go_wp2_with fail
              refine (rhas13 q[0] _ hsz).mono ?_
              rintro e w1 ⟨rfl, rfl⟩
              rw [H13.out]
              go_wp2_with fail
              go_round
              case rel => exact ⟨1, _, by omega, by go_num, rfl, HE, hz3, HN⟩
              case measure => simp [intOf]; omega
            · have HT := Lib.hid (tabJ_next hlt h0)
              have hpos : (0 : Int) < (k : Int) := by omega
              have hle2 := hle
              rw [HT.out, List.length_append, List.length_append, ← size_bs, List.length_singleton] at hle2
              have hOl : O.size = (tabJ (q.take k)).length := by rw [HO.out, size_mk]
              have hz0 : (O ++ (⟨#[9]⟩ : ByteArray)).size ≤ 9223372036854775807 := by rw [ByteArray.size_append]; show O.size + 1 ≤ _; omega
              have hz1 : O.size + 1 ≤ 9223372036854775807 := by omega
              have hz2 : (O ++ (⟨#[9]⟩ : ByteArray) ++ q[k]).size ≤ 9223372036854775807 := by rw [ByteArray.size_append, ByteArray.size_append]; show O.size + 1 + _ ≤ _; omega
              have hz4 : O.size + 1 + q[k].size ≤ 9223372036854775807 := by omega
              have HE : Hid (O ++ (⟨#[9]⟩ : ByteArray) ++ q[k] = mk (tabJ (q.take (k + 1)))) := Lib.hid (by rw [HT.out, HO.out]; apply bs_inj; rw [bs_append, bs_append, bs_mk, bs_mk]; rfl)
              have hz3 : (O ++ (⟨#[9]⟩ : ByteArray) ++ q[k]).size ≤ (tabJ q).length := by rw [HE.out, size_mk]; exact hle
              clear HO
              go_wp2_with fail
              refine (rhas9 q[k] _ hsz).mono ?_
              rintro e w1 ⟨rfl, rfl⟩
              rw [H9.out]
              go_wp2_with fail
              refine (rhas10 q[k] _ hsz).mono ?_
              rintro e w1 ⟨rfl, rfl⟩
              rw [H10.out]
              go_wp2_with fail
              refine (rhas13 q[k] _ hsz).mono ?_
              rintro e w1 ⟨rfl, rfl⟩
              rw [H13.out]
              go_wp2_with fail
              go_round
              case rel => exact ⟨k + 1, _, by omega, by go_num, rfl, HE, hz3, HN⟩
              case measure => simp [intOf]; omega
          · have H9 := Lib.hid h9
            have H10 := Lib.hid h10
            have H13 := Lib.hid h13
            have HN := Lib.hid (tabbedO_no hlt (by unfold oddB; rw [h9, h10, h13]; rfl))
            clear h9 h10 h13 HA HO
            go_wp2_with fail
            refine (rhas9 q[k] _ hsz).mono ?_
            rintro e w1 ⟨rfl, rfl⟩
            rw [H9.out]
            go_wp2_with fail
            refine (rhas10 q[k] _ hsz).mono ?_
            rintro e w1 ⟨rfl, rfl⟩
            rw [H10.out]
            go_wp2_with fail
            refine (rhas13 q[k] _ hsz).mono ?_
            rintro e w1 ⟨rfl, rfl⟩
            rw [H13.out]
            go_wp2_with fail
            go_ret2
            exact ⟨by rw [HN.out]; rfl, rfl⟩
        · have H9 := Lib.hid h9
          have H10 := Lib.hid h10
          have HN := Lib.hid (tabbedO_no hlt (by unfold oddB; rw [h9, h10]; rfl))
          clear h9 h10 HA HO
          go_wp2_with fail
          refine (rhas9 q[k] _ hsz).mono ?_
          rintro e w1 ⟨rfl, rfl⟩
          rw [H9.out]
          go_wp2_with fail
          refine (rhas10 q[k] _ hsz).mono ?_
          rintro e w1 ⟨rfl, rfl⟩
          rw [H10.out]
          go_wp2_with fail
          go_ret2
          exact ⟨by rw [HN.out]; rfl, rfl⟩
      · have H9 := Lib.hid h9
        have HN := Lib.hid (tabbedO_no hlt (by unfold oddB; rw [h9]; rfl))
        clear h9 HA HO
        go_wp2_with fail
        refine (rhas9 q[k] _ hsz).mono ?_
        rintro e w1 ⟨rfl, rfl⟩
        rw [H9.out]
        go_wp2_with fail
        go_ret2
        exact ⟨by rw [HN.out]; rfl, rfl⟩
    · obtain rfl : k = q.length := by omega
      rw [List.take_length] at HO HA
      rcases Nat.eq_zero_or_pos q.length with h0 | h0
      · have hq0 : q = [] := List.length_eq_zero_iff.1 h0
        subst hq0
        have HN : Hid (tabbedO [] = none) := Lib.hid rfl
        have hO0 : O = ⟨#[]⟩ := by rw [HO.out]; rfl
        subst hO0
        clear HO HA
        go_wp2_with fail
        go_ret2
        exact ⟨by rw [HN.out]; rfl, rfl⟩
      · have HN : Hid (tabbedO q = some O) := Lib.hid (by
          unfold tabbedO
          rw [if_neg (by rw [HA.out]; intro h; rcases h with h | h; · rw [h] at h0; cases h0
                         · cases h), HO.out])
        have hpos : (0 : Int) < (q.length : Int) := by omega
        have hp2 : decide ((0 : Int) < (q.length : Int)) = true := decide_eq_true hpos
        clear HO HA
        go_wp2_with fail
        go_ret2
        exact ⟨by rw [HN.out]; simp [optV], rfl⟩
end Go.Proofs.YtmcjabmkacfilaaDoor
