/- The iterator over a text's words: its contract. -/
import Derived.Test.YtngamlikhgilhaaDoorDateD
namespace Go.Proofs.YtngamlikhgilhaaDoor
open Go.RowKit
attribute [local go_sem] Oper.semAt_some

set_option maxRecDepth 100000 in
set_option maxHeartbeats 2000000 in
theorem words1_in (n : Nat) (hn : 1 ≤ n) (l Bs : Nat) (s : ByteArray) (hs : s.size ≤ 9223372036854775806) (J Jx : List Wd → World → Prop)
    (hY : ∀ pre x W, J pre W → pre.length < s.size + 1 → YieldAt Fence.wide (n - 1) Tryd.prog l #[.string x.1] W fun e W' =>
      (e = .returned (.bool true) ∧ J (pre ++ [x]) W' ∧ W'.cell? ⟨Bs, 0, none⟩ = W.cell? ⟨Bs, 0, none⟩) ∨ (e = .returned (.bool false) ∧ Jx (pre ++ [x]) W'))
    (W : World) (hBs : W.cell? ⟨Bs, 0, none⟩ = some (.string s)) (h0 : J [] W) :
    CallsIn Fence.wide n Tryd.prog 49 #[.func (.yield l) #[] #[], .pointer (some ⟨Bs, 0, none⟩)] W fun e W' => (∃ v, e = .returned v) ∧
      ((∃ ys : List Wd, ys.map (·.1) = wordsS s ∧ J ys W') ∨ (∃ pre : List Wd, True ∧ Jx pre W')) := by
  refine callsIn_of_wp Tryd.func49 rfl trivial ?_ rfl
  simp only [Tryd.ntmps49, List.size_toArray, List.length_cons, List.length_nil, Nat.reduceAdd, Nat.reduceSub, Array.replicate_succ, Array.replicate_zero, List.push_toArray, List.append_toArray, List.nil_append, List.cons_append]
  have hro : Fence.wide.round = none := rfl
  gi_wp2
  gi_loopw [3, 4] (fun fv kv wr => ∃ (pre : List Wd) (f k : Nat), f ≤ k ∧ k ≤ s.size + 1 ∧ (k = s.size + 1 → f = k) ∧ fv = .int .i64 f ∧ kv = .int .i64 k ∧ Hid (WordsAt s pre f k) ∧ pre.length ≤ k ∧ J pre wr ∧ wr.cell? ⟨Bs, 0, none⟩ = some (.string s))
    (fun _ kv _ => s.size + 1 - (intOf kv).toNat)
  case atStart => exact ⟨[], 0, 0, Nat.le_refl _, by omega, fun h => by omega, rfl, rfl, Lib.hid (wordsAt_start s), Nat.le_refl _, h0, hBs⟩
  case round =>
    obtain ⟨pre, f, k, hf, hk, hlast, rfl, rfl, HW, hlen, hJ, hc⟩ := hrel
    have HL := Lib.hid hlast
    have HJ := Lib.hid hJ
    have HY := Lib.hid hY
    clear hlast hJ hY h0
    by_cases hk1 : k ≤ s.size
    · by_cases hk2 : k < s.size
      · cases hp : partsB ((s[k]'hk2).toNat : Int)
        · have HN := Lib.hid (wordsAt_skip HW.out hf hk2 hp)
          clear HW
          gi_wp2_with (refine ⟨trivial, ?_⟩; gi_at_call 50; refine (callsIn_wide.2 (parts_any _ _)).mono ?_; rintro e w' ⟨rfl, rfl⟩)
          go_roundw
          case rel => exact ⟨pre, f, k + 1, by omega, by omega, fun h => by omega, rfl, by go_num, HN, by omega, HJ.out, hc⟩
          case measure => simp [intOf]; omega
        · by_cases hfk : f < k
          · have hz : (s.extract f k).size ≤ 9223372036854775807 := by rw [ByteArray.size_extract]; omega
            have HN := Lib.hid (wordsAt_word HW.out hfk hk2 hp ⟨s.extract f k, hz⟩ rfl)
            obtain ⟨fn, tmps, assign, body, hy, hR⟩ := HY.out pre ⟨s.extract f k, hz⟩ wr HJ.out (by omega)
            dsimp only at hy
            clear HW
            gi_wp2_with (refine ⟨trivial, ?_⟩; gi_at_call 50; refine (callsIn_wide.2 (parts_any _ _)).mono ?_; rintro e w' ⟨rfl, rfl⟩)
            refine hR.mono ?_
            rintro e W3 (⟨rfl, hJ3, hk3⟩ | ⟨rfl, hJx3⟩)
            · rw [hc] at hk3
              have HJ3 := Lib.hid hJ3
              clear hJ3 hc hR hy HJ
              gi_wp2
              go_roundw
              case rel => exact ⟨pre ++ [⟨s.extract f k, hz⟩], k + 1, k + 1, by omega, by omega, fun h => rfl, by go_num, by go_num, HN, by rw [List.length_append]; exact Nat.add_le_add_right hlen 1, HJ3.out, hk3⟩
              case measure => simp [intOf]; omega
            · have HJ3 := Lib.hid hJx3
              clear hJx3 hc hR hy HJ
              gi_wp2
              refine bodyPost_ret (results_none rfl _ _ _) rfl ?_
              exact ⟨⟨_, rfl⟩, .inr ⟨_, trivial, HJ3.out⟩⟩
          · obtain rfl : f = k := by omega
            have HN := Lib.hid (wordsAt_none HW.out hk2 hp)
            clear HW hfk
            gi_wp2_with (refine ⟨trivial, ?_⟩; gi_at_call 50; refine (callsIn_wide.2 (parts_any _ _)).mono ?_; rintro e w' ⟨rfl, rfl⟩)
            refine ⟨fun _ h => (by cases h), ?_⟩
            gi_wp2
            go_roundw
            case rel => exact ⟨pre, f + 1, f + 1, by omega, by omega, fun h => rfl, by go_num, by go_num, HN, by omega, HJ.out, hc⟩
            case measure => simp [intOf]; omega
      · have hks : k = s.size := by omega
        have HK := Lib.hid hks
        have hnl : decide ((k : Int) < (s.size : Int)) = false := by simp; omega
        have hnl2 : ¬ (k < s.size) := hk2
        clear hks
        by_cases hfk : f < k
        · have hz : (s.extract f k).size ≤ 9223372036854775807 := by rw [ByteArray.size_extract]; omega
          have HN := Lib.hid (wordsAt_last HW.out hfk HK.out ⟨s.extract f k, hz⟩ rfl)
          obtain ⟨fn, tmps, assign, body, hy, hR⟩ := HY.out pre ⟨s.extract f k, hz⟩ wr HJ.out (by omega)
          dsimp only at hy
          clear HW
          gi_wp2
          refine ⟨trivial, ?_⟩
          gi_wp2
          refine hR.mono ?_
          rintro e W3 (⟨rfl, hJ3, hk3⟩ | ⟨rfl, hJx3⟩)
          · rw [hc] at hk3
            have HJ3 := Lib.hid hJ3
            clear hJ3 hc hR hy HJ
            gi_wp2
            go_roundw
            case rel => exact ⟨pre ++ [⟨s.extract f k, hz⟩], k + 1, k + 1, by omega, by omega, fun h => rfl, by go_num, by go_num, HN, by rw [List.length_append]; exact Nat.add_le_add_right hlen 1, HJ3.out, hk3⟩
            case measure => simp [intOf]; omega
          · have HJ3 := Lib.hid hJx3
            clear hJx3 hc hR hy HJ
            gi_wp2
            refine bodyPost_ret (results_none rfl _ _ _) rfl ?_
            exact ⟨⟨_, rfl⟩, .inr ⟨_, trivial, HJ3.out⟩⟩
        · obtain rfl : f = k := by omega
          have HN := Lib.hid (wordsAt_over HW.out HK.out)
          clear HW hfk
          gi_wp2
          refine ⟨trivial, ?_⟩
          gi_wp2
          refine ⟨fun _ h => (by cases h), ?_⟩
          gi_wp2
          go_roundw
          case rel => exact ⟨pre, f + 1, f + 1, by omega, by omega, fun h => rfl, by go_num, by go_num, HN, by omega, HJ.out, hc⟩
          case measure => simp [intOf]; omega
    · obtain rfl : f = k := HL.out (by omega)
      have HE := Lib.hid (wordsAt_end HW.out (by omega))
      have hnl : decide ((f : Int) ≤ (s.size : Int)) = false := by simp; omega
      clear HW
      gi_wp2
      go_end0
      exact ⟨⟨_, rfl⟩, .inl ⟨_, HE.out.symm, HJ.out⟩⟩
end Go.Proofs.YtngamlikhgilhaaDoor
