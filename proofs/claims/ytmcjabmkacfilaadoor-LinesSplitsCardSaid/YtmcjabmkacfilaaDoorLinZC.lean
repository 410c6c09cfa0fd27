/- The walk of LinesSplits. -/
import Derived.Test.YtmcjabmkacfilaaDoorLinZB
namespace Go.Proofs.YtmcjabmkacfilaaDoor
open Go.RowKit Go.Shelf

theorem linL_len : ∀ (n : Nat) (l : List UInt8), l.length ≤ n → Lib.lens (linL l) + (linL l).length ≤ l.length + 1 := by
  intro n
  induction n with
  | zero =>
    intro l h
    have : l = [] := List.length_eq_zero_iff.1 (by omega)
    subst this
    exact Nat.zero_le _
  | succ n ih =>
    intro l h
    rcases first_or_none 10 l with ⟨k, hf⟩ | hn
    · have hk : k < l.length := (List.getElem?_eq_some_iff.1 hf.1).1
      have hi := ih (l.drop (k + 1)) (by rw [List.length_drop]; omega)
      rw [List.length_drop] at hi
      have hc := chop_len (l.take k)
      rw [List.length_take] at hc
      rw [linL_first hf, List.length_cons]
      show (chop (l.take k)).length + Lib.lens (linL (l.drop (k + 1))) + _ ≤ _
      omega
    · by_cases hl : l = []
      · subst hl; exact Nat.zero_le _
      · rw [linL_none hn hl]
        show l.length + 0 + 1 ≤ _
        omega
theorem lines_map (s : ByteArray) : (linesS s).map bs = linL (bs s) := by
  unfold linesS
  rw [List.map_map, show bs ∘ mk = id from funext bs_mk, List.map_id]
theorem lines_sizes (s : ByteArray) : (joinL (linesS s)).length ≤ s.size + 1 ∧ (linesS s).length ≤ s.size + 1 := by
  have h := linL_len _ (bs s) (Nat.le_refl _)
  have h2 : (linesS s).length = (linL (bs s)).length := by rw [← lines_map, List.length_map]
  rw [joinL_len, lines_map, h2, size_bs]
  omega
set_option maxRecDepth 100000 in
set_option maxHeartbeats 4000000 in
theorem linesSplits_any (s : ByteArray) (w : World) (_ : s.size ≤ 140737488351232) (hm : HasMax w) :
    Calls Tryd.prog 3 #[.string s] w fun e w' => e = .returned (.bool true) ∧ Below w.heap.size w w' := by
  by_cases hbig : 2000 < s.size
  · go_enter Tryd.func3, Tryd.ntmps3
    go_wp2_with fail
    refine (alive_any _ hm).mono ?_
    rintro e w1 ⟨rfl, hb1⟩
    go_wp2_with fail
    go_ret
    exact ⟨rfl, hb1⟩
  · obtain ⟨hj, hl⟩ := lines_sizes s
    have hst : ∀ t, joinO (linesS s) = some t → t.size ≤ 100000 ∧ linesS t = linesS s := fun t ht => ⟨by rw [(joinO_back ht).2, size_mk]; omega, (joinO_back ht).1⟩
    go_enter Tryd.func3, Tryd.ntmps3
    go_wp2_with fail
    refine (split_any s _ (by omega) hm).mono ?_
    rintro e w1 ⟨v, rfl, R1, hb1⟩
    have R0 := R1.mono (Nat.zero_le _)
    clear R1
    go_wp2_with fail
    refine (rsplit_any s _ (by omega)).mono ?_
    rintro e w2 ⟨v2, rfl, R2, hb2⟩
    have R2' := R2.mono (Nat.zero_le _)
    have R1' := R0.keep hb2
    have hB2 := Lsnoc hb1 hb2
    clear R2 R0 hb1 hb2
    generalize linesS s = q at *
    go_wp2_with fail
    refine (rsame_any v v2 q q _ R1' R2' (by omega)).mono ?_
    rintro e w3 ⟨rfl, hb3⟩
    have R3 := R1'.keep hb3
    have hB3 := Lsnoc hB2 hb3
    clear R1' R2' hB2 hb3
    rw [show decide (q = q) = true from decide_eq_true rfl]
    go_wp2_with fail
    refine (join_any v q _ R3 (by omega) (by omega)).mono ?_
    rintro e w4 ⟨rfl, hb4⟩
    have R4 := R3.keep hb4
    have hB4 := Lsnoc hB3 hb4
    clear R3 hB3 hb4
    cases ho : joinO q with
    | none =>
      clear ho hst
      rw [optV]
      go_wp2_with fail
      refine (alive_any _ (max_keep hm hB4)).mono ?_
      rintro e w5 ⟨rfl, hb5⟩
      have hB5 := Lsnoc hB4 hb5
      clear hB4 hb5
      go_wp2_with fail
      go_ret
      exact ⟨by simp, hB5⟩
    | some t =>
      obtain ⟨htz, htl⟩ := hst t ho
      have HB := Lib.hid htl
      clear ho hst htl
      rw [optV]
      go_wp2_with fail
      refine (alive_any _ (max_keep hm hB4)).mono ?_
      rintro e w5 ⟨rfl, hb5⟩
      have R5 := R4.keep hb5
      have hB5 := Lsnoc hB4 hb5
      clear hB4 hb5 R4
      go_wp2_with fail
      refine (split_any t _ htz (max_keep hm hB5)).mono ?_
      rintro e w6 ⟨v6, rfl, R6, hb6⟩
      rw [HB.out] at R6
      have R6' := R6.mono (Nat.zero_le _)
      have R5' := R5.keep hb6
      have hB6 := Lsnoc hB5 hb6
      clear hB5 hb6 R5 R6
      go_wp2_with fail
      refine (rsame_any v6 v q q _ R6' R5' (by omega)).mono ?_
      rintro e w7 ⟨rfl, hb7⟩
      have hB7 := Lsnoc hB6 hb7
      clear hB6 hb7 R5' R6'
      rw [show decide (q = q) = true from decide_eq_true rfl]
      go_wp2_with fail
      go_ret
      exact ⟨by simp, hB7⟩
end Go.Proofs.YtmcjabmkacfilaaDoor
