/- Written by backslashes: the plain law; the walk of LinesEscapes. -/
import Derived.Test.YtmcjabmkacfilaaDoorLinP
namespace Go.Proofs.YtmcjabmkacfilaaDoor
open Go.RowKit Go.Shelf

theorem unescA_esc (c : UInt8) (r : List UInt8) : unescA (escB c ++ r) = (unescA r).map (c :: ·) := by
  unfold escB
  by_cases h1 : c = 92
  · subst h1; exact unescA_two
  rw [if_neg h1]
  by_cases h2 : c = 9
  · subst h2; exact unescA_two
  rw [if_neg h2]
  by_cases h3 : c = 10
  · subst h3; exact unescA_two
  rw [if_neg h3]
  by_cases h4 : c = 13
  · subst h4; exact unescA_two
  rw [if_neg h4]
  exact unescA_plain h1
theorem unescA_all : ∀ l : List UInt8, unescA (l.flatMap escB) = some l
  | [] => by simp [unescA]
  | c :: l => by rw [List.flatMap_cons, unescA_esc, unescA_all l]; rfl
theorem unesc_esc (s : ByteArray) : unescO (escS s) = some s := by
  unfold unescO
  rw [show bs (escS s) = (bs s).flatMap escB from rfl, unescA_all]
  simp only [mk_bs, if_true]
theorem escB_no (c x : UInt8) (hx : x ∈ escB c) : x ≠ 9 ∧ x ≠ 10 ∧ x ≠ 13 := by
  unfold escB at hx
  split at hx
  · simp at hx; subst hx; decide
  split at hx
  · simp at hx; rcases hx with rfl | rfl <;> decide
  split at hx
  · simp at hx; rcases hx with rfl | rfl <;> decide
  split at hx
  · simp at hx; rcases hx with rfl | rfl <;> decide
  · simp at hx; subst hx; exact ⟨by assumption, by assumption, by assumption⟩
theorem escS_no (s : ByteArray) (c : UInt8) (hc : c = 9 ∨ c = 10) : ∀ k : Nat, (bs (escS s))[k]? ≠ some c := by
  intro k h
  have hm : c ∈ (bs s).flatMap escB := List.mem_of_getElem? h
  obtain ⟨a, -, ha⟩ := List.mem_flatMap.1 hm
  have := escB_no a c ha
  rcases hc with rfl | rfl
  · exact this.1 rfl
  · exact this.2.1 rfl
theorem esc_lines (s : ByteArray) : (linesS (escS s)).length ≤ 1 := by
  unfold linesS linL
  rw [cuts_none 10 _ (escS_no s 10 (.inr rfl)), List.length_map]
  unfold linP
  split <;> simp
theorem esc_tabs (s : ByteArray) : (tabsS (escS s)).length = 1 := by
  unfold tabsS
  rw [cuts_none 9 _ (escS_no s 9 (.inl rfl))]
  rfl
theorem escS_size (s : ByteArray) : (escS s).size ≤ 3 * s.size := by
  unfold escS
  rw [size_mk, size_bs]
  exact flat_len escB escB_len (bs s)
set_option maxRecDepth 100000 in
set_option maxHeartbeats 4000000 in
theorem linesEscapes_any (s : ByteArray) (w : World) (_ : s.size ≤ 140737488351232) (hm : HasMax w) :
    Calls Tryd.prog 7 #[.string s] w fun e w' => e = .returned (.bool true) ∧ Below w.heap.size w w' := by
  by_cases hbig : 2000 < s.size
  · go_enter Tryd.func7, Tryd.ntmps7
    go_wp2_with fail
    refine (alive_any _ hm).mono ?_
    rintro e w1 ⟨rfl, hb1⟩
    go_wp2_with fail
    go_ret
    exact ⟨rfl, hb1⟩
  · have hz := escS_size s
    have H1 := Lib.hid (show optV (unescO (escS s)) = .tuple #[.string s, .bool true] by rw [unesc_esc]; rfl)
    have hl := esc_lines s
    have ht := esc_tabs s
    go_enter Tryd.func7, Tryd.ntmps7
    go_wp2_with fail
    refine (escape_any s _ (by omega)).mono ?_
    rintro e w1 ⟨rfl, hb1⟩
    generalize hE : escS s = E at *
    have HE := Lib.hid hE
    clear hE
    go_wp2_with fail
    refine (unescape_any E _ (by omega)).mono ?_
    rintro e w2 ⟨rfl, hb2⟩
    rw [H1.out]
    have hB2 := Lsnoc hb1 hb2
    clear hb1 hb2
    go_wp2_with fail
    refine (split_any E _ (by omega) (max_keep hm hB2)).mono ?_
    rintro e w3 ⟨v, rfl, R3, hb3⟩
    have hB3 := Lsnoc hB2 hb3
    obtain ⟨a, cp, rfl, hcp, -⟩ := R3
    clear hb3 hB2
    generalize (linesS E).length = nl at *
    go_wp2_with fail
    refine (alive_any _ (max_keep hm hB3)).mono ?_
    rintro e w4 ⟨rfl, hb4⟩
    have hB4 := Lsnoc hB3 hb4
    clear hb4 hB3
    go_wp2_with fail
    refine (rescape_any s _ (by omega)).mono ?_
    rintro e w5 ⟨rfl, hb5⟩
    rw [HE.out]
    have hB5 := Lsnoc hB4 hb5
    clear hb5 hB4
    go_wp2_with fail
    refine (tabs_any E _ (by omega) (max_keep hm hB5)).mono ?_
    rintro e w6 ⟨v, rfl, R6, hb6⟩
    have hB6 := Lsnoc hB5 hb6
    clear hb6 hB5
    obtain ⟨a6, cp6, rfl, hcp6, -⟩ := R6
    rw [ht] at hcp6 ⊢
    go_wp2_with fail
    go_ret
    exact ⟨by simp, hB6⟩
end Go.Proofs.YtmcjabmkacfilaaDoor
