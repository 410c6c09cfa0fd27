/- Fields: the plain law; the walks of LinesTabs and LinesTabbed. -/
import Derived.Test.YtmcjabmkacfilaaDoorLinW
import Derived.SliceStrings
namespace Go.Proofs.YtmcjabmkacfilaaDoor
open Go.RowKit Go.Shelf

theorem join_two (x y : List UInt8) (r : List (List UInt8)) (c : UInt8) : Lib.join (x :: y :: r) [c] = x ++ c :: Lib.join (y :: r) [c] := by
  rw [Lib.join_cons, Lib.join_cons]
  simp [Lib.joinTail]
theorem first_or_none (c : UInt8) (l : List UInt8) : (∃ k, FirstAt l c k) ∨ ∀ k : Nat, l[k]? ≠ some c := by
  by_cases h : 0 ≤ Lib.indexByte l c
  · refine .inl ⟨(Lib.indexByte l c).toNat, ?_⟩
    have h2 : Lib.indexByte l c = ((Lib.indexByte l c).toNat : Int) := by omega
    exact Lib.indexByte_some h2
  · have := Lib.indexByte_ge l c
    exact .inr (Lib.indexByte_none (by omega))
theorem cuts_join (c : UInt8) : ∀ (n : Nat) (l : List UInt8), l.length ≤ n → Lib.join (cuts c l) [c] = l := by
  intro n
  induction n with
  | zero =>
    intro l h
    have : l = [] := List.length_eq_zero_iff.1 (by omega)
    subst this
    rfl
  | succ n ih =>
    intro l h
    rcases first_or_none c l with ⟨k, hf⟩ | hn
    · have hk : k < l.length := (List.getElem?_eq_some_iff.1 hf.1).1
      have hc : l[k] = c := by have := hf.1; rw [List.getElem?_eq_getElem hk] at this; injection this
      have hi := ih (l.drop (k + 1)) (by rw [List.length_drop]; omega)
      rw [cuts_first c l k hf]
      cases hd : cuts c (l.drop (k + 1)) with
      | nil => exact absurd hd (cuts_ne _ _)
      | cons y r =>
        rw [join_two, ← hd, hi]
        conv => rhs; rw [← List.take_append_drop k l, List.drop_eq_getElem_cons hk, hc]
    · rw [cuts_none c l hn]
      exact Lib.join_one _ _
theorem join_cuts (c : UInt8) : ∀ (q : List (List UInt8)), q ≠ [] → (∀ x ∈ q, c ∉ x) → cuts c (Lib.join q [c]) = q
  | [], h, _ => absurd rfl h
  | [x], _, h => by
    rw [Lib.join_one]
    exact cuts_none c x (fun k hk => h x (by simp) (List.mem_of_getElem? hk))
  | x :: y :: r, _, h => by
    rw [join_two]
    have hf : FirstAt (x ++ c :: Lib.join (y :: r) [c]) c x.length := by
      refine ⟨by simp, fun j hj e => ?_⟩
      rw [List.getElem?_append_left hj] at e
      exact h x (by simp) (List.mem_of_getElem? e)
    rw [cuts_first c _ _ hf]
    congr 1
    · simp
    · rw [show (x ++ c :: Lib.join (y :: r) [c]).drop (x.length + 1) = Lib.join (y :: r) [c] by simp]
      exact join_cuts c (y :: r) (by simp) (fun z hz => h z (List.mem_cons_of_mem _ hz))
theorem tabJ_tabs (s : ByteArray) : tabJ (tabsS s) = bs s := by
  unfold tabJ tabsS
  rw [List.map_map, show bs ∘ mk = id from funext bs_mk, List.map_id]
  exact cuts_join 9 _ (bs s) (Nat.le_refl _)
theorem tabs_tabJ {q : List ByteArray} (h0 : q ≠ []) (h : q.any oddB = false) : tabsS (mk (tabJ q)) = q := by
  unfold tabsS tabJ
  rw [bs_mk, join_cuts 9 (q.map bs) (by simpa using h0) ?_, map_bk]
  intro x hx
  obtain ⟨y, hy, rfl⟩ := List.mem_map.1 hx
  have := List.any_eq_false.1 h y hy
  unfold oddB hasB at this
  simp at this
  exact this.1.1
theorem tabsS_ne (s : ByteArray) : tabsS s ≠ [] := by
  unfold tabsS
  simpa using cuts_ne 9 (bs s)
theorem tabsS_len (s : ByteArray) : (tabsS s).length ≤ s.size + 1 := by
  rw [tabs_len, count_tabs, size_bs]
  have := List.count_le_length (a := (9 : UInt8)) (l := bs s)
  omega
theorem tabbed_tabs (s : ByteArray) : tabbedO (tabsS s) = none ∨ tabbedO (tabsS s) = some s := by
  unfold tabbedO
  split
  · exact .inl rfl
  · right; rw [tabJ_tabs, mk_bs]
set_option maxRecDepth 100000 in
set_option maxHeartbeats 4000000 in
theorem linesTabs_any (s : ByteArray) (w : World) (_ : s.size ≤ 140737488351232) (hm : HasMax w) :
    Calls Tryd.prog 5 #[.string s] w fun e w' => e = .returned (.bool true) ∧ Below w.heap.size w w' := by
  by_cases hbig : 2000 < s.size
  · go_enter Tryd.func5, Tryd.ntmps5
    go_wp2_with fail
    refine (alive_any _ hm).mono ?_
    rintro e w1 ⟨rfl, hb1⟩
    go_wp2_with fail
    go_ret
    exact ⟨rfl, hb1⟩
  · have hj : (tabJ (tabsS s)).length ≤ 1000000 := by rw [tabJ_tabs, ← size_bs]; omega
    have hl := tabsS_len s
    have hne := List.length_pos_iff.2 (tabsS_ne s)
    have hpos : (0 : Int) < ((tabsS s).length : Int) := by omega
    have hpd : decide ((0 : Int) < ((tabsS s).length : Int)) = true := decide_eq_true hpos
    have hse := str_eq s
    rcases tabbed_tabs s with ho | ho
    all_goals
      have HO := Lib.hid ho
      clear ho
      go_enter Tryd.func5, Tryd.ntmps5
      go_wp2_with fail
      refine (tabs_any s _ (by omega) hm).mono ?_
      rintro e w1 ⟨v, rfl, R1, hb1⟩
      have R0 := R1.mono (Nat.zero_le _)
      clear R1
      go_wp2_with fail
      refine (tabbed_any v (tabsS s) _ R0 hj (by omega)).mono ?_
      rintro e w2 ⟨rfl, hb2⟩
      rw [HO.out, optV]
      have R2 := R0.keep hb2
      have hB2 := Lsnoc hb1 hb2
      clear hb1 hb2 R0
      go_wp2_with fail
      refine (rtabbed_any v (tabsS s) _ R2 hj (by omega)).mono ?_
      rintro e w3 ⟨rfl, rfl⟩
      rw [HO.out, optV]
      go_wp2_with fail
      refine (alive_any _ (max_keep hm hB2)).mono ?_
      rintro e w4 ⟨rfl, hb4⟩
      have R4 := R2.keep hb4
      have hB4 := Lsnoc hB2 hb4
      clear hb4 hB2 R2
      go_wp2_with fail
      refine (rtabs_any s _ (by omega)).mono ?_
      rintro e w5 ⟨v5, rfl, R5, hb5⟩
      have R4' := R4.keep hb5
      have R5' := R5.mono (Nat.zero_le _)
      have hB5 := Lsnoc hB4 hb5
      clear hb5 hB4 R4 R5
      go_wp2_with fail
      refine (rsame_any v v5 (tabsS s) (tabsS s) _ R4' R5' (by omega)).mono ?_
      rintro e w6 ⟨rfl, hb6⟩
      have hB6 := Lsnoc hB5 hb6
      obtain ⟨a, cp, rfl, hcp, -⟩ := R4'
      clear hb6 hB5 R5'
      rw [show decide (tabsS s = tabsS s) = true from decide_eq_true rfl]
      go_wp2_with fail
      go_ret
      exact ⟨by simp, hB6⟩
end Go.Proofs.YtmcjabmkacfilaaDoor
