/- The fields of a text: the plain law; the contracts of lines.Tabs and Tabbed. -/
import Derived.Test.YtmcjabmkacfilaaDoorLinF
namespace Go.Proofs.YtmcjabmkacfilaaDoor
open Go.RowKit Go.Shelf

/-- The texts between the bytes 9. -/
def tabsS (s : ByteArray) : List ByteArray := (cuts 9 (bs s)).map mk
theorem split_tabs : ∀ (n : Nat) (s : ByteArray), (bs s).count 9 ≤ n → Lib.splitB ⟨#[9]⟩ 0 n s = tabsS s := by
  intro n
  induction n with
  | zero =>
    intro s h
    have hn : ∀ k : Nat, (bs s)[k]? ≠ some 9 := fun k hk => by
      have : 9 ∈ bs s := List.mem_of_getElem? hk
      have := List.count_pos_iff.2 this
      omega
    rw [Lib.splitB_zero, tabsS, cuts_none 9 _ hn]
    simp [mk_bs]
  | succ n ih =>
    intro s h
    have h1 := Lib.one s ⟨#[9]⟩ rfl
    have h2 : Lib.indexB s ⟨#[9]⟩ = Lib.indexByte (bs s) 9 := h1
    by_cases h3 : Lib.indexByte (bs s) 9 = -1
    · rw [Lib.splitB_miss _ _ _ _ (h2.trans h3), tabsS, cuts_none 9 _ (Lib.indexByte_none h3)]
      simp [mk_bs]
    · have h4 := Lib.indexByte_ge (bs s) 9
      obtain ⟨k, hk⟩ := Int.eq_ofNat_of_zero_le (show 0 ≤ Lib.indexByte (bs s) 9 by omega)
      have hf : FirstAt (bs s) 9 k := Lib.indexByte_some hk
      rw [Lib.splitB_hit _ _ _ _ k (h2.trans hk)]
      have e1 : bs (s.extract (k + 1) s.size) = (bs s).drop (k + 1) := by rw [bs_extract, List.take_of_length_le (by rw [← size_bs]; exact Nat.le_refl _)]
      have e2 : s.extract 0 (k + 0) = mk ((bs s).take k) := by apply bs_inj; rw [bs_extract, bs_mk]; simp
      rw [e2]
      show mk ((bs s).take k) :: Lib.splitB ⟨#[9]⟩ 0 n (s.extract (k + 1) s.size) = tabsS s
      rw [ih (s.extract (k + 1) s.size) (by
        rw [e1]
        have hc : (bs s).count 9 = ((bs s).take k).count 9 + (((bs s).drop k)).count 9 := by rw [← List.count_append, List.take_append_drop]
        have hlt : k < (bs s).length := (List.getElem?_eq_some_iff.1 hf.1).1
        have he : (bs s)[k] = 9 := by have := hf.1; rw [List.getElem?_eq_getElem hlt] at this; injection this
        rw [List.drop_eq_getElem_cons hlt, he, List.count_cons_self] at hc
        omega)]
      rw [tabsS, tabsS, e1, cuts_first 9 _ k hf, List.map_cons]
theorem count_tabs (s : ByteArray) : Lib.countB s ⟨#[9]⟩ = (bs s).count 9 := by
  have h := Lib.splitB_all ⟨#[9]⟩ (by decide) 0 _ s rfl
  have : ∀ (m : Nat) (s : ByteArray), s.size ≤ m → Lib.countB s ⟨#[9]⟩ = (bs s).count 9 := by
    intro m
    induction m with
    | zero =>
      intro s hs
      have h0 : bs s = [] := List.eq_nil_of_length_eq_zero (by rw [← size_bs]; omega)
      have h1 := Lib.one s ⟨#[9]⟩ rfl
      have h2 : Lib.indexB s ⟨#[9]⟩ = Lib.indexByte (bs s) 9 := h1
      rw [Lib.countB_miss s _ (by rw [h2, h0]; rfl), h0]
      rfl
    | succ m ih =>
      intro s hs
      have h1 := Lib.one s ⟨#[9]⟩ rfl
      have h2 : Lib.indexB s ⟨#[9]⟩ = Lib.indexByte (bs s) 9 := h1
      by_cases h3 : Lib.indexByte (bs s) 9 = -1
      · rw [Lib.countB_miss s _ (h2.trans h3)]
        symm
        rw [List.count_eq_zero]
        intro hm
        obtain ⟨k, hk⟩ := List.getElem?_of_mem hm
        exact Lib.indexByte_none h3 k hk
      · have h4 := Lib.indexByte_ge (bs s) 9
        obtain ⟨k, hk⟩ := Int.eq_ofNat_of_zero_le (show 0 ≤ Lib.indexByte (bs s) 9 by omega)
        have hf : FirstAt (bs s) 9 k := Lib.indexByte_some hk
        have e1 : bs (s.extract (k + 1) s.size) = (bs s).drop (k + 1) := by rw [bs_extract, List.take_of_length_le (by rw [← size_bs]; exact Nat.le_refl _)]
        have hlt : k < (bs s).length := (List.getElem?_eq_some_iff.1 hf.1).1
        have he : (bs s)[k] = 9 := by have := hf.1; rw [List.getElem?_eq_getElem hlt] at this; injection this
        rw [Lib.countB_hit s _ k (by decide) (h2.trans hk)]
        show 1 + Lib.countB (s.extract (k + 1) s.size) ⟨#[9]⟩ = _
        rw [ih (s.extract (k + 1) s.size) (by rw [ByteArray.size_extract]; omega), e1]
        have hc : (bs s).count 9 = ((bs s).take k).count 9 + (((bs s).drop k)).count 9 := by rw [← List.count_append, List.take_append_drop]
        have hz : ((bs s).take k).count 9 = 0 := by
          rw [List.count_eq_zero]
          intro hm
          obtain ⟨j, hj⟩ := List.getElem?_of_mem hm
          rw [List.getElem?_take] at hj
          split at hj
          · exact hf.2 j (by assumption) hj
          · cases hj
        rw [List.drop_eq_getElem_cons hlt, he, List.count_cons_self] at hc
        omega
  exact this s.size s (Nat.le_refl _)
theorem tabs_len (s : ByteArray) : (tabsS s).length = Lib.countB s ⟨#[9]⟩ + 1 := by rw [count_tabs, tabsS, List.length_map, cuts_len]
theorem split_tab (s : ByteArray) : Lib.splitB ⟨#[9]⟩ 0 (Lib.countB s ⟨#[9]⟩) s = tabsS s := split_tabs _ s (by rw [count_tabs]; exact Nat.le_refl _)
theorem tabs_sizes (s : ByteArray) : ∀ x ∈ tabsS s, x.size ≤ s.size := by
  intro x hx
  obtain ⟨l, hl, rfl⟩ := List.mem_map.1 hx
  rw [size_mk, size_bs]
  exact cuts_sizes 9 (bs s) l hl
set_option maxRecDepth 100000 in
theorem tabs_any (s : ByteArray) (w : World) (hs : s.size ≤ 1000000) (hm : HasMax w) :
    Calls Tryd.prog 17 #[.string s] w fun e w' => ∃ v, e = .returned v ∧ RT w.heap.size w' v (tabsS s) ∧ Below w.heap.size w w' := by
  obtain ⟨m, hm⟩ := hm
  go_enter Tryd.func17, Tryd.ntmps17
  go_wp2_with fail
  refine (Any.strings_Split Tryd.lays146 info9 s ⟨#[9]⟩ m w (by omega) hm (by decide)).mono ?_
  rintro e w' ⟨rfl, hw⟩
  rw [split_tab] at hw
  rw [← tabs_len]
  obtain rfl : w' = w.alloc (.cells ((tabsS s).map Value.string).toArray 9) := hw
  have hR : RT w.heap.size (w.alloc (.cells ((tabsS s).map Value.string).toArray 9)) (.slice (some ⟨w.heap.size, 0, none⟩) (tabsS s).length (tabsS s).length) (tabsS s) := by
    refine ⟨_, _, rfl, Nat.le_refl _, .inr ⟨w.heap.size, 0, rfl, Nat.le_refl _, by simp, fun i hi => ?_⟩⟩
    rw [Nat.zero_add, World.cell?_alloc_new]
    simp [hi]
  have HR := Lib.hid hR
  have HB := Lib.hid ((Below.refl w.heap.size w).alloc (Nat.le_refl _) (.cells ((tabsS s).map Value.string).toArray 9))
  clear hR
  generalize w.alloc (.cells ((tabsS s).map Value.string).toArray 9) = w1 at *
  go_wp2_with fail
  go_ret
  exact ⟨_, rfl, HR.out, HB.out⟩
def oddB (x : ByteArray) : Bool := hasB 9 x || hasB 10 x || hasB 13 x
set_option maxRecDepth 100000 in
set_option maxHeartbeats 1000000 in
theorem odd_any (x : ByteArray) (w : World) : Calls Tryd.prog 37 #[.string x] w fun e w' => e = .returned (.bool (oddB x)) ∧ w = w' := by
  have e9 := has_ix 9 x
  have e10 := has_ix 10 x
  have e13 := has_ix 13 x
  unfold oddB
  cases h9 : hasB 9 x
  · cases h10 : hasB 10 x
    · cases h13 : hasB 13 x
      all_goals
        rw [h9] at e9
        first | have g9 := of_decide_eq_true e9 | have g9 := of_decide_eq_false e9
        clear h9
        rw [h10] at e10
        first | have g10 := of_decide_eq_true e10 | have g10 := of_decide_eq_false e10
        clear h10
        rw [h13] at e13
        first | have g13 := of_decide_eq_true e13 | have g13 := of_decide_eq_false e13
        clear h13
        go_enter Tryd.func37, Tryd.ntmps37
        go_wp2_with fail
        refine (ix9 x _).mono ?_
        rintro e w' ⟨rfl, rfl⟩
        generalize Lib.indexByte (bs x) 9 = i9 at *
        go_wp2_with fail
        refine (ix10 x _).mono ?_
        rintro e w' ⟨rfl, rfl⟩
        generalize Lib.indexByte (bs x) 10 = i10 at *
        go_wp2_with fail
        refine (ix13 x _).mono ?_
        rintro e w' ⟨rfl, rfl⟩
        generalize Lib.indexByte (bs x) 13 = i13 at *
        go_wp2_with fail
        go_ret
        exact ⟨rfl, rfl⟩
    · rw [h9] at e9
      first | have g9 := of_decide_eq_true e9 | have g9 := of_decide_eq_false e9
      clear h9
      rw [h10] at e10
      first | have g10 := of_decide_eq_true e10 | have g10 := of_decide_eq_false e10
      clear h10
      go_enter Tryd.func37, Tryd.ntmps37
      go_wp2_with fail
      refine (ix9 x _).mono ?_
      rintro e w' ⟨rfl, rfl⟩
      generalize Lib.indexByte (bs x) 9 = i9 at *
      go_wp2_with fail
      refine (ix10 x _).mono ?_
      rintro e w' ⟨rfl, rfl⟩
      generalize Lib.indexByte (bs x) 10 = i10 at *
      go_wp2_with fail
      go_ret
      exact ⟨rfl, rfl⟩
  · rw [h9] at e9
    first | have g9 := of_decide_eq_true e9 | have g9 := of_decide_eq_false e9
    clear h9
    go_enter Tryd.func37, Tryd.ntmps37
    go_wp2_with fail
    refine (ix9 x _).mono ?_
    rintro e w' ⟨rfl, rfl⟩
    generalize Lib.indexByte (bs x) 9 = i9 at *
    go_wp2_with fail
    go_ret
    exact ⟨rfl, rfl⟩
end Go.Proofs.YtmcjabmkacfilaaDoor
