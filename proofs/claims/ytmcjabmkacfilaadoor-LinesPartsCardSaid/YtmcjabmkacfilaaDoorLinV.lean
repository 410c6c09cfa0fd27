/- The contracts of the reference's has and Tabs. -/
import Derived.Test.YtmcjabmkacfilaaDoorLinU
namespace Go.Proofs.YtmcjabmkacfilaaDoor
open Go.RowKit Go.Shelf

theorem has_yes {s : ByteArray} {c : UInt8} {k : Nat} (hk : k < s.size) (h : s[k] = c) : hasB c s = true := by
  unfold hasB
  rw [List.contains_iff_mem, ← h]
  exact List.getElem_mem (by rw [← size_bs]; exact hk)
theorem has_no {s : ByteArray} {c : UInt8} (h : ∀ j (hj : j < s.size), s[j] ≠ c) : hasB c s = false := by
  unfold hasB
  rw [← Bool.not_eq_true, List.contains_iff_mem]
  intro hm
  obtain ⟨j, hj, he⟩ := List.getElem_of_mem hm
  exact h j (by rw [size_bs]; exact hj) he
theorem cmp_yes {a b : UInt8} (h : a = b) : ((a.toNat : Int) == (b.toNat : Int)) = true := by rw [h]; exact beq_self_eq_true _
theorem cmp_no {a b : UInt8} (h : a ≠ b) : ((a.toNat : Int) == (b.toNat : Int)) = false := beq_eq_false_iff_ne.2 (fun e => h (UInt8.toNat_inj.1 (by omega)))
set_option maxRecDepth 100000 in
set_option maxHeartbeats 1000000 in
theorem rhas_any (s : ByteArray) (c : UInt8) (w : World) (hs : s.size ≤ 1000000) : Calls Tryd.prog 35 #[.string s, .int .u8 (c.toNat : Int)] w fun e w' => e = .returned (.bool (hasB c s)) ∧ w = w' := by
  go_enter Tryd.func35, Tryd.ntmps35
  go_wp2_with fail
  go_loop [5] (fun i => ∃ k : Nat, k ≤ s.size ∧ i = .int .i64 k ∧ Hid (∀ j (hj : j < s.size), j < k → s[j] ≠ c)) (fun i => s.size - (intOf i).toNat)
  case atStart => exact ⟨0, Nat.zero_le _, rfl, Lib.hid (fun j hj h => by omega)⟩
  case round =>
    obtain ⟨k, hk, rfl, HA⟩ := hrel
    by_cases hlt : k < s.size
    · by_cases he : s[k] = c
      · have HN := Lib.hid (has_yes hlt he)
        have g1 := cmp_yes he
        have g2 : (s[k].toNat : Int) = (c.toNat : Int) := by rw [he]
        clear HA he
        go_wp2_with fail
        go_ret
        exact ⟨by rw [HN.out]; rfl, rfl⟩
      · have HN : Hid (∀ j (hj : j < s.size), j < k + 1 → s[j] ≠ c) := Lib.hid (fun j hj h => by
          rcases Nat.lt_or_ge j k with h1 | h1
          · exact HA.out j hj h1
          · obtain rfl : j = k := by omega
            exact he)
        have g1 := cmp_no he
        have g2 : ¬ (s[k].toNat : Int) = (c.toNat : Int) := fun e => he (UInt8.toNat_inj.1 (by omega))
        clear HA he
        go_wp2_with fail
        go_round
        case rel => exact ⟨k + 1, by omega, by go_num, HN⟩
        case measure => simp [intOf]; omega
    · obtain rfl : k = s.size := by omega
      have HN := Lib.hid (has_no (fun j hj => HA.out j hj hj))
      clear HA
      go_wp2_with fail
      go_ret
      exact ⟨by rw [HN.out]; rfl, rfl⟩
theorem get_bs (t : ByteArray) (k : Nat) (h : k < t.size) : t[k] = (bs t)[k]'(by rw [← size_bs]; exact h) := rfl
theorem bs_get (s : ByteArray) (k : Nat) (h : k < s.size) : (bs s)[k]? = some s[k] := by
  rw [List.getElem?_eq_getElem (by rw [← size_bs]; exact h)]
  rfl
/-- How far a text has been cut at the bytes c. -/
def CutAt (c : UInt8) (s : ByteArray) (q : List ByteArray) (f k : Nat) : Prop := cuts c (bs s) = q.map bs ++ cuts c ((bs s).drop f) ∧ ∀ j, f ≤ j → j < k → (bs s)[j]? ≠ some c
theorem CutAt.start (c : UInt8) (s : ByteArray) : CutAt c s [] 0 0 := ⟨by rw [List.drop_zero]; rfl, fun j _ h => by omega⟩
theorem CutAt.skip {c : UInt8} {s : ByteArray} {q : List ByteArray} {f k : Nat} (h : CutAt c s q f k) (hk : k < s.size) (hc : s[k] ≠ c) : CutAt c s q f (k + 1) := by
  refine ⟨h.1, fun j h1 h2 => ?_⟩
  rcases Nat.lt_or_ge j k with h3 | h3
  · exact h.2 j h1 h3
  · obtain rfl : j = k := by omega
    rw [bs_get s j hk]
    intro e
    injection e with e
    exact hc e
theorem first_at {c : UInt8} {s : ByteArray} {f k : Nat} (h : ∀ j, f ≤ j → j < k → (bs s)[j]? ≠ some c) (hf : f ≤ k) (hk : k < s.size) (hc : s[k] = c) : FirstAt ((bs s).drop f) c (k - f) := by
  refine ⟨by rw [List.getElem?_drop, show f + (k - f) = k by omega, bs_get s k hk, hc], fun j hj => ?_⟩
  rw [List.getElem?_drop]
  exact h (f + j) (by omega) (by omega)
theorem piece_bs (s : ByteArray) (f k : Nat) : bs (s.extract f k) = ((bs s).drop f).take (k - f) := by rw [bs_extract, List.drop_take]
theorem CutAt.cut {c : UInt8} {s : ByteArray} {q : List ByteArray} {f k : Nat} (h : CutAt c s q f k) (hf : f ≤ k) (hk : k < s.size) (hc : s[k] = c) : CutAt c s (q ++ [s.extract f k]) (k + 1) (k + 1) := by
  refine ⟨?_, fun j h1 h2 => by omega⟩
  rw [h.1, cuts_first c _ _ (first_at h.2 hf hk hc), List.map_append, List.append_assoc, List.map_singleton, piece_bs, List.drop_drop, show f + (k - f + 1) = k + 1 by omega]
  rfl
theorem map_back (q : List ByteArray) : (q.map bs).map mk = q := map_bk q
theorem CutAt.done {c : UInt8} {s : ByteArray} {q : List ByteArray} {f k : Nat} (h : CutAt c s q f k) (hk : s.size ≤ k) : (cuts c (bs s)).map mk = q ++ [s.extract f s.size] := by
  have hn : ∀ j : Nat, ((bs s).drop f)[j]? ≠ some c := fun j hj => by
    rw [List.getElem?_drop] at hj
    rcases Nat.lt_or_ge (f + j) k with h1 | h1
    · exact h.2 (f + j) (by omega) h1 hj
    · rw [List.getElem?_eq_none (by rw [← size_bs]; omega)] at hj
      cases hj
  rw [h.1, cuts_none c _ hn, List.map_append, map_back]
  congr 1
  rw [List.map_singleton]
  congr 1
  apply bs_inj
  rw [bs_mk, piece_bs, List.take_of_length_le (by rw [List.length_drop, ← size_bs]; exact Nat.le_refl _)]
set_option maxRecDepth 100000 in
set_option maxHeartbeats 2000000 in
theorem rtabs_any (s : ByteArray) (w : World) (hs : s.size ≤ 1000000) : Calls Tryd.prog 20 #[.string s] w fun e w' => ∃ v, e = .returned v ∧ RT w.heap.size w' v (tabsS s) ∧ Below w.heap.size w w' := by
  obtain ⟨i0, hi, hz0, hz1, hz2⟩ := info_parts info9
  have own0 : w.ownsRow w.heap.size 9 1 (.slice none 0 0) 0 [] := World.ownsRow_nil w _ _ _
  go_enter Tryd.func20, Tryd.ntmps20
  go_wp2_with fail
  go_loopw [3, 4, 5] (fun v fv i wr => ∃ (f k : Nat) (q : List ByteArray), f ≤ k ∧ k ≤ s.size ∧ fv = .int .i64 f ∧ i = .int .i64 k ∧ Hid (CutAt 9 s q f k) ∧ q.length ≤ k ∧ wr.ownsRow w.heap.size 9 1 v q.length (q.map Value.string) ∧ Below w.heap.size w wr) (fun _ _ i _ => s.size - (intOf i).toNat)
  case atStart => exact ⟨0, 0, [], Nat.le_refl _, Nat.zero_le _, rfl, rfl, Lib.hid (CutAt.start 9 s), Nat.le_refl _, own0, Below.refl _ _⟩
  case round =>
    obtain ⟨f, k, q, hf, hk, rfl, rfl, HC, hq, hown, hb⟩ := hrel
    clear own0
    have hz := hb.size
    by_cases hlt : k < s.size
    · by_cases hc : s[k] = 9
      · have e1 : (s[k].toNat : Int) = 9 := by rw [hc]; rfl
        have e2 : ((s[k].toNat : Int) == 9) = true := by rw [e1]; rfl
        have HN := Lib.hid (HC.out.cut hf hlt hc)
        have own1 := hown.alloc (.cells #[.string (s.extract f k)] 9)
        clear HC hc hown
        go_wp2_with (at_builtin; refine wpList_append_own _ rfl (.tmp 16) (.tmp 21) 23 rfl w.heap.size 9 i0 (.string ⟨#[]⟩) 1 16 Tryd.underlying23 hi hz0 hz1 hz2 rfl (by decide) u3 q.length (q.map Value.string) rfl own1 ⟨wr.heap.size, 0, none⟩ 1 1 [.string (s.extract f k)] rfl ?c1 ?c2 ?c3 ?c4 ?c5 ?c6 ?_)
        case c1 => simp
        case c2 => exact cell_one_new _ _ _
        case c3 => intro u hu; simp at hu; subst hu; rfl
        case c4 => unfold maxLen; omega
        case c5 => omega
        case c6 => simp; omega
        intro v2 w2 hown2 hg2 hne2
        have hb2 : Below w.heap.size w w2 := (hb.alloc hz _).grown hg2 (by simp; omega) (fun k hk => (own1.lt k hk).1)
        clear hg2 hne2 own1
        go_wp2_with fail
        go_roundw
        case rel => exact ⟨k + 1, k + 1, q ++ [s.extract f k], Nat.le_refl _, by omega, by go_num, by go_num, HN, by rw [List.length_append, List.length_singleton]; omega, by rw [List.length_append, List.map_append]; exact hown2, hb2⟩
        case measure => simp [intOf]; omega
      · obtain ⟨e1, e2⟩ := ne_int (n := 9) (by decide) hc
        have HN := Lib.hid (HC.out.skip hlt hc)
        clear HC hc
        go_wp2_with fail
        go_roundw
        case rel => exact ⟨f, k + 1, q, by omega, by omega, rfl, by go_num, HN, by omega, hown, hb⟩
        case measure => simp [intOf]; omega
    · obtain rfl : k = s.size := by omega
      have HN : Hid (tabsS s = q ++ [s.extract f s.size]) := Lib.hid (HC.out.done (Nat.le_refl _))
      have own1 := hown.alloc (.cells #[.string (s.extract f s.size)] 9)
      clear HC hown
      go_wp2_with (at_builtin; refine wpList_append_own _ rfl (.tmp 25) (.tmp 29) 23 rfl w.heap.size 9 i0 (.string ⟨#[]⟩) 1 16 Tryd.underlying23 hi hz0 hz1 hz2 rfl (by decide) u3 q.length (q.map Value.string) rfl own1 ⟨wr.heap.size, 0, none⟩ 1 1 [.string (s.extract f s.size)] rfl ?d1 ?d2 ?d3 ?d4 ?d5 ?d6 ?_)
      case d1 => simp
      case d2 => exact cell_one_new _ _ _
      case d3 => intro u hu; simp at hu; subst hu; rfl
      case d4 => unfold maxLen; omega
      case d5 => omega
      case d6 => simp; omega
      intro v2 w2 hown2 hg2 hne2
      have hb2 : Below w.heap.size w w2 := (hb.alloc hz _).grown hg2 (by simp; omega) (fun k hk => (own1.lt k hk).1)
      have HR : Hid (RT w.heap.size w2 v2 (tabsS s)) := Lib.hid (by
        rw [HN.out]
        refine RT.of_owns ?_
        rw [List.length_append, List.map_append]
        exact hown2)
      clear hg2 hne2 own1 hown2
      go_wp2_with fail
      go_ret
      exact ⟨_, rfl, HR.out, hb2⟩
end Go.Proofs.YtmcjabmkacfilaaDoor
