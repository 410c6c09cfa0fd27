/- The contract of the reference's Split; the walk of LinesSplits. -/
import Derived.Test.YtmcjabmkacfilaaDoorLinZA
namespace Go.Proofs.YtmcjabmkacfilaaDoor
open Go.RowKit Go.Shelf

/-- How far a text's lines have been read. -/
def LnAt (s : ByteArray) (q : List ByteArray) (f k : Nat) : Prop := linL (bs s) = q.map bs ++ linL ((bs s).drop f) ∧ ∀ j, f ≤ j → j < k → (bs s)[j]? ≠ some 10
theorem LnAt.start (s : ByteArray) : LnAt s [] 0 0 := ⟨by rw [List.drop_zero]; rfl, fun j _ h => by omega⟩
theorem LnAt.skip {s : ByteArray} {q : List ByteArray} {f k : Nat} (h : LnAt s q f k) (hk : k < s.size) (hc : s[k] ≠ 10) : LnAt s q f (k + 1) := by
  refine ⟨h.1, fun j h1 h2 => ?_⟩
  rcases Nat.lt_or_ge j k with h3 | h3
  · exact h.2 j h1 h3
  · obtain rfl : j = k := by omega
    rw [bs_get s j hk]
    intro e
    injection e with e
    exact hc e
theorem LnAt.cut {s x : ByteArray} {q : List ByteArray} {f k : Nat} (h : LnAt s q f k) (hf : f ≤ k) (hk : k < s.size) (hc : s[k] = 10) (hx : bs x = chop (((bs s).drop f).take (k - f))) : LnAt s (q ++ [x]) (k + 1) (k + 1) := by
  refine ⟨?_, fun j h1 h2 => by omega⟩
  rw [h.1, linL_first (first_at h.2 hf hk hc), List.map_append, List.append_assoc, List.map_singleton, hx, List.drop_drop, show f + (k - f + 1) = k + 1 by omega]
  rfl
theorem LnAt.done {s : ByteArray} {q : List ByteArray} {f k : Nat} (h : LnAt s q f k) (hk : s.size ≤ k) : linesS s = if f < s.size then q ++ [s.extract f s.size] else q := by
  have hn : ∀ j : Nat, ((bs s).drop f)[j]? ≠ some 10 := fun j hj => by
    rw [List.getElem?_drop] at hj
    rcases Nat.lt_or_ge (f + j) k with h1 | h1
    · exact h.2 (f + j) (by omega) h1 hj
    · rw [List.getElem?_eq_none (by rw [← size_bs]; omega)] at hj
      cases hj
  unfold linesS
  rw [h.1]
  by_cases hfs : f < s.size
  · rw [if_pos hfs, linL_none hn (by intro e; have := congrArg List.length e; rw [List.length_drop, ← size_bs] at this; simp at this; omega), List.map_append, map_back]
    congr 1
    rw [List.map_singleton]
    congr 1
    apply bs_inj
    rw [bs_mk, piece_bs, List.take_of_length_le (by rw [List.length_drop, ← size_bs]; exact Nat.le_refl _)]
  · rw [if_neg hfs, List.drop_eq_nil_of_le (by rw [← size_bs]; omega), linL_nil, List.append_nil, map_back]
theorem chop_cut {s : ByteArray} {f k : Nat} (hf : f < k) (hk : k < s.size) (hc : s[k - 1] = 13) : bs (s.extract f (k - 1)) = chop (((bs s).drop f).take (k - f)) := by
  have hl : (((bs s).drop f).take (k - f)).length = k - f := by rw [List.length_take, List.length_drop, ← size_bs]; omega
  have hg : (((bs s).drop f).take (k - f)).getLast? = some 13 := by
    rw [List.getLast?_eq_getElem?, hl, List.getElem?_take_of_lt (by omega), List.getElem?_drop, show f + (k - f - 1) = k - 1 by omega, bs_get s (k - 1) (by omega), hc]
  unfold chop
  rw [if_pos hg, List.dropLast_eq_take, hl, piece_bs, List.take_take, show min (k - f - 1) (k - f) = k - 1 - f by omega]
theorem chop_not {s : ByteArray} {f k : Nat} (hk : k < s.size) (hc : f < k → s[k - 1]'(by omega) ≠ 13) (hf : f ≤ k) : bs (s.extract f k) = chop (((bs s).drop f).take (k - f)) := by
  have hl : (((bs s).drop f).take (k - f)).length = k - f := by rw [List.length_take, List.length_drop, ← size_bs]; omega
  unfold chop
  rw [if_neg, piece_bs]
  rw [List.getLast?_eq_getElem?, hl]
  intro e
  rcases Nat.eq_or_lt_of_le hf with h0 | h0
  · subst h0
    rw [Nat.sub_self, List.take_zero] at e
    cases e
  · rw [List.getElem?_take_of_lt (by omega), List.getElem?_drop, show f + (k - f - 1) = k - 1 by omega, bs_get s (k - 1) (by omega)] at e
    injection e with e
    exact hc h0 e
set_option maxRecDepth 100000 in
set_option maxHeartbeats 2000000 in
theorem rsplit_any (s : ByteArray) (w : World) (hs : s.size ≤ 1000000) : Calls Tryd.prog 14 #[.string s] w fun e w' => ∃ v, e = .returned v ∧ RT w.heap.size w' v (linesS s) ∧ Below w.heap.size w w' := by
  obtain ⟨i0, hi, hz0, hz1, hz2⟩ := info_parts info9
  have own0 : w.ownsRow w.heap.size 9 1 (.slice none 0 0) 0 [] := World.ownsRow_nil w _ _ _
  go_enter Tryd.func14, Tryd.ntmps14
  go_wp2_with fail
  go_loopw [3, 4, 5, 6] (fun v fv i _ wr => ∃ (f k : Nat) (q : List ByteArray), f ≤ k ∧ k ≤ s.size ∧ fv = .int .i64 f ∧ i = .int .i64 k ∧ Hid (LnAt s q f k) ∧ q.length ≤ k ∧ wr.ownsRow w.heap.size 9 1 v q.length (q.map Value.string) ∧ Below w.heap.size w wr) (fun _ _ i _ _ => s.size - (intOf i).toNat)
  case atStart => exact ⟨0, 0, [], Nat.le_refl _, Nat.zero_le _, rfl, rfl, Lib.hid (LnAt.start s), Nat.le_refl _, own0, Below.refl _ _⟩
  case round =>
    obtain ⟨f, k, q, hf, hk, rfl, rfl, HC, hq, hown, hb⟩ := hrel
    clear own0
    have hz := hb.size
    by_cases hlt : k < s.size
    · by_cases hc : s[k] = 10
      · have e1 : (s[k].toNat : Int) = 10 := by rw [hc]; rfl
        have e2 : ((s[k].toNat : Int) != 10) = false := by rw [e1]; rfl
        rcases Nat.eq_or_lt_of_le hf with h0 | h0
        · subst h0
          have HN := Lib.hid (HC.out.cut (x := s.extract f f) (Nat.le_refl _) hlt hc (chop_not hlt (fun h => absurd h (Nat.lt_irrefl _)) (Nat.le_refl _)))
          have hee : s.extract f f = ByteArray.empty := by apply bs_inj; rw [piece_bs, Nat.sub_self, List.take_zero]; rfl
          rw [hee] at HN
          have own1 := hown.alloc (.cells #[.string ByteArray.empty] 9)
          clear HC hc hown hee
          go_wp2_with (at_builtin; refine wpList_append_own _ rfl (.tmp 30) (.tmp 35) 23 rfl w.heap.size 9 i0 (.string ⟨#[]⟩) 1 16 Tryd.underlying23 hi hz0 hz1 hz2 rfl (by decide) u3 q.length (q.map Value.string) rfl own1 ⟨wr.heap.size, 0, none⟩ 1 1 [.string ByteArray.empty] rfl ?c1 ?c2 ?c3 ?c4 ?c5 ?c6 ?_)
          case c1 => simp
          case c2 => exact cell_one_new _ _ _
          case c3 => intro u hu; simp at hu; subst hu; rfl
          case c4 => unfold maxLen; omega
          case c5 => omega
          case c6 => simp; omega
          intro v2 w2 hown2 hg2 hne2
          have hb2 : Below w.heap.size w w2 := (hb.alloc hz _).grown hg2 (by simp; omega) (fun k hk => (own1.lt k hk).1)
          clear hg2 hne2 own1
          go_wp2_with fail
          go_roundw
          case rel => exact ⟨f + 1, f + 1, q ++ [ByteArray.empty], Nat.le_refl _, by omega, by go_num, by go_num, HN, by rw [List.length_append, List.length_singleton]; omega, by rw [List.length_append, List.map_append]; exact hown2, hb2⟩
          case measure => simp [intOf]; omega
        · obtain ⟨j, hkj⟩ : ∃ j, j + 1 = k := ⟨k - 1, by omega⟩
          have hj : j < s.size := by omega
          have ek : k - 1 = j := by omega
          have x1 : (k : Int) - 1 = (j : Int) := by omega
          have p1 : (f : Int) < (k : Int) := by omega
          have p2 : decide ((f : Int) < (k : Int)) = true := decide_eq_true p1
          have p3 : (f : Int) ≤ (j : Int) := by omega
          have p5 : (1 : Int) ≤ (k : Int) := by omega
          have p4 : f ≤ j := by omega
          have p6 : (j : Int) ≤ (s.size : Int) := by omega
          have p7 : j ≤ s.size := by omega
          have HC1 : ∀ _ : s[j] = 13, Hid (LnAt s (q ++ [s.extract f j]) (k + 1) (k + 1)) := fun h => Lib.hid (HC.out.cut hf hlt hc (by have := chop_cut h0 hlt (by simp only [ek]; exact h); rw [ek] at this; exact this))
          have HC2 : ∀ _ : s[j] ≠ 13, Hid (LnAt s (q ++ [s.extract f k]) (k + 1) (k + 1)) := fun h => Lib.hid (HC.out.cut hf hlt hc (chop_not hlt (fun _ => by simp only [ek]; exact h) hf))
          clear HC hc ek hkj
          by_cases h13 : s[j] = 13
          · have HN := HC1 h13
            have g1 : (s[j].toNat : Int) = 13 := by rw [h13]; rfl
            have g2 : ((s[j].toNat : Int) == 13) = true := by rw [g1]; rfl
            have own1 := hown.alloc (.cells #[.string (s.extract f j)] 9)
            clear hown h13 HC1 HC2
            go_wp2_with (at_builtin; refine wpList_append_own _ rfl (.tmp 30) (.tmp 35) 23 rfl w.heap.size 9 i0 (.string ⟨#[]⟩) 1 16 Tryd.underlying23 hi hz0 hz1 hz2 rfl (by decide) u3 q.length (q.map Value.string) rfl own1 ⟨wr.heap.size, 0, none⟩ 1 1 [.string (s.extract f j)] rfl ?d1 ?d2 ?d3 ?d4 ?d5 ?d6 ?_)
            case d1 => simp
            case d2 => exact cell_one_new _ _ _
            case d3 => intro u hu; simp at hu; subst hu; rfl
            case d4 => unfold maxLen; omega
            case d5 => omega
            case d6 => simp; omega
            intro v2 w2 hown2 hg2 hne2
            have hb2 : Below w.heap.size w w2 := (hb.alloc hz _).grown hg2 (by simp; omega) (fun k hk => (own1.lt k hk).1)
            clear hg2 hne2 own1
            go_wp2_with fail
            go_roundw
            case rel => exact ⟨k + 1, k + 1, q ++ [s.extract f j], Nat.le_refl _, by omega, by go_num, by go_num, HN, by rw [List.length_append, List.length_singleton]; omega, by rw [List.length_append, List.map_append]; exact hown2, hb2⟩
            case measure => simp [intOf]; omega
          · have HN := HC2 h13
            obtain ⟨g2, g1⟩ := ne_int (n := 13) (by decide) h13
            have own1 := hown.alloc (.cells #[.string (s.extract f k)] 9)
            clear hown h13 HC1 HC2
            go_wp2_with (at_builtin; refine wpList_append_own _ rfl (.tmp 30) (.tmp 35) 23 rfl w.heap.size 9 i0 (.string ⟨#[]⟩) 1 16 Tryd.underlying23 hi hz0 hz1 hz2 rfl (by decide) u3 q.length (q.map Value.string) rfl own1 ⟨wr.heap.size, 0, none⟩ 1 1 [.string (s.extract f k)] rfl ?e1 ?e2 ?e3 ?e4 ?e5 ?e6 ?_)
            case e1 => simp
            case e2 => exact cell_one_new _ _ _
            case e3 => intro u hu; simp at hu; subst hu; rfl
            case e4 => unfold maxLen; omega
            case e5 => omega
            case e6 => simp; omega
            intro v2 w2 hown2 hg2 hne2
            have hb2 : Below w.heap.size w w2 := (hb.alloc hz _).grown hg2 (by simp; omega) (fun k hk => (own1.lt k hk).1)
            clear hg2 hne2 own1
            go_wp2_with fail
            go_roundw
            case rel => exact ⟨k + 1, k + 1, q ++ [s.extract f k], Nat.le_refl _, by omega, by go_num, by go_num, HN, by rw [List.length_append, List.length_singleton]; omega, by rw [List.length_append, List.map_append]; exact hown2, hb2⟩
            case measure => simp [intOf]; omega
      · obtain ⟨e1, e2⟩ := ne_int (n := 10) (by decide) hc
        have e3 : ((s[k].toNat : Int) != 10) = true := by rw [bne, show ((s[k].toNat : Int) == 10) = false from e1]; rfl
        have HN := Lib.hid (HC.out.skip hlt hc)
        clear HC hc
        go_wp2_with fail
        go_roundw
        case rel => exact ⟨f, k + 1, q, by omega, by omega, rfl, by go_num, HN, by omega, hown, hb⟩
        case measure => simp [intOf]; omega
    · obtain rfl : k = s.size := by omega
      have HD := Lib.hid (HC.out.done (Nat.le_refl _))
      clear HC
      by_cases hfs : f < s.size
      · have p1 : (f : Int) < (s.size : Int) := by omega
        have HN : Hid (linesS s = q ++ [s.extract f s.size]) := Lib.hid (by rw [HD.out, if_pos hfs])
        have own1 := hown.alloc (.cells #[.string (s.extract f s.size)] 9)
        clear HD hown
        go_wp2_with (at_builtin; refine wpList_append_own _ rfl (.tmp 43) (.tmp 47) 23 rfl w.heap.size 9 i0 (.string ⟨#[]⟩) 1 16 Tryd.underlying23 hi hz0 hz1 hz2 rfl (by decide) u3 q.length (q.map Value.string) rfl own1 ⟨wr.heap.size, 0, none⟩ 1 1 [.string (s.extract f s.size)] rfl ?g1 ?g2 ?g3 ?g4 ?g5 ?g6 ?_)
        case g1 => simp
        case g2 => exact cell_one_new _ _ _
        case g3 => intro u hu; simp at hu; subst hu; rfl
        case g4 => unfold maxLen; omega
        case g5 => omega
        case g6 => simp; omega
        intro v2 w2 hown2 hg2 hne2
        have hb2 : Below w.heap.size w w2 := (hb.alloc hz _).grown hg2 (by simp; omega) (fun k hk => (own1.lt k hk).1)
        have HR : Hid (RT w.heap.size w2 v2 (linesS s)) := Lib.hid (by
          rw [HN.out]
          refine RT.of_owns ?_
          rw [List.length_append, List.map_append]
          exact hown2)
        clear hg2 hne2 own1 hown2
        go_wp2_with fail
        go_ret
        exact ⟨_, rfl, HR.out, hb2⟩
      · have p1 : ¬ (f : Int) < (s.size : Int) := by omega
        have HN : Hid (linesS s = q) := Lib.hid (by rw [HD.out, if_neg hfs])
        have HR : Hid (RT w.heap.size wr u3 (linesS s)) := Lib.hid (by rw [HN.out]; exact RT.of_owns hown)
        clear HD hown
        go_wp2_with fail
        go_ret
        exact ⟨_, rfl, HR.out, hb⟩
end Go.Proofs.YtmcjabmkacfilaaDoor
