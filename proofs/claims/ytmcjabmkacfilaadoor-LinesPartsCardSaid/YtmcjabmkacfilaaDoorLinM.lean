/- The contract of lines.Unescape: the walk. -/
import Derived.Test.YtmcjabmkacfilaaDoorLinL
namespace Go.Proofs.YtmcjabmkacfilaaDoor
open Go.RowKit Go.Shelf

theorem letter_cases (d : UInt8) : (d = 92 ∧ letter d = some 92 ∧ Lib.indexByte (bs ⟨#[92, 116, 110, 114]⟩) d = 0) ∨ (d = 116 ∧ letter d = some 9 ∧ Lib.indexByte (bs ⟨#[92, 116, 110, 114]⟩) d = 1) ∨ (d = 110 ∧ letter d = some 10 ∧ Lib.indexByte (bs ⟨#[92, 116, 110, 114]⟩) d = 2) ∨
    (d = 114 ∧ letter d = some 13 ∧ Lib.indexByte (bs ⟨#[92, 116, 110, 114]⟩) d = 3) ∨ (letter d = none ∧ Lib.indexByte (bs ⟨#[92, 116, 110, 114]⟩) d = -1) := by
  by_cases h1 : d = 92
  · subst h1; exact .inl ⟨rfl, rfl, rfl⟩
  by_cases h2 : d = 116
  · subst h2; exact .inr (.inl ⟨rfl, rfl, rfl⟩)
  by_cases h3 : d = 110
  · subst h3; exact .inr (.inr (.inl ⟨rfl, rfl, rfl⟩))
  by_cases h4 : d = 114
  · subst h4; exact .inr (.inr (.inr (.inl ⟨rfl, rfl, rfl⟩)))
  refine .inr (.inr (.inr (.inr ⟨by unfold letter; rw [if_neg h1, if_neg h2, if_neg h3, if_neg h4], ?_⟩)))
  have h5 := has_ix d ⟨#[92, 116, 110, 114]⟩
  have h6 : hasB d ⟨#[92, 116, 110, 114]⟩ = false := by unfold hasB bs; simp [h1, h2, h3, h4]
  rw [h6] at h5
  have h7 := of_decide_eq_false h5
  have h8 := Lib.indexByte_ge (bs ⟨#[92, 116, 110, 114]⟩) d
  omega
theorem ix_letter (d : UInt8) (w : World) : Calls Tryd.prog 30 #[.string ⟨#[92, 116, 110, 114]⟩, .int .u8 (d.toNat : Int)] w fun e w' => e = .returned (.int .i64 (Lib.indexByte (bs ⟨#[92, 116, 110, 114]⟩) d)) ∧ w = w' := ixb_any ⟨#[92, 116, 110, 114]⟩ d w
set_option maxRecDepth 100000 in
set_option maxHeartbeats 4000000 in
theorem unescape_any (s : ByteArray) (w : World) (hs : s.size ≤ 1000000) : Calls Tryd.prog 22 #[.string s] w fun e w' => e = .returned (optV (unescO s)) ∧ Below w.heap.size w w' := by
  obtain ⟨i0, hi, hz0, hz1, hz2⟩ := info_parts info5
  have own0 : w.ownsRow w.heap.size 5 1 (.slice none 0 0) 0 [] := World.ownsRow_nil w _ _ _
  go_enter Tryd.func22, Tryd.ntmps22
  go_wp2_with fail
  go_loopw [4, 5, 6, 7] (fun v i _ _ wr => ∃ (k : Nat) (t : List UInt8), k ≤ s.size ∧ i = .int .i64 k ∧ Hid (UA s t k) ∧ t.length ≤ k ∧ wr.ownsRow w.heap.size 5 1 v t.length (cellsU t) ∧ Below w.heap.size w wr) (fun _ i _ _ _ => s.size - (intOf i).toNat)
  case atStart => exact ⟨0, [], Nat.zero_le _, rfl, Lib.hid (UA.start s), Nat.le_refl _, own0, Below.refl _ _⟩
  case round =>
    obtain ⟨k, t, hk, rfl, HU, ht, hown, hb⟩ := hrel
    clear own0
    have hz := hb.size
    by_cases hlt : k < s.size
    · by_cases hc : s[k] = 92
      · have e1 : (s[k].toNat : Int) = 92 := by rw [hc]; rfl
        have e2 : ((s[k].toNat : Int) == 92) = true := by rw [e1]; rfl
        by_cases hlt2 : k + 1 < s.size
        · have hL := letter_cases s[k + 1]
          have hrest : ∀ (x : UInt8), letter s[k + 1] = some x → Hid (UA s (t ++ [x]) (k + 2)) := fun x hx => Lib.hid (HU.out.two hlt2 hc hx)
          rcases hL with ⟨-, hx, hI⟩ | ⟨-, hx, hI⟩ | ⟨-, hx, hI⟩ | ⟨-, hx, hI⟩ | ⟨hx, hI⟩
          · have HN := hrest 92 hx
            have HI := Lib.hid hI
            have own1 := hown.alloc (.cells #[.int .u8 92] 5)
            clear HU hc hx hI hrest hown
            go_wp2_with fail
            refine (ix_letter s[k + 1] _).mono ?_
            rintro e w1 ⟨rfl, rfl⟩
            rw [HI.out]
            go_wp2_with (at_builtin; refine wpList_append_own _ rfl (.tmp 34) (.tmp 36) 37 rfl w.heap.size 5 i0 (.int .u8 0) 1 1 Tryd.underlying37 hi hz0 hz1 hz2 rfl (by decide) u4 t.length (cellsU t) rfl own1 ⟨wr.heap.size, 0, none⟩ 1 1 [.int .u8 92] rfl ?c1 ?c2 ?c3 ?c4 ?c5 ?c6 ?_)
            case c1 => simp
            case c2 => exact cell_one_new _ _ _
            case c3 => intro u hu; simp at hu; subst hu; rfl
            case c4 => unfold maxLen; omega
            case c5 => omega
            case c6 => simp; omega
            intro v2 w2 hown2 hg2 hne2
            have hb2 : Below w.heap.size w w2 := (hb.alloc hz _).grown hg2 (by simp; omega) (fun k hk => (own1.lt k hk).1)
            clear hg2 hne2 own1
            go_wp2_with fail
            go_roundw
            case rel => exact ⟨k + 2, t ++ [92], by omega, by go_num, HN, by rw [List.length_append, List.length_singleton]; omega, by rw [List.length_append, List.length_singleton]; exact (show cellsU (t ++ [92]) = cellsU t ++ [.int .u8 92] from by unfold cellsU; rw [List.map_append]; rfl) ▸ hown2, hb2⟩
            case measure => simp [intOf]; omega
          · have HN := hrest 9 hx
            have HI := Lib.hid hI
            have own1 := hown.alloc (.cells #[.int .u8 9] 5)
            clear HU hc hx hI hrest hown
            go_wp2_with fail
            refine (ix_letter s[k + 1] _).mono ?_
            rintro e w1 ⟨rfl, rfl⟩
            rw [HI.out]
            go_wp2_with (at_builtin; refine wpList_append_own _ rfl (.tmp 34) (.tmp 36) 37 rfl w.heap.size 5 i0 (.int .u8 0) 1 1 Tryd.underlying37 hi hz0 hz1 hz2 rfl (by decide) u4 t.length (cellsU t) rfl own1 ⟨wr.heap.size, 0, none⟩ 1 1 [.int .u8 9] rfl ?c1 ?c2 ?c3 ?c4 ?c5 ?c6 ?_)
            case c1 => simp
            case c2 => exact cell_one_new _ _ _
            case c3 => intro u hu; simp at hu; subst hu; rfl
            case c4 => unfold maxLen; omega
            case c5 => omega
            case c6 => simp; omega
            intro v2 w2 hown2 hg2 hne2
            have hb2 : Below w.heap.size w w2 := (hb.alloc hz _).grown hg2 (by simp; omega) (fun k hk => (own1.lt k hk).1)
            clear hg2 hne2 own1
            go_wp2_with fail
            go_roundw
            case rel => exact ⟨k + 2, t ++ [9], by omega, by go_num, HN, by rw [List.length_append, List.length_singleton]; omega, by rw [List.length_append, List.length_singleton]; exact (show cellsU (t ++ [9]) = cellsU t ++ [.int .u8 9] from by unfold cellsU; rw [List.map_append]; rfl) ▸ hown2, hb2⟩
            case measure => simp [intOf]; omega
          · have HN := hrest 10 hx
            have HI := Lib.hid hI
            have own1 := hown.alloc (.cells #[.int .u8 10] 5)
            clear HU hc hx hI hrest hown
            go_wp2_with fail
            refine (ix_letter s[k + 1] _).mono ?_
            rintro e w1 ⟨rfl, rfl⟩
            rw [HI.out]
            go_wp2_with (at_builtin; refine wpList_append_own _ rfl (.tmp 34) (.tmp 36) 37 rfl w.heap.size 5 i0 (.int .u8 0) 1 1 Tryd.underlying37 hi hz0 hz1 hz2 rfl (by decide) u4 t.length (cellsU t) rfl own1 ⟨wr.heap.size, 0, none⟩ 1 1 [.int .u8 10] rfl ?c1 ?c2 ?c3 ?c4 ?c5 ?c6 ?_)
            case c1 => simp
            case c2 => exact cell_one_new _ _ _
            case c3 => intro u hu; simp at hu; subst hu; rfl
            case c4 => unfold maxLen; omega
            case c5 => omega
            case c6 => simp; omega
            intro v2 w2 hown2 hg2 hne2
            have hb2 : Below w.heap.size w w2 := (hb.alloc hz _).grown hg2 (by simp; omega) (fun k hk => (own1.lt k hk).1)
            clear hg2 hne2 own1
            go_wp2_with fail
            go_roundw
            case rel => exact ⟨k + 2, t ++ [10], by omega, by go_num, HN, by rw [List.length_append, List.length_singleton]; omega, by rw [List.length_append, List.length_singleton]; exact (show cellsU (t ++ [10]) = cellsU t ++ [.int .u8 10] from by unfold cellsU; rw [List.map_append]; rfl) ▸ hown2, hb2⟩
            case measure => simp [intOf]; omega
          · have HN := hrest 13 hx
            have HI := Lib.hid hI
            have own1 := hown.alloc (.cells #[.int .u8 13] 5)
            clear HU hc hx hI hrest hown
            go_wp2_with fail
            refine (ix_letter s[k + 1] _).mono ?_
            rintro e w1 ⟨rfl, rfl⟩
            rw [HI.out]
            go_wp2_with (at_builtin; refine wpList_append_own _ rfl (.tmp 34) (.tmp 36) 37 rfl w.heap.size 5 i0 (.int .u8 0) 1 1 Tryd.underlying37 hi hz0 hz1 hz2 rfl (by decide) u4 t.length (cellsU t) rfl own1 ⟨wr.heap.size, 0, none⟩ 1 1 [.int .u8 13] rfl ?c1 ?c2 ?c3 ?c4 ?c5 ?c6 ?_)
            case c1 => simp
            case c2 => exact cell_one_new _ _ _
            case c3 => intro u hu; simp at hu; subst hu; rfl
            case c4 => unfold maxLen; omega
            case c5 => omega
            case c6 => simp; omega
            intro v2 w2 hown2 hg2 hne2
            have hb2 : Below w.heap.size w w2 := (hb.alloc hz _).grown hg2 (by simp; omega) (fun k hk => (own1.lt k hk).1)
            clear hg2 hne2 own1
            go_wp2_with fail
            go_roundw
            case rel => exact ⟨k + 2, t ++ [13], by omega, by go_num, HN, by rw [List.length_append, List.length_singleton]; omega, by rw [List.length_append, List.length_singleton]; exact (show cellsU (t ++ [13]) = cellsU t ++ [.int .u8 13] from by unfold cellsU; rw [List.map_append]; rfl) ▸ hown2, hb2⟩
            case measure => simp [intOf]; omega
          · have HN := Lib.hid (HU.out.bad hlt2 hc hx)
            have HI := Lib.hid hI
            clear HU hc hx hI hrest
            go_wp2_with fail
            refine (ix_letter s[k + 1] _).mono ?_
            rintro e w1 ⟨rfl, rfl⟩
            rw [HI.out]
            go_wp2_with fail
            go_ret2
            exact ⟨by rw [HN.out]; rfl, hb⟩
        · have HN := Lib.hid (HU.out.last hlt (by omega) hc)
          clear HU hc
          go_wp2_with fail
          go_ret2
          exact ⟨by rw [HN.out]; rfl, hb⟩
      · obtain ⟨e1, e2⟩ := ne_int (n := 92) (by decide) hc
        have HN := Lib.hid (HU.out.plain hlt hc)
        have own1 := hown.alloc (.cells #[.int .u8 (s[k].toNat : Int)] 5)
        clear HU hc hown
        go_wp2_with (at_builtin; refine wpList_append_own _ rfl (.tmp 34) (.tmp 36) 37 rfl w.heap.size 5 i0 (.int .u8 0) 1 1 Tryd.underlying37 hi hz0 hz1 hz2 rfl (by decide) u4 t.length (cellsU t) rfl own1 ⟨wr.heap.size, 0, none⟩ 1 1 [.int .u8 (s[k].toNat : Int)] rfl ?c1 ?c2 ?c3 ?c4 ?c5 ?c6 ?_)
        case c1 => simp
        case c2 => exact cell_one_new _ _ _
        case c3 => intro u hu; simp at hu; subst hu; rfl
        case c4 => unfold maxLen; omega
        case c5 => omega
        case c6 => simp; omega
        intro v2 w2 hown2 hg2 hne2
        have hb2 : Below w.heap.size w w2 := (hb.alloc hz _).grown hg2 (by simp; omega) (fun k hk => (own1.lt k hk).1)
        clear hg2 hne2 own1
        go_wp2_with fail
        go_roundw
        case rel => exact ⟨k + 1, t ++ [s[k]], by omega, by go_num, HN, by rw [List.length_append, List.length_singleton]; omega, by rw [List.length_append, List.length_singleton]; exact (show cellsU (t ++ [s[k]]) = cellsU t ++ [.int .u8 (s[k].toNat : Int)] from by unfold cellsU; rw [List.map_append]; rfl) ▸ hown2, hb2⟩
        case measure => simp [intOf]; omega
    · obtain rfl : k = s.size := by omega
      have HD := Lib.hid (HU.out.done (Nat.le_refl _))
      have hcv := conv_own hown
      have htz : (mk t).size ≤ 1000000 := by rw [size_mk]; omega
      clear HU hown
      by_cases he : escS (mk t) = s
      · have HE := Lib.hid he
        have HN := Lib.hid (show unescO s = some (mk t) by rw [HD.out, if_pos he])
        clear HD he
        go_wp2_with fail
        refine (escape_any (mk t) _ htz).mono ?_
        rintro e w1 ⟨rfl, hb1⟩
        rw [HE.out]
        go_wp2_with fail
        go_ret2
        exact ⟨by rw [HN.out]; rfl, Lsnoc hb hb1⟩
      · have HE := Lib.hid he
        have HN := Lib.hid (show unescO s = none by rw [HD.out, if_neg he])
        clear HD he
        go_wp2_with fail
        refine (escape_any (mk t) _ htz).mono ?_
        rintro e w1 ⟨rfl, hb1⟩
        have he := str_ne HE.out
        go_wp2_with fail
        go_ret2
        exact ⟨by rw [HN.out]; rfl, Lsnoc hb hb1⟩
end Go.Proofs.YtmcjabmkacfilaaDoor
