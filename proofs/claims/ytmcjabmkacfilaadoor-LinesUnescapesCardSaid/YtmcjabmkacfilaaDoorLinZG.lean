/- The walk of LinesUnescapes. -/
import Derived.Test.YtmcjabmkacfilaaDoorLinZD
import Derived.Test.YtmcjabmkacfilaaDoorLinZF
namespace Go.Proofs.YtmcjabmkacfilaaDoor
open Go.RowKit Go.Shelf

theorem flat_ge (f : UInt8 → List UInt8) (hf : ∀ c, 1 ≤ (f c).length) : ∀ l : List UInt8, l.length ≤ (l.flatMap f).length
  | [] => Nat.zero_le _
  | c :: l => by
    have := flat_ge f hf l
    have := hf c
    simp only [List.flatMap_cons, List.length_append, List.length_cons]
    omega
theorem pctB_pos (c : UInt8) : 1 ≤ (pctB c).length := by unfold pctB; split <;> simp
theorem unesc_back {s t : ByteArray} (h : unescO s = some t) : escS t = s ∧ t.size ≤ s.size := by
  unfold unescO at h
  split at h
  · cases h
  · split at h
    · rename_i u _ he
      injection h with h
      subst h
      refine ⟨he, ?_⟩
      have := flat_ge escB escB_pos u
      rw [← he, show (escS (mk u)).size = (u.flatMap escB).length from size_mk _, size_mk]
      exact this
    · cases h
theorem unpct_back {s t : ByteArray} (h : unpctO s = some t) : pctS t = s ∧ t.size ≤ s.size := by
  unfold unpctO at h
  split at h
  · cases h
  · split at h
    · rename_i u _ he
      injection h with h
      subst h
      refine ⟨he, ?_⟩
      have := flat_ge pctB pctB_pos u
      rw [← he, show (pctS (mk u)).size = (u.flatMap pctB).length from size_mk _, size_mk]
      exact this
    · cases h
set_option maxRecDepth 100000 in
set_option maxHeartbeats 4000000 in
theorem linesUnescapes_any (s : ByteArray) (w : World) (_ : s.size ≤ 140737488351232) (hm : HasMax w) :
    Calls Tryd.prog 8 #[.string s] w fun e w' => e = .returned (.bool true) ∧ Below w.heap.size w w' := by
  by_cases hbig : 2000 < s.size
  · go_enter Tryd.func8, Tryd.ntmps8
    go_wp2_with fail
    refine (alive_any _ hm).mono ?_
    rintro e w1 ⟨rfl, hb1⟩
    go_wp2_with fail
    go_ret
    exact ⟨rfl, hb1⟩
  · have hs : s.size ≤ 1000000 := by omega
    have hse := str_eq s
    cases ho : unescO s with
    | none =>
      cases hp : unpctO s with
      | none =>
        have H1 := Lib.hid (show optV (unescO s) = .tuple #[.string ⟨#[]⟩, .bool false] by rw [ho]; rfl)
        have H2 := Lib.hid (show optV (unpctO s) = .tuple #[.string ⟨#[]⟩, .bool false] by rw [hp]; rfl)
        clear ho hp
        go_enter Tryd.func8, Tryd.ntmps8
        go_wp2_with fail
        refine (unescape_any s _ hs).mono ?_
        rintro e w1 ⟨rfl, hb1⟩
        rw [H1.out]
        go_wp2_with fail
        refine (runescape_any s _ hs).mono ?_
        rintro e w2 ⟨rfl, hb2⟩
        rw [H1.out]
        have hB2 := Lsnoc hb1 hb2
        clear hb1 hb2
        go_wp2_with fail
        refine (unpercent_any s _ hs).mono ?_
        rintro e w3 ⟨rfl, hb3⟩
        rw [H2.out]
        have hB3 := Lsnoc hB2 hb3
        clear hB2 hb3
        go_wp2_with fail
        refine (runpercent_any s _ hs).mono ?_
        rintro e w4 ⟨rfl, hb4⟩
        rw [H2.out]
        have hB4 := Lsnoc hB3 hb4
        clear hB3 hb4
        go_wp2_with fail
        refine (alive_any _ (max_keep hm hB4)).mono ?_
        rintro e w5 ⟨rfl, hb5⟩
        have hB5 := Lsnoc hB4 hb5
        clear hB4 hb5
        go_wp2_with fail
        go_ret
        exact ⟨by simp, hB5⟩
      | some u =>
        obtain ⟨hu1, hu2⟩ := unpct_back hp
        have HU := Lib.hid hu1
        have huz : u.size ≤ 1000000 := by omega
        have hue := str_eq u
        clear hu1
        have H1 := Lib.hid (show optV (unescO s) = .tuple #[.string ⟨#[]⟩, .bool false] by rw [ho]; rfl)
        have H2 := Lib.hid (show optV (unpctO s) = .tuple #[.string u, .bool true] by rw [hp]; rfl)
        clear ho hp
        go_enter Tryd.func8, Tryd.ntmps8
        go_wp2_with fail
        refine (unescape_any s _ hs).mono ?_
        rintro e w1 ⟨rfl, hb1⟩
        rw [H1.out]
        go_wp2_with fail
        refine (runescape_any s _ hs).mono ?_
        rintro e w2 ⟨rfl, hb2⟩
        rw [H1.out]
        have hB2 := Lsnoc hb1 hb2
        clear hb1 hb2
        go_wp2_with fail
        refine (unpercent_any s _ hs).mono ?_
        rintro e w3 ⟨rfl, hb3⟩
        rw [H2.out]
        have hB3 := Lsnoc hB2 hb3
        clear hB2 hb3
        go_wp2_with fail
        refine (runpercent_any s _ hs).mono ?_
        rintro e w4 ⟨rfl, hb4⟩
        rw [H2.out]
        have hB4 := Lsnoc hB3 hb4
        clear hB3 hb4
        go_wp2_with fail
        refine (alive_any _ (max_keep hm hB4)).mono ?_
        rintro e w5 ⟨rfl, hb5⟩
        have hB5 := Lsnoc hB4 hb5
        clear hB4 hb5
        go_wp2_with fail
        refine (percent_any u _ huz).mono ?_
        rintro e w7 ⟨rfl, hb7⟩
        rw [HU.out]
        have hB7 := Lsnoc hB5 hb7
        clear hB5 hb7
        have hB5 := hB7
        clear hB7
        go_wp2_with fail
        go_ret
        exact ⟨by simp, hB5⟩
    | some t =>
      cases hp : unpctO s with
      | none =>
        obtain ⟨ht1, ht2⟩ := unesc_back ho
        have HT := Lib.hid ht1
        have htz : t.size ≤ 1000000 := by omega
        have hte := str_eq t
        clear ht1
        have H1 := Lib.hid (show optV (unescO s) = .tuple #[.string t, .bool true] by rw [ho]; rfl)
        have H2 := Lib.hid (show optV (unpctO s) = .tuple #[.string ⟨#[]⟩, .bool false] by rw [hp]; rfl)
        clear ho hp
        go_enter Tryd.func8, Tryd.ntmps8
        go_wp2_with fail
        refine (unescape_any s _ hs).mono ?_
        rintro e w1 ⟨rfl, hb1⟩
        rw [H1.out]
        go_wp2_with fail
        refine (runescape_any s _ hs).mono ?_
        rintro e w2 ⟨rfl, hb2⟩
        rw [H1.out]
        have hB2 := Lsnoc hb1 hb2
        clear hb1 hb2
        go_wp2_with fail
        refine (unpercent_any s _ hs).mono ?_
        rintro e w3 ⟨rfl, hb3⟩
        rw [H2.out]
        have hB3 := Lsnoc hB2 hb3
        clear hB2 hb3
        go_wp2_with fail
        refine (runpercent_any s _ hs).mono ?_
        rintro e w4 ⟨rfl, hb4⟩
        rw [H2.out]
        have hB4 := Lsnoc hB3 hb4
        clear hB3 hb4
        go_wp2_with fail
        refine (alive_any _ (max_keep hm hB4)).mono ?_
        rintro e w5 ⟨rfl, hb5⟩
        have hB5 := Lsnoc hB4 hb5
        clear hB4 hb5
        go_wp2_with fail
        refine (escape_any t _ htz).mono ?_
        rintro e w6 ⟨rfl, hb6⟩
        rw [HT.out]
        have hB6 := Lsnoc hB5 hb6
        clear hB5 hb6
        have hB5 := hB6
        clear hB6
        go_wp2_with fail
        go_ret
        exact ⟨by simp, hB5⟩
      | some u =>
        obtain ⟨ht1, ht2⟩ := unesc_back ho
        have HT := Lib.hid ht1
        have htz : t.size ≤ 1000000 := by omega
        have hte := str_eq t
        clear ht1
        obtain ⟨hu1, hu2⟩ := unpct_back hp
        have HU := Lib.hid hu1
        have huz : u.size ≤ 1000000 := by omega
        have hue := str_eq u
        clear hu1
        have H1 := Lib.hid (show optV (unescO s) = .tuple #[.string t, .bool true] by rw [ho]; rfl)
        have H2 := Lib.hid (show optV (unpctO s) = .tuple #[.string u, .bool true] by rw [hp]; rfl)
        clear ho hp
        go_enter Tryd.func8, Tryd.ntmps8
        go_wp2_with fail
        refine (unescape_any s _ hs).mono ?_
        rintro e w1 ⟨rfl, hb1⟩
        rw [H1.out]
        go_wp2_with fail
        refine (runescape_any s _ hs).mono ?_
        rintro e w2 ⟨rfl, hb2⟩
        rw [H1.out]
        have hB2 := Lsnoc hb1 hb2
        clear hb1 hb2
        go_wp2_with fail
        refine (unpercent_any s _ hs).mono ?_
        rintro e w3 ⟨rfl, hb3⟩
        rw [H2.out]
        have hB3 := Lsnoc hB2 hb3
        clear hB2 hb3
        go_wp2_with fail
        refine (runpercent_any s _ hs).mono ?_
        rintro e w4 ⟨rfl, hb4⟩
        rw [H2.out]
        have hB4 := Lsnoc hB3 hb4
        clear hB3 hb4
        go_wp2_with fail
        refine (alive_any _ (max_keep hm hB4)).mono ?_
        rintro e w5 ⟨rfl, hb5⟩
        have hB5 := Lsnoc hB4 hb5
        clear hB4 hb5
        go_wp2_with fail
        refine (escape_any t _ htz).mono ?_
        rintro e w6 ⟨rfl, hb6⟩
        rw [HT.out]
        have hB6 := Lsnoc hB5 hb6
        clear hB5 hb6
        have hB5 := hB6
        clear hB6
        go_wp2_with fail
        refine (percent_any u _ huz).mono ?_
        rintro e w7 ⟨rfl, hb7⟩
        rw [HU.out]
        have hB7 := Lsnoc hB5 hb7
        clear hB5 hb7
        have hB5 := hB7
        clear hB7
        go_wp2_with fail
        go_ret
        exact ⟨by simp, hB5⟩
end Go.Proofs.YtmcjabmkacfilaaDoor
