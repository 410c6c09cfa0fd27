/- alive: the walk. -/
import Derived.Test.YtmcjabmkacfilaaDoorLinN
namespace Go.Proofs.YtmcjabmkacfilaaDoor
open Go.RowKit Go.Shelf

theorem lines_a : linesS ⟨#[97, 13, 10, 10, 98]⟩ = [⟨#[97]⟩, ⟨#[]⟩, ⟨#[98]⟩] := by decide +kernel
theorem join_a : joinO [⟨#[97]⟩, ⟨#[]⟩] = some ⟨#[97, 10, 10]⟩ := by decide +kernel
theorem tabs_a : tabsS ⟨#[97, 9]⟩ = [⟨#[97]⟩, ⟨#[]⟩] := by decide +kernel
theorem tabbed_a : tabbedO [⟨#[97]⟩, ⟨#[98]⟩] = some ⟨#[97, 9, 98]⟩ := by decide +kernel
theorem unesc_a : unescO ⟨#[97, 92, 116, 98]⟩ = some ⟨#[97, 9, 98]⟩ := by decide +kernel
theorem unpct_a : unpctO ⟨#[97, 37, 50, 48, 98]⟩ = some ⟨#[97, 32, 98]⟩ := by decide +kernel
theorem esc_a : escS ⟨#[97, 9, 98]⟩ = ⟨#[97, 92, 116, 98]⟩ := by decide +kernel
theorem pct_a : pctS ⟨#[97, 32, 98, 47]⟩ = ⟨#[97, 37, 50, 48, 98, 37, 50, 70]⟩ := by decide +kernel
/-- A literal row of two texts. -/
theorem RT.two (w : World) (a b : ByteArray) : RT 0 (w.alloc (.cells #[.string a, .string b] 9)) (.slice (some ⟨w.heap.size, 0, none⟩) 2 2) [a, b] := by
  refine ⟨_, _, rfl, Nat.le_refl _, .inr ⟨w.heap.size, 0, rfl, Nat.zero_le _, by simp, fun i hi => ?_⟩⟩
  have : i = 0 ∨ i = 1 := by have : i < 2 := hi; omega
  rcases this with rfl | rfl <;> (rw [World.cell?_alloc_new]; rfl)
theorem RT.none (w : World) : RT 0 w (.slice none 0 0) [] := ⟨_, _, rfl, Nat.le_refl _, .inl rfl⟩
set_option maxRecDepth 100000 in
set_option maxHeartbeats 4000000 in
theorem alive_any (w : World) (hm : HasMax w) : Calls Tryd.prog 11 #[] w fun e w' => e = .returned (.bool true) ∧ Below w.heap.size w w' := by
  go_enter Tryd.func11, Tryd.ntmps11
  go_wp2_with fail
  refine (split_any ⟨#[97, 13, 10, 10, 98]⟩ _ (by decide) hm).mono ?_
  rintro e w1 ⟨v1, rfl, R1, hb1⟩
  rw [lines_a] at R1
  go_wp2_with fail
  refine (join_any _ [⟨#[97]⟩, ⟨#[]⟩] _ (RT.two w1 _ _) (by decide) (by decide)).mono ?_
  rintro e w2 ⟨rfl, hb2⟩
  rw [show optV (joinO [⟨#[97]⟩, ⟨#[]⟩]) = .tuple #[.string ⟨#[97, 10, 10]⟩, .bool true] from by rw [join_a]; rfl]
  have hb2' := Lsnoc hb1 (Lsnoc ((Below.refl _ w1).alloc (Nat.le_refl _) (.cells #[.string ⟨#[97]⟩, .string ⟨#[]⟩] 9)) hb2)
  have R2 := R1.keep (Lsnoc ((Below.refl _ w1).alloc (Nat.le_refl _) (.cells #[.string ⟨#[97]⟩, .string ⟨#[]⟩] 9)) hb2)
  clear hb1 hb2 R1
  go_wp2_with fail
  refine (tabs_any ⟨#[97, 9]⟩ _ (by decide) (max_keep hm hb2')).mono ?_
  rintro e w3 ⟨v3, rfl, T3, hb3⟩
  rw [tabs_a] at T3
  have hb3' := Lsnoc hb2' hb3
  have R3 := R2.keep hb3
  clear hb2' hb3 R2
  go_wp2_with fail
  refine (tabbed_any _ [⟨#[97]⟩, ⟨#[98]⟩] _ (RT.two w3 _ _) (by decide) (by decide)).mono ?_
  rintro e w4 ⟨rfl, hb4⟩
  rw [show optV (tabbedO [⟨#[97]⟩, ⟨#[98]⟩]) = .tuple #[.string ⟨#[97, 9, 98]⟩, .bool true] from by rw [tabbed_a]; rfl]
  have hx4 := Lsnoc ((Below.refl _ w3).alloc (Nat.le_refl _) (.cells #[.string ⟨#[97]⟩, .string ⟨#[98]⟩] 9)) hb4
  have hb4' := Lsnoc hb3' hx4
  have R4 := R3.keep hx4
  have T4 := T3.keep hx4
  clear hb3' hx4 hb4 R3 T3
  go_wp2_with fail
  refine (tabbed_any _ [] _ (RT.none w4) (by decide) (by decide)).mono ?_
  rintro e w5 ⟨rfl, hb5⟩
  have hb5' := Lsnoc hb4' hb5
  have R5 := R4.keep hb5
  have T5 := T4.keep hb5
  clear hb4' hb5 R4 T4
  rw [show optV (tabbedO []) = .tuple #[.string ⟨#[]⟩, .bool false] from rfl]
  go_wp2_with fail
  refine (unescape_any ⟨#[97, 92, 116, 98]⟩ _ (by decide)).mono ?_
  rintro e w6 ⟨rfl, hb6⟩
  have hb6' := Lsnoc hb5' hb6
  have R6 := R5.keep hb6
  have T6 := T5.keep hb6
  clear hb5' hb6 R5 T5
  rw [show optV (unescO ⟨#[97, 92, 116, 98]⟩) = .tuple #[.string ⟨#[97, 9, 98]⟩, .bool true] from by rw [unesc_a]; rfl]
  go_wp2_with fail
  refine (unpercent_any ⟨#[97, 37, 50, 48, 98]⟩ _ (by decide)).mono ?_
  rintro e w7 ⟨rfl, hb7⟩
  have hb7' := Lsnoc hb6' hb7
  have R7 := R6.keep hb7
  have T7 := T6.keep hb7
  clear hb6' hb7 R6 T6
  rw [show optV (unpctO ⟨#[97, 37, 50, 48, 98]⟩) = .tuple #[.string ⟨#[97, 32, 98]⟩, .bool true] from by rw [unpct_a]; rfl]
  obtain ⟨b1, o1, p1, rfl, hp1, -, -, hc1⟩ := R7.at (k := 0) (by decide)
  obtain ⟨b1', o1', p1', e1, -, -, -, hc2⟩ := R7.at (k := 2) (by decide)
  injection e1 with e1 _ e2
  injection e1 with e1
  injection e1 with e1 e3
  subst e1 e2 e3
  obtain ⟨b2, o2, p2, rfl, hp2, -, -, hd1⟩ := T7.at (k := 0) (by decide)
  simp only [List.getElem_cons_zero, List.getElem_cons_succ, List.length_cons, List.length_nil, Nat.add_zero] at *
  go_wp2_with fail
  refine (escape_any ⟨#[97, 9, 98]⟩ _ (by decide)).mono ?_
  rintro e w8 ⟨rfl, hb8⟩
  rw [esc_a]
  have hb8' := Lsnoc hb7' hb8
  clear hb7' hb8
  go_wp2_with fail
  refine (percent_any ⟨#[97, 32, 98, 47]⟩ _ (by decide)).mono ?_
  rintro e w9 ⟨rfl, hb9⟩
  rw [pct_a]
  have hb9' := Lsnoc hb8' hb9
  clear hb8' hb9
  go_wp2_with fail
  go_ret
  exact ⟨rfl, hb9'⟩
end Go.Proofs.YtmcjabmkacfilaaDoor
