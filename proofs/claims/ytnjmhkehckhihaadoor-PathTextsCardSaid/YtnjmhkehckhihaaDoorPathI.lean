/- Chapter 12: what alive looks at. -/
import Derived.Test.YtnjmhkehckhihaaDoorPathH
namespace Go.Proofs.YtnjmhkehckhihaaDoor
open Go.RowKit

theorem al1 : parseO (⟨#[104, 116, 116, 112, 115, 58, 47, 47, 65, 46, 98, 63, 120]⟩ : ByteArray) = ((true, ⟨#[97, 46, 98]⟩, ⟨#[47]⟩), 0) := by
  unfold parseO
  rw [if_pos (by unfold preB; rw [tl_bs, tl_bs]; decide)]
  decide
theorem al2 : parseO (⟨#[102, 116, 112, 58, 47, 47, 97]⟩ : ByteArray) = ((false, ⟨#[]⟩, ⟨#[]⟩), 120) := by
  unfold parseO
  rw [if_neg (by unfold preB; rw [tl_bs, tl_bs]; decide), if_neg (by unfold preB; rw [tl_bs, tl_bs]; decide)]
  rfl
theorem al3 : parseO (⟨#[104, 116, 116, 112, 58, 47, 47, 47, 97]⟩ : ByteArray) = ((false, ⟨#[]⟩, ⟨#[]⟩), 121) := by
  unfold parseO
  rw [if_neg (by unfold preB; rw [tl_bs, tl_bs]; decide), if_pos (by unfold preB; rw [tl_bs, tl_bs]; decide)]
  decide
theorem al4 : parseO (⟨#[104, 116, 116, 112, 58, 47, 47, 97, 47, 98]⟩ : ByteArray) = ((false, ⟨#[97]⟩, ⟨#[47, 98]⟩), 0) := by
  unfold parseO
  rw [if_neg (by unfold preB; rw [tl_bs, tl_bs]; decide), if_pos (by unfold preB; rw [tl_bs, tl_bs]; decide)]
  decide
theorem al5 : parseO (⟨#[104, 116, 116, 112, 58, 47, 47, 65, 47, 98]⟩ : ByteArray) = ((false, ⟨#[97]⟩, ⟨#[47, 98]⟩), 0) := by
  unfold parseO
  rw [if_neg (by unfold preB; rw [tl_bs, tl_bs]; decide), if_pos (by unfold preB; rw [tl_bs, tl_bs]; decide)]
  decide
theorem tx4 : textS false ⟨#[97]⟩ ⟨#[47, 98]⟩ = ⟨#[104, 116, 116, 112, 58, 47, 47, 97, 47, 98]⟩ := by decide
theorem tx5 : textS false ⟨#[65]⟩ ⟨#[47, 98]⟩ = ⟨#[104, 116, 116, 112, 58, 47, 47, 65, 47, 98]⟩ := by decide
theorem al4' : parseO (textS false ⟨#[97]⟩ ⟨#[47, 98]⟩) = ((false, ⟨#[97]⟩, ⟨#[47, 98]⟩), 0) := by rw [tx4]; exact al4
theorem al5' : parseO (textS false ⟨#[65]⟩ ⟨#[47, 98]⟩) = ((false, ⟨#[97]⟩, ⟨#[47, 98]⟩), 0) := by rw [tx5]; exact al5
theorem al6 : Dfl ⟨#[47, 97, 47, 98]⟩ ⟨#[47, 97]⟩ := by
  have h : Dfl ⟨#[47, 97, 47, 98]⟩ _ := .some 2 (by decide) ⟨by decide, by decide, fun j h1 h2 => by
    have : j = 3 := by
      have h3 : j < 4 := h1
      omega
    subst this
    rfl⟩ ⟨by decide, by decide⟩
  exact h
theorem al7 : Dfl ⟨#[120]⟩ ⟨#[47]⟩ := .none fun _ => rfl
theorem al8 : matchB ⟨#[47, 97, 47, 98]⟩ ⟨#[47, 97]⟩ = true := by unfold matchB preB endB; rw [tl_bs, tl_bs, tl_bs, tl_bs]; decide
theorem al9 : matchB ⟨#[47, 97, 98]⟩ ⟨#[47, 97]⟩ = false := by unfold matchB preB endB; rw [tl_bs, tl_bs, tl_bs, tl_bs]; decide

set_option maxHeartbeats 2000000 in
set_option maxRecDepth 100000 in
theorem alive_any (w : World) (hm : HasMax w) : Calls Tryd.prog 9 #[] w fun e w' => e = .returned (.bool true) ∧ Below w.heap.size w w' := by
  have HM := Lib.hid hm
  clear hm
  go_enter Tryd.func9, Tryd.ntmps9
  go_wp2_with fail
  refine (parse_any ⟨#[104, 116, 116, 112, 115, 58, 47, 47, 65, 46, 98, 63, 120]⟩ _ (by decide) HM.out).mono ?_
  rintro e w1 ⟨rfl, hb1⟩
  rw [al1, urlV_mk]
  have HM1 := Lib.hid (max_keep HM.out hb1)
  have hB1 : Below w.heap.size w w1 := hb1
  clear hb1
  go_wp2_with fail
  refine (parse_any ⟨#[102, 116, 112, 58, 47, 47, 97]⟩ _ (by decide) ?hm).mono ?_
  case hm => exact max_keep HM1.out ((Below.refl _ _).alloc (Nat.le_refl _) _)
  rintro e w2 ⟨rfl, hb2⟩
  rw [al2, urlV_mk]
  have HM2 := Lib.hid (max_keep HM1.out (Below.snoc ((Below.refl _ _).alloc (Nat.le_refl _) _) hb2))
  have hB2 : Below w.heap.size w w2 := Below.snoc (hB1.alloc hB1.size _) hb2
  obtain ⟨hc2, hf2⟩ := bcell hb2
  have hz2 : w1.heap.size < w2.heap.size := by have := hb2.size; simp at this; omega
  clear hb2
  go_wp2_with fail
  refine (parse_any ⟨#[104, 116, 116, 112, 58, 47, 47, 47, 97]⟩ _ (by decide) ?hm).mono ?_
  case hm => exact max_keep HM2.out ((Below.refl _ _).alloc (Nat.le_refl _) _)
  rintro e w3 ⟨rfl, hb3⟩
  rw [al3, urlV_mk]
  have HM3 := Lib.hid (max_keep HM2.out (Below.snoc ((Below.refl _ _).alloc (Nat.le_refl _) _) hb3))
  have hB3 : Below w.heap.size w w3 := Below.snoc (hB2.alloc hB2.size _) hb3
  obtain ⟨hc3, hf3⟩ := bcell hb3
  have hz3 : w1.heap.size < w3.heap.size := by have := hb3.size; simp at this; omega
  clear hb3
  go_wp2_with fail
  refine (text_false_same ⟨#[97]⟩ ⟨#[47, 98]⟩ _ (by decide) (by decide) ?hm al4').mono ?_
  case hm => exact max_keep HM3.out ((Below.refl _ _).alloc (Nat.le_refl _) _)
  rintro e w4 ⟨rfl, hb4⟩
  rw [tx4]
  have HM4 := Lib.hid (max_keep HM3.out (Below.snoc ((Below.refl _ _).alloc (Nat.le_refl _) _) hb4))
  have hB4 : Below w.heap.size w w4 := Below.snoc (hB3.alloc hB3.size _) hb4
  obtain ⟨hc4, hf4⟩ := bcell hb4
  have hz4 : w1.heap.size < w4.heap.size := by have := hb4.size; simp at this; omega
  have hz4' : w1.heap.size < w3.heap.size + 1 := by omega
  clear hb4
  go_wp2_with fail
  refine (text_false_diff ⟨#[65]⟩ ⟨#[47, 98]⟩ false ⟨#[97]⟩ ⟨#[47, 98]⟩ _ (by decide) (by decide) ?hm al5' (by rw [tl_bs, tl_bs, tl_bs]; decide)).mono ?_
  case hm => exact HM4.out
  rintro e w5 ⟨rfl, hb5⟩
  have hB5 : Below w.heap.size w w5 := Below.snoc hB4 hb5
  obtain ⟨hc5, hf5⟩ := bcell hb5
  have hz5 : w1.heap.size < w5.heap.size := by have := hb5.size; omega
  have hz5' : w1.heap.size < w2.heap.size + 1 := by omega
  have hz5'' : w1.heap.size < w1.heap.size + 1 := by omega
  clear hb5
  go_wp2_with fail
  refine (pright_any ⟨#[47, 97]⟩ _ (by decide)).mono ?_
  rintro e w6 ⟨rfl, rfl⟩
  rw [show pathB ⟨#[47, 97]⟩ = true by decide]
  go_wp2_with fail
  refine (pright_any ⟨#[97]⟩ _ (by decide)).mono ?_
  rintro e w6 ⟨rfl, rfl⟩
  rw [show pathB ⟨#[97]⟩ = false by decide]
  go_wp2_with fail
  refine (default_any _ _ _ (by decide) al6).mono ?_
  rintro e w6 ⟨rfl, rfl⟩
  go_wp2_with fail
  refine (default_any _ _ _ (by decide) al7).mono ?_
  rintro e w6 ⟨rfl, rfl⟩
  go_wp2_with fail
  refine (match_any ⟨#[47, 97, 47, 98]⟩ ⟨#[47, 97]⟩ _ (by decide) (by decide)).mono ?_
  rintro e w6 ⟨rfl, rfl⟩
  rw [al8]
  go_wp2_with fail
  refine (match_any ⟨#[47, 97, 98]⟩ ⟨#[47, 97]⟩ _ (by decide) (by decide)).mono ?_
  rintro e w6 ⟨rfl, rfl⟩
  rw [al9]
  go_wp2_with fail
  go_ret
  exact ⟨rfl, hB5⟩
end Go.Proofs.YtnjmhkehckhihaaDoor
