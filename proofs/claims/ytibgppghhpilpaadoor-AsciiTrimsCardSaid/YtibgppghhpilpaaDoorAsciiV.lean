/- The statements' function alive comes to true. -/
import Derived.Test.YtibgppghhpilpaaDoorLower
import Derived.Test.YtibgppghhpilpaaDoorCut
namespace Go.Proofs.YtibgppghhpilpaaDoor
open Go.RowKit

theorem Below.snoc {w w1 w2 : World} (h : Below w.heap.size w w1) (h2 : Below w1.heap.size w1 w2) : Below w.heap.size w w2 := h.trans (h2.mono h.size)
theorem Below.drawn {w w1 : World} (h : Below w.heap.size w w1) (n : Nat) : Below w.heap.size w (w1.drewN n) := ⟨h.os, h.tape, h.output, h.size, h.block⟩
/-- Are two texts the same, but for capital letters? -/
def sameB (a b : ByteArray) : Bool := (lowS a).toList == (lowS b).toList
theorem same_any (a b : ByteArray) (w : World) (ha : a.size ≤ 9223372036854775807) (hb : b.size ≤ 9223372036854775807) : Calls Tryd.prog 12 #[.string a, .string b] w fun e w' => e = .returned (.bool (sameB a b)) ∧ Below w.heap.size w w' := by
  go_enter Tryd.func12, Tryd.ntmps12
  go_wp2_with fail
  refine (lower_any a _ ha).mono ?_
  rintro e w1 ⟨rfl, hb1⟩
  go_wp2_with fail
  refine (lower_any b _ hb).mono ?_
  rintro e w2 ⟨rfl, hb2⟩
  go_wp2_with fail
  go_ret
  exact ⟨ret_bool rfl, Below.snoc hb1 hb2⟩

set_option maxRecDepth 100000 in
theorem alive_any (w : World) : Calls Tryd.prog 10 #[] w fun e w' => e = .returned (.bool true) ∧ Below w.heap.size w w' := by
  have hB0 := Below.refl w.heap.size w
  go_enter Tryd.func10, Tryd.ntmps10
  go_wp2_with fail
  refine (cut_some (⟨#[97, 61, 98, 61, 99]⟩ : ByteArray) 61 1 _ (by decide) (by unfold FirstAt; decide)).mono ?_
  rintro e w1 ⟨rfl, nq1, rfl⟩
  rw [show (⟨#[97, 61, 98, 61, 99]⟩ : ByteArray).extract 0 1 = (⟨#[97]⟩ : ByteArray) from by first | rfl | decide | (unfold sameB; rw [tl_bs, tl_bs]; decide)]
  rw [show (⟨#[97, 61, 98, 61, 99]⟩ : ByteArray).extract (1 + 1) (⟨#[97, 61, 98, 61, 99]⟩ : ByteArray).size = (⟨#[98, 61, 99]⟩ : ByteArray) from by first | rfl | decide | (unfold sameB; rw [tl_bs, tl_bs]; decide)]
  have hB1 := Below.drawn hB0 nq1
  clear hB0
  go_wp2_with fail
  refine (cut_none (⟨#[97, 98]⟩ : ByteArray) 61 _ (by intro k; rcases k with _ | _ | k <;> simp [bs])).mono ?_
  rintro e w2 ⟨rfl, rfl⟩
  have hB2 := hB1
  clear hB1
  go_wp2_with fail
  refine (lower_any (⟨#[65, 98, 45, 90]⟩ : ByteArray) _ (by decide)).mono ?_
  rintro e w3 ⟨rfl, hb3⟩
  rw [show lowS (⟨#[65, 98, 45, 90]⟩ : ByteArray) = (⟨#[97, 98, 45, 122]⟩ : ByteArray) from by first | rfl | decide | (unfold sameB; rw [tl_bs, tl_bs]; decide)]
  have hB3 := Below.snoc hB2 hb3
  clear hB2
  go_wp2_with fail
  refine (same_any (⟨#[97, 66]⟩ : ByteArray) (⟨#[65, 98]⟩ : ByteArray) _ (by decide) (by decide)).mono ?_
  rintro e w4 ⟨rfl, hb4⟩
  rw [show sameB (⟨#[97, 66]⟩ : ByteArray) (⟨#[65, 98]⟩ : ByteArray) = true from by first | rfl | decide | (unfold sameB; rw [tl_bs, tl_bs]; decide)]
  have hB4 := Below.snoc hB3 hb4
  clear hB3
  go_wp2_with fail
  refine (same_any (⟨#[97]⟩ : ByteArray) (⟨#[98]⟩ : ByteArray) _ (by decide) (by decide)).mono ?_
  rintro e w5 ⟨rfl, hb5⟩
  rw [show sameB (⟨#[97]⟩ : ByteArray) (⟨#[98]⟩ : ByteArray) = false from by first | rfl | decide | (unfold sameB; rw [tl_bs, tl_bs]; decide)]
  have hB5 := Below.snoc hB4 hb5
  clear hB4
  go_wp2_with fail
  refine (token_any (⟨#[97, 45, 49]⟩ : ByteArray) _ (by decide)).mono ?_
  rintro e w6 ⟨rfl, rfl⟩
  rw [show tokB (⟨#[97, 45, 49]⟩ : ByteArray) = true from by first | rfl | decide | (unfold sameB; rw [tl_bs, tl_bs]; decide)]
  have hB6 := hB5
  clear hB5
  go_wp2_with fail
  refine (token_any (⟨#[]⟩ : ByteArray) _ (by decide)).mono ?_
  rintro e w7 ⟨rfl, rfl⟩
  rw [show tokB (⟨#[]⟩ : ByteArray) = false from by first | rfl | decide | (unfold sameB; rw [tl_bs, tl_bs]; decide)]
  have hB7 := hB6
  clear hB6
  go_wp2_with fail
  refine (token_any (⟨#[97, 32, 98]⟩ : ByteArray) _ (by decide)).mono ?_
  rintro e w8 ⟨rfl, rfl⟩
  rw [show tokB (⟨#[97, 32, 98]⟩ : ByteArray) = false from by first | rfl | decide | (unfold sameB; rw [tl_bs, tl_bs]; decide)]
  have hB8 := hB7
  clear hB7
  go_wp2_with fail
  refine (octets_any (⟨#[]⟩ : ByteArray) _ (by decide)).mono ?_
  rintro e w9 ⟨rfl, rfl⟩
  rw [show allB octB (⟨#[]⟩ : ByteArray) = true from by first | rfl | decide | (unfold sameB; rw [tl_bs, tl_bs]; decide)]
  have hB9 := hB8
  clear hB8
  go_wp2_with fail
  refine (octets_any (⟨#[97, 44, 98]⟩ : ByteArray) _ (by decide)).mono ?_
  rintro e w10 ⟨rfl, rfl⟩
  rw [show allB octB (⟨#[97, 44, 98]⟩ : ByteArray) = false from by first | rfl | decide | (unfold sameB; rw [tl_bs, tl_bs]; decide)]
  have hB10 := hB9
  clear hB9
  go_wp2_with fail
  refine (plain_any (⟨#[47, 97, 44, 98]⟩ : ByteArray) _ (by decide)).mono ?_
  rintro e w11 ⟨rfl, rfl⟩
  rw [show allB plainB (⟨#[47, 97, 44, 98]⟩ : ByteArray) = true from by first | rfl | decide | (unfold sameB; rw [tl_bs, tl_bs]; decide)]
  have hB11 := hB10
  clear hB10
  go_wp2_with fail
  refine (plain_any (⟨#[97, 59, 98]⟩ : ByteArray) _ (by decide)).mono ?_
  rintro e w12 ⟨rfl, rfl⟩
  rw [show allB plainB (⟨#[97, 59, 98]⟩ : ByteArray) = false from by first | rfl | decide | (unfold sameB; rw [tl_bs, tl_bs]; decide)]
  have hB12 := hB11
  clear hB11
  go_wp2_with fail
  refine (trim_any (⟨#[32, 97, 32, 98, 9]⟩ : ByteArray) _ (by decide)).mono ?_
  rintro e w13 ⟨rfl, hb13⟩
  rw [show trimS (⟨#[32, 97, 32, 98, 9]⟩ : ByteArray) = (⟨#[97, 32, 98]⟩ : ByteArray) from by first | rfl | decide | (unfold sameB; rw [tl_bs, tl_bs]; decide)]
  have hB13 := Below.snoc hB12 hb13
  clear hB12
  go_wp2_with fail
  go_ret
  exact ⟨by simp, hB13⟩
end Go.Proofs.YtibgppghhpilpaaDoor
