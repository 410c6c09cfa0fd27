/- The walk of the statement PathParses. -/
import Derived.Test.YtnjmhkehckhihaaDoorPathN
import Derived.Test.YtnjmhkehckhihaaDoorQReg
namespace Go.Proofs.YtnjmhkehckhihaaDoor
open Go.RowKit

theorem parse_size (s : ByteArray) : (parseO s).1.2.1.size ≤ 64 ∧ (parseO s).1.2.2.size ≤ 64 := by
  unfold parseO
  split
  · exact parseR_size _ _
  · split
    · exact parseR_size _ _
    · exact ⟨by show ByteArray.empty.size ≤ 64; decide, by show ByteArray.empty.size ≤ 64; decide⟩
set_option maxHeartbeats 4000000 in
set_option maxRecDepth 100000 in
theorem pathParses_any (s b : ByteArray) (w : World) (_ : s.size ≤ 140737488351232) (_ : b.size ≤ 140737488351232) (hm : HasMax w) :
    Calls Tryd.prog 7 #[.string s, .string b] w fun e w' => e = .returned (.bool true) ∧ Below w.heap.size w w' := by
  by_cases hbig : 500 < s.size ∨ 500 < b.size
  · have HM := Lib.hid hm
    clear hm
    have hp : 500 < s.size ∨ (s.size ≤ 500 ∧ 500 < b.size) := by omega
    clear hbig
    rcases hp with h | ⟨h, h2⟩
    all_goals
      go_enter Tryd.func7, Tryd.ntmps7
      go_wp2_with fail
      refine (alive_any _ HM.out).mono ?_
      rintro e w1 ⟨rfl, hb1⟩
      go_wp2_with fail
      go_ret
      exact ⟨rfl, hb1⟩
  · have h1 : s.size ≤ 500 := by omega
    have h2 : b.size ≤ 500 := by omega
    have k1 : ¬ (9223372036854775807 < s.size + 1) := by omega
    have k2 : ¬ (9223372036854775807 < s.size + 1 + b.size) := by omega
    have Z2 := Lib.hid (show (s ++ ({ data := #[63] } : ByteArray) ++ b).size ≤ 9223372036854775806 by rw [ByteArray.size_append, ByteArray.size_append]; show s.size + 1 + b.size ≤ _; omega)
    have Z3 := Lib.hid (show (s ++ ({ data := #[35] } : ByteArray) ++ b).size ≤ 9223372036854775806 by rw [ByteArray.size_append, ByteArray.size_append]; show s.size + 1 + b.size ≤ _; omega)
    have P2 := Lib.hid (parse_more63 s b)
    have P3 := Lib.hid (parse_more35 s b)
    have HM := Lib.hid hm
    clear hm hbig
    generalize hu : parseO s = u at P2 P3
    obtain ⟨⟨sec, h, p⟩, n⟩ := u
    have HU := Lib.hid hu
    clear hu
    go_enter Tryd.func7, Tryd.ntmps7
    go_wp2_with fail
    refine (parse_any s _ (by omega) HM.out).mono ?_
    rintro e w1 ⟨rfl, hb1⟩
    rw [HU.out, urlV_mk]
    have HM1 := Lib.hid (max_keep HM.out hb1)
    have hB1 : Below w.heap.size w w1 := hb1
    clear hb1
    go_wp2_with fail
    refine (rparse_any s _ (by omega)).mono ?_
    rintro e w2 ⟨rfl, hb2⟩
    rw [HU.out, urlV_mk]
    have HM2 := Lib.hid (max_keep HM1.out (Below.snoc ((Below.refl _ _).alloc (Nat.le_refl _) _) hb2))
    have hB2 : Below w.heap.size w w2 := Below.snoc (hB1.alloc hB1.size _) hb2
    obtain ⟨hc2, hf2⟩ := bcell hb2
    have hz2 : w1.heap.size < w2.heap.size := by have := hb2.size; simp at this; omega
    clear hb2
    go_wp2_with fail
    refine (parse_any (s ++ ({ data := #[63] } : ByteArray) ++ b) _ Z2.out ?hm).mono ?_
    case hm => exact max_keep HM2.out ((Below.refl _ _).alloc (Nat.le_refl _) _)
    rintro e w3 ⟨rfl, hb3⟩
    rw [P2.out, urlV_mk]
    have HM3 := Lib.hid (max_keep HM2.out (Below.snoc ((Below.refl _ _).alloc (Nat.le_refl _) _) hb3))
    have hB3 : Below w.heap.size w w3 := Below.snoc (hB2.alloc hB2.size _) hb3
    obtain ⟨hc3, hf3⟩ := bcell hb3
    have hz3 : w1.heap.size < w3.heap.size := by have := hb3.size; simp at this; omega
    have hz3' : w1.heap.size < w2.heap.size + 1 := by omega
    clear hb3
    go_wp2_with fail
    refine (parse_any (s ++ ({ data := #[35] } : ByteArray) ++ b) _ Z3.out ?hm).mono ?_
    case hm => exact max_keep HM3.out ((Below.refl _ _).alloc (Nat.le_refl _) _)
    rintro e w4 ⟨rfl, hb4⟩
    rw [P3.out, urlV_mk]
    have HM4 := Lib.hid (max_keep HM3.out (Below.snoc ((Below.refl _ _).alloc (Nat.le_refl _) _) hb4))
    have hB4 : Below w.heap.size w w4 := Below.snoc (hB3.alloc hB3.size _) hb4
    obtain ⟨hc4, hf4⟩ := bcell hb4
    have hz4 : w1.heap.size < w4.heap.size := by have := hb4.size; simp at this; omega
    have hz4' : w1.heap.size < w3.heap.size + 1 := by omega
    have hy4 : w3.heap.size < w4.heap.size := by have := hb4.size; simp at this; omega
    clear hb4
    go_wp2_with fail
    refine (alive_any _ ?hm).mono ?_
    case hm => exact max_keep HM4.out ((Below.refl _ _).alloc (Nat.le_refl _) _)
    rintro e w5 ⟨rfl, hb5⟩
    have hB5 : Below w.heap.size w w5 := Below.snoc (hB4.alloc hB4.size _) hb5
    obtain ⟨hc5, hf5⟩ := bcell hb5
    have hz5 : w1.heap.size < w4.heap.size + 1 := by omega
    have hz5' : w3.heap.size < w4.heap.size + 1 := by omega
    clear hb5
    go_wp2_with fail
    go_ret
    exact ⟨by simp, hB5⟩
end Go.Proofs.YtnjmhkehckhihaaDoor
