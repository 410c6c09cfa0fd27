/- The walks of the statements PathMatches and PathTransitive. -/
import Derived.Test.YtnjmhkehckhihaaDoorPathI
namespace Go.Proofs.YtnjmhkehckhihaaDoor
open Go.RowKit

theorem at_zero (t : ByteArray) : (at_ t 0 == 47) = true ↔ (bs t).head? = some 47 := by
  unfold at_
  rw [beq_iff_eq]
  cases bs t with
  | nil => simp
  | cons x l =>
    simp only [List.getD_cons_zero, List.head?_cons, Option.some.injEq]
    constructor
    · intro h
      exact UInt8.toNat_inj.1 (by have : (47 : UInt8).toNat = 47 := rfl; omega)
    · intro h; rw [h]; rfl
theorem match_iff (r c : ByteArray) : matchB r c = true ↔ ∃ l, bs r = bs c ++ l ∧ (l = [] ∨ endB c = true ∨ l.head? = some 47) := by
  unfold matchB
  rw [Bool.and_eq_true, pre_iff]
  have key : ∀ l, bs r = bs c ++ l → bs (r.extract c.size r.size) = l := fun l hl => by
    rw [bs_extract, List.take_of_length_le (by rw [← size_bs]; exact Nat.le_refl _), hl, size_bs, List.drop_left']
    rfl
  constructor
  · rintro ⟨⟨l, hl⟩, h⟩
    refine ⟨l, hl, ?_⟩
    rw [Bool.or_eq_true, Bool.or_eq_true, at_zero, tl_bs, key l hl, List.isEmpty_iff] at h
    rcases h with (h | h) | h
    · exact .inl h
    · exact .inr (.inl h)
    · exact .inr (.inr h)
  · rintro ⟨l, hl, h⟩
    refine ⟨⟨l, hl⟩, ?_⟩
    rw [Bool.or_eq_true, Bool.or_eq_true, at_zero, tl_bs, key l hl, List.isEmpty_iff]
    rcases h with h | h | h
    · exact .inl (.inl h)
    · exact .inl (.inr h)
    · exact .inr h
theorem match_trans {a b c : ByteArray} (h1 : matchB a b = true) (h2 : matchB b c = true) : matchB a c = true := by
  rw [match_iff] at *
  obtain ⟨l, hl, h1⟩ := h1
  obtain ⟨m, hm, h2⟩ := h2
  refine ⟨m ++ l, by rw [hl, hm, List.append_assoc], ?_⟩
  rcases h2 with h2 | h2 | h2
  · subst h2
    have hbc : b = c := bs_inj (by rw [hm, List.append_nil])
    rw [hbc] at h1
    simpa using h1
  · exact .inr (.inl h2)
  · right; right
    cases m with
    | nil => simp at h2
    | cons x m => simpa using h2
set_option maxRecDepth 100000 in
theorem pathTransitive_any (a b c : ByteArray) (w : World) (ha : a.size ≤ 140737488351232) (hb : b.size ≤ 140737488351232) (hc : c.size ≤ 140737488351232) (hm : HasMax w) :
    Calls Tryd.prog 5 #[.string a, .string b, .string c] w fun e w' => e = .returned (.bool true) ∧ Below w.heap.size w w' := by
  have HM := Lib.hid hm
  clear hm
  by_cases hbig : 500 < a.size ∨ 500 < b.size ∨ 500 < c.size
  · have hp : 500 < a.size ∨ (a.size ≤ 500 ∧ 500 < b.size) ∨ (a.size ≤ 500 ∧ b.size ≤ 500 ∧ 500 < c.size) := by omega
    clear hbig
    rcases hp with h | ⟨h, h2⟩ | ⟨h, h2, h3⟩
    all_goals
      go_enter Tryd.func5, Tryd.ntmps5
      go_wp2_with fail
      refine (alive_any _ HM.out).mono ?_
      rintro e w1 ⟨rfl, hb1⟩
      go_wp2_with fail
      go_ret
      exact ⟨rfl, hb1⟩
  · have h1 : a.size ≤ 500 := by omega
    have h2 : b.size ≤ 500 := by omega
    have h3 : c.size ≤ 500 := by omega
    have HT := Lib.hid (@match_trans a b c)
    clear hbig
    go_enter Tryd.func5, Tryd.ntmps5
    go_wp2_with fail
    refine (alive_any _ HM.out).mono ?_
    rintro e w1 ⟨rfl, hb1⟩
    go_wp2_with fail
    refine (match_any a b _ (by omega) (by omega)).mono ?_
    rintro e w2 ⟨rfl, rfl⟩
    cases e1 : matchB a b
    · go_wp2_with fail
      go_ret
      exact ⟨rfl, hb1⟩
    · go_wp2_with fail
      refine (match_any b c _ (by omega) (by omega)).mono ?_
      rintro e w2 ⟨rfl, rfl⟩
      cases e2 : matchB b c
      · go_wp2_with fail
        go_ret
        exact ⟨rfl, hb1⟩
      · have HAC := Lib.hid (HT.out e1 e2)
        go_wp2_with fail
        refine (match_any a c _ (by omega) (by omega)).mono ?_
        rintro e w2 ⟨rfl, rfl⟩
        rw [HAC.out]
        go_wp2_with fail
        go_ret
        exact ⟨rfl, hb1⟩
end Go.Proofs.YtnjmhkehckhihaaDoor
