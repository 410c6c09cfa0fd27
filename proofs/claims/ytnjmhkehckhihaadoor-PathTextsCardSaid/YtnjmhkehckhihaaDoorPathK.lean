/- The walks of the statements PathMatches and PathDefaults. -/
import Derived.Test.YtnjmhkehckhihaaDoorPathJ
namespace Go.Proofs.YtnjmhkehckhihaaDoor
open Go.RowKit

theorem match_pre {a b : ByteArray} (h : matchB a b = true) : b.size ≤ a.size ∧ ((a.extract 0 b.size).toList == b.toList) = true := by
  unfold matchB at h
  rw [Bool.and_eq_true] at h
  have h1 := h.1
  unfold preB at h1
  rw [Bool.and_eq_true] at h1
  exact ⟨of_decide_eq_true h1.1, h1.2⟩
set_option maxRecDepth 100000 in
theorem pathMatches_any (a b : ByteArray) (w : World) (ha : a.size ≤ 140737488351232) (hb : b.size ≤ 140737488351232) (hm : HasMax w) :
    Calls Tryd.prog 4 #[.string a, .string b] w fun e w' => e = .returned (.bool true) ∧ Below w.heap.size w w' := by
  have HM := Lib.hid hm
  clear hm
  by_cases hbig : 1000 < a.size ∨ 1000 < b.size
  · have hp : 1000 < a.size ∨ (a.size ≤ 1000 ∧ 1000 < b.size) := by omega
    clear hbig
    rcases hp with h | ⟨h, h2⟩
    all_goals
      go_enter Tryd.func4, Tryd.ntmps4
      go_wp2_with fail
      refine (alive_any _ HM.out).mono ?_
      rintro e w1 ⟨rfl, hb1⟩
      go_wp2_with fail
      go_ret
      exact ⟨rfl, hb1⟩
  · have h1 : a.size ≤ 1000 := by omega
    have h2 : b.size ≤ 1000 := by omega
    have HP := Lib.hid (@match_pre a b)
    have HR := Lib.hid (match_refl a)
    clear hbig
    go_enter Tryd.func4, Tryd.ntmps4
    go_wp2_with fail
    refine (alive_any _ HM.out).mono ?_
    rintro e w1 ⟨rfl, hb1⟩
    go_wp2_with fail
    refine (match_any a b _ (by omega) (by omega)).mono ?_
    rintro e w2 ⟨rfl, rfl⟩
    go_wp2_with fail
    refine (rmatch_any a b _ (by omega) (by omega)).mono ?_
    rintro e w2 ⟨rfl, rfl⟩
    go_wp2_with fail
    refine (match_any a a _ (by omega) (by omega)).mono ?_
    rintro e w2 ⟨rfl, rfl⟩
    rw [HR.out]
    go_wp2_with fail
    refine (match_any a b _ (by omega) (by omega)).mono ?_
    rintro e w2 ⟨rfl, rfl⟩
    cases e1 : matchB a b
    · go_wp2_with fail
      go_ret
      exact ⟨rfl, hb1⟩
    · have hz := (HP.out e1).1
      have hx := (HP.out e1).2
      go_wp2_with fail
      go_ret
      exact ⟨rfl, hb1⟩

theorem path_iff (s : ByteArray) : pathB s = true ↔ 1 ≤ s.size ∧ s.size ≤ 64 ∧ at_ s 0 = 47 ∧ allB plainB s = true := by
  unfold pathB
  simp only [Bool.and_eq_true, decide_eq_true_eq, beq_iff_eq, and_assoc]
theorem dfl_path {s d : ByteArray} (h : Dfl s d) (hs : pathB s = true) : pathB d = true ∧ matchB s d = true := by
  obtain ⟨h1, h2, h3, h4⟩ := (path_iff s).1 hs
  have hslash : pathB ⟨#[47]⟩ = true ∧ matchB s ⟨#[47]⟩ = true := by
    refine ⟨by decide, (match_iff s _).2 ?_⟩
    cases hl : bs s with
    | nil => rw [size_bs, hl] at h1; simp at h1
    | cons x l =>
      refine ⟨l, ?_, .inr (.inl (by unfold endB; rw [tl_bs]; decide))⟩
      have hx : x = 47 := by
        unfold at_ at h3
        rw [hl] at h3
        exact UInt8.toNat_inj.1 (by have : (47 : UInt8).toNat = 47 := rfl; simp at h3; omega)
      rw [hx]; rfl
  cases h with
  | none h => exact hslash
  | zero h => exact hslash
  | some k hk hl hx =>
    obtain ⟨hlt, hb, -⟩ := hl
    have e1 : bs (s.extract 0 k) = (bs s).take k := by rw [bs_extract, List.drop_zero]
    constructor
    · refine (path_iff _).2 ⟨by rw [ByteArray.size_extract]; omega, by rw [ByteArray.size_extract]; omega, ?_, ?_⟩
      · unfold at_ at h3 ⊢
        rw [e1]
        cases hl : bs s with
        | nil => rw [size_bs, hl] at h1; simp at h1
        | cons x l =>
          rw [hl] at h3
          cases k with
          | zero => omega
          | succ k => simpa using h3
      · unfold allB at h4 ⊢
        rw [e1]
        rw [List.all_eq_true] at h4 ⊢
        exact fun x hx => h4 x (List.mem_of_mem_take hx)
    · refine (match_iff s _).2 ⟨(bs s).drop k, by rw [e1, List.take_append_drop], .inr (.inr ?_)⟩
      rw [List.head?_drop, bs_get s k hlt]
      congr 1
      exact UInt8.toNat_inj.1 (by have := beq_iff_eq.1 hb; have h47 : (47 : UInt8).toNat = 47 := rfl; omega)
theorem dfl_size {s d : ByteArray} (h : Dfl s d) : d.size ≤ s.size + 1 := by
  cases h with
  | none h => show 1 ≤ _; omega
  | zero h => show 1 ≤ _; omega
  | some k hk hl hx => rw [ByteArray.size_extract]; omega
set_option maxRecDepth 100000 in
theorem pathDefaults_any (s : ByteArray) (w : World) (hs : s.size ≤ 140737488351232) (hm : HasMax w) :
    Calls Tryd.prog 3 #[.string s] w fun e w' => e = .returned (.bool true) ∧ Below w.heap.size w w' := by
  have HM := Lib.hid hm
  clear hm
  by_cases hbig : 1000 < s.size
  · go_enter Tryd.func3, Tryd.ntmps3
    go_wp2_with fail
    refine (alive_any _ HM.out).mono ?_
    rintro e w1 ⟨rfl, hb1⟩
    go_wp2_with fail
    go_ret
    exact ⟨rfl, hb1⟩
  · obtain ⟨d, hd⟩ := dfl_ex s
    have hz := dfl_size hd
    have HD := Lib.hid hd
    have HP := Lib.hid (dfl_path hd)
    clear hd
    go_enter Tryd.func3, Tryd.ntmps3
    go_wp2_with fail
    refine (default_any s d _ (by omega) HD.out).mono ?_
    rintro e w1 ⟨rfl, rfl⟩
    go_wp2_with fail
    refine (alive_any _ HM.out).mono ?_
    rintro e w1 ⟨rfl, hb1⟩
    go_wp2_with fail
    refine (pright_any s _ (by omega)).mono ?_
    rintro e w2 ⟨rfl, rfl⟩
    go_wp2_with fail
    refine (rright_any s _ (by omega)).mono ?_
    rintro e w2 ⟨rfl, rfl⟩
    go_wp2_with fail
    refine (rdefault_any s d _ (by omega) HD.out).mono ?_
    rintro e w2 ⟨rfl, rfl⟩
    go_wp2_with fail
    refine (pright_any s _ (by omega)).mono ?_
    rintro e w2 ⟨rfl, rfl⟩
    cases e1 : pathB s
    · go_wp2_with fail
      go_ret
      exact ⟨rfl, hb1⟩
    · have H1 := Lib.hid (HP.out e1).1
      have H2 := Lib.hid (HP.out e1).2
      go_wp2_with fail
      refine (pright_any d _ (by omega)).mono ?_
      rintro e w2 ⟨rfl, rfl⟩
      rw [H1.out]
      go_wp2_with fail
      refine (match_any s d _ (by omega) (by omega)).mono ?_
      rintro e w2 ⟨rfl, rfl⟩
      rw [H2.out]
      go_wp2_with fail
      go_ret
      exact ⟨rfl, hb1⟩
end Go.Proofs.YtnjmhkehckhihaaDoor
