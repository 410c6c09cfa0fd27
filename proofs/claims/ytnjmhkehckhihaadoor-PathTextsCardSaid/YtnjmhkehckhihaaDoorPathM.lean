/- Addresses: what stands behind a path is of no account; an address written is read as it was. Plain laws. -/
import Derived.Test.YtnjmhkehckhihaaDoorPathK
namespace Go.Proofs.YtnjmhkehckhihaaDoor
open Go.RowKit

theorem pre_more (s b p : ByteArray) (c : UInt8) (hc : c ∉ bs p) : preB (s ++ (⟨#[c]⟩ : ByteArray) ++ b) p = preB s p := by
  rw [Bool.eq_iff_iff, pre_iff, pre_iff, bs_append, bs_append]
  constructor
  · rintro ⟨l, hl⟩
    rw [List.append_assoc] at hl
    rcases List.append_eq_append_iff.1 hl with ⟨a, h1, h2⟩ | ⟨a, h1, h2⟩
    · cases a with
      | nil => exact ⟨[], by simp [h1]⟩
      | cons x a =>
        have hx : c = x := by
          have h3 : (bs (⟨#[c]⟩ : ByteArray) ++ bs b).head? = some c := rfl
          rw [h2] at h3
          simpa using h3.symm
        exact absurd (by rw [h1, hx]; simp) hc
    · exact ⟨a, h1⟩
  · rintro ⟨l, hl⟩
    exact ⟨l ++ (bs (⟨#[c]⟩ : ByteArray) ++ bs b), by rw [hl]; simp [List.append_assoc]⟩
theorem find_more (p : UInt8 → Bool) (c : UInt8) (hc : p c = true) (l r : List UInt8) : (l ++ c :: r).findIdx p = l.findIdx p := by
  induction l with
  | nil => simp [List.findIdx_cons, hc]
  | cons x l ih =>
    rw [List.cons_append, List.findIdx_cons, List.findIdx_cons, ih]
theorem pos_more (p : Int → Bool) (t b : ByteArray) (c : UInt8) (hc : p (c.toNat : Int) = true) : pos p (t ++ (⟨#[c]⟩ : ByteArray) ++ b) = pos p t := by
  unfold pos
  rw [bs_append, bs_append, List.append_assoc]
  exact find_more (fun c => p (c.toNat : Int)) c hc (bs t) (bs b)
theorem ext_more (t r : ByteArray) (k : Nat) (h : k ≤ t.size) : (t ++ r).extract 0 k = t.extract 0 k := by
  apply bs_inj
  rw [bs_extract, bs_extract, bs_append, List.drop_zero, List.drop_zero, List.take_append_of_le_length (by rw [← size_bs]; exact h)]
theorem ext_tail (t r : ByteArray) (k : Nat) (h : k ≤ t.size) : (t ++ r).extract k (t ++ r).size = t.extract k t.size ++ r := by
  apply bs_inj
  rw [bs_extract, bs_append, bs_append, bs_extract, ByteArray.size_append, List.take_of_length_le (by rw [List.length_append, ← size_bs, ← size_bs]; exact Nat.le_refl _), List.take_of_length_le (by rw [← size_bs]; exact Nat.le_refl _), List.drop_append_of_le_length (by rw [← size_bs]; exact h)]
theorem path_more (t b : ByteArray) (c : UInt8) (hc : askB (c.toNat : Int) = true) : pathS (t ++ (⟨#[c]⟩ : ByteArray) ++ b) = pathS t := by
  unfold pathS
  rw [pos_more askB t b c hc, ByteArray.append_assoc, ext_more _ _ _ (pos_le askB t)]
theorem stop_ask {c : Int} (h : askB c = true) : stopB c = true := by unfold stopB; rw [h]; simp
theorem parseR_more (sec : Bool) (t b : ByteArray) (c : UInt8) (hc : askB (c.toNat : Int) = true) : parseR sec (t ++ (⟨#[c]⟩ : ByteArray) ++ b) = parseR sec t := by
  have h1 : pos stopB (t ++ (⟨#[c]⟩ : ByteArray) ++ b) = pos stopB t := pos_more stopB t b c (stop_ask hc)
  have h2 : (t ++ (⟨#[c]⟩ : ByteArray) ++ b).extract 0 (pos stopB t) = t.extract 0 (pos stopB t) := by rw [ByteArray.append_assoc, ext_more _ _ _ (pos_le stopB t)]
  have h3 : pathS ((t ++ (⟨#[c]⟩ : ByteArray) ++ b).extract (pos stopB t) (t ++ (⟨#[c]⟩ : ByteArray) ++ b).size) = pathS (t.extract (pos stopB t) t.size) := by
    rw [ByteArray.append_assoc, ext_tail _ _ _ (pos_le stopB t), ← ByteArray.append_assoc, path_more _ _ _ hc]
  unfold parseR
  rw [h1, h2, h3]
theorem parse_more (s b : ByteArray) (c : UInt8) (hc : askB (c.toNat : Int) = true) (h1 : c ∉ bs safeS) (h2 : c ∉ bs openS) : parseO (s ++ (⟨#[c]⟩ : ByteArray) ++ b) = parseO s := by
  unfold parseO
  rw [pre_more s b safeS c h1, pre_more s b openS c h2]
  cases e1 : preB s safeS
  · cases e2 : preB s openS
    · simp only [Bool.false_eq_true, if_false]
    · have hz : 7 ≤ s.size := pre_size e2
      simp only [Bool.false_eq_true, if_false, if_true]
      rw [ByteArray.append_assoc, ext_tail _ _ _ hz, ← ByteArray.append_assoc, parseR_more _ _ _ _ hc]
  · have hz : 8 ≤ s.size := pre_size e1
    simp only [if_true]
    rw [ByteArray.append_assoc, ext_tail _ _ _ hz, ← ByteArray.append_assoc, parseR_more _ _ _ _ hc]
theorem parse_more63 (s b : ByteArray) : parseO (s ++ (⟨#[63]⟩ : ByteArray) ++ b) = parseO s := parse_more s b 63 (by decide) (by decide) (by decide)
theorem parse_more35 (s b : ByteArray) : parseO (s ++ (⟨#[35]⟩ : ByteArray) ++ b) = parseO s := parse_more s b 35 (by decide) (by decide) (by decide)

/-- What an address holds: texts no longer than what was read. -/
theorem canon_size {s h : ByteArray} (e : canonS s = some h) : h.size ≤ 64 ∧ h = lowS s := by
  unfold canonS at e
  split at e
  · rename_i h1
    cases e
    exact ⟨by rw [lowS_size]; exact h1.1, rfl⟩
  · cases e
theorem path_size {p : ByteArray} (h : pathB p = true) : p.size ≤ 64 := ((path_iff p).1 h).2.1
theorem parseR_size (sec : Bool) (t : ByteArray) : (parseR sec t).1.2.1.size ≤ 64 ∧ (parseR sec t).1.2.2.size ≤ 64 := by
  have h0 : ∀ n, (urlE n).1.2.1.size ≤ 64 ∧ (urlE n).1.2.2.size ≤ 64 := fun n => by
    show ByteArray.empty.size ≤ 64 ∧ ByteArray.empty.size ≤ 64
    decide
  unfold parseR
  cases e : canonS (t.extract 0 (pos stopB t)) with
  | none => exact h0 _
  | some h =>
    by_cases h1 : pathB (pathS (t.extract (pos stopB t) t.size)) = true
    · simp only [if_pos h1]
      exact ⟨(canon_size e).1, path_size h1⟩
    · simp only [if_neg h1]
      exact h0 _
end Go.Proofs.YtnjmhkehckhihaaDoor
