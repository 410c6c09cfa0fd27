/- Canonical hosts: contracts of host.Canon and of the reference's, second text. -/
import Derived.Test.YtngamlikhgilhaaDoorHostC
namespace Go.Proofs.YtngamlikhgilhaaDoor
open Go.RowKit

theorem canon_long {s : ByteArray} (h : 64 < s.size) : canonS s = none := if_neg fun h' => by omega
theorem canon_no {s : ByteArray} (h : (dots (lowS s)).all partB = false) : canonS s = none := if_neg fun h' => by rw [h] at h'; simp at h'
theorem canon_yes {s : ByteArray} (h1 : s.size ≤ 64) (h : (dots (lowS s)).all partB = true) : canonS s = some (lowS s) := if_pos ⟨h1, h⟩
theorem canon_short {s : ByteArray} (h : s.size < 1) : canonS s = none := by
  refine canon_no ?_
  have h0 : lowS s = ⟨#[]⟩ := by
    apply bs_inj
    unfold lowS
    rw [bs_mk, List.eq_nil_of_length_eq_zero (by rw [← size_bs]; omega : (bs s).length = 0)]
    rfl
  rw [h0]
  decide
theorem canonV_none {s : ByteArray} (h : canonS s = none) : canonV (canonS s) = .tuple #[.string ByteArray.empty, .bool false] := by rw [h]; rfl
theorem canonV_some {s t : ByteArray} (h : canonS s = some t) : canonV (canonS s) = .tuple #[.string t, .bool true] := by rw [h]; rfl
theorem fresh_texts (W : World) (q : List ByteArray) : ∀ i, i < q.length → (W.alloc (.cells (q.map Value.string).toArray 9)).cell? ⟨W.heap.size, 0 + i, none⟩ = some (.string (nth q i)) := by
  intro i hi
  have h1 := heap_alloc_new W (.cells (q.map Value.string).toArray 9)
  simp only [World.cell?, h1]
  simp [hi, nth]
theorem nth_mem {q : List ByteArray} {i : Nat} (h : i < q.length) : nth q i ∈ q := by rw [nth_lt h]; exact List.getElem_mem h

set_option maxRecDepth 100000 in
theorem canon_any (s : ByteArray) (w : World) (hs : s.size ≤ 9223372036854775806) (hm : HasMax w) :
    Calls Tryd.prog 44 #[.string s] w fun e w' => e = .returned (canonV (canonS s)) ∧ Below w.heap.size w w' := by
  have HM := Lib.hid hm
  clear hm
  by_cases h64 : 64 < s.size
  · have HV := Lib.hid (canonV_none (canon_long h64))
    go_enter Tryd.func44, Tryd.ntmps44
    go_wp2_with fail
    go_ret2
    exact ⟨by rw [HV.out]; rfl, Below.refl _ _⟩
  · have hz : (lowS s).size ≤ 64 := by rw [lowS_size]; omega
    have HZ := Lib.hid hz
    have HQ := Lib.hid (dots_sizes (lowS s))
    have HL := Lib.hid (dots_len (lowS s))
    have HC := Lib.hid (Lib.countB_le ⟨#[46]⟩ (by decide) _ (lowS s) (Nat.le_refl _))
    clear hz
    go_enter Tryd.func44, Tryd.ntmps44
    go_wp2_with fail
    refine (lower_any s _ (by omega)).mono ?_
    rintro e w1 ⟨rfl, hb1⟩
    have HM1 := Lib.hid (max_keep HM.out hb1)
    go_wp2_with fail
    refine (split_any (lowS s) _ (by have := HZ.out; omega) HM1.out).mono ?_
    rintro e w2 ⟨rfl, rfl⟩
    go_wp2_with fail
    refine (right_any (dots (lowS s)) w1.heap.size 0 _ _ (by have := HZ.out; have := HL.out; have := HC.out; omega) (Nat.le_refl _) (fun i hi => by have := HQ.out _ (nth_mem hi); have := HZ.out; omega) (fresh_texts w1 _)).mono ?_
    rintro e w3 ⟨rfl, rfl⟩
    have hb2 : Below w.heap.size w (w1.alloc (.cells ((dots (lowS s)).map Value.string).toArray 9)) := hb1.alloc hb1.size _
    cases hp : (dots (lowS s)).all partB
    · have HV := Lib.hid (canonV_none (canon_no hp))
      go_wp2_with fail
      go_ret2
      exact ⟨by rw [HV.out]; rfl, hb2⟩
    · have HV := Lib.hid (canonV_some (canon_yes (by omega) hp))
      go_wp2_with fail
      go_ret2
      exact ⟨by rw [HV.out]; rfl, hb2⟩

end Go.Proofs.YtngamlikhgilhaaDoor
