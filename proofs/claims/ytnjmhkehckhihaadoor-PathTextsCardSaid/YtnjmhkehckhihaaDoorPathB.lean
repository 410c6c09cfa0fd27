/- Paths: which match which one; the path of cookies that have none. -/
import Derived.Test.YtnjmhkehckhihaaDoorPath
namespace Go.Proofs.YtnjmhkehckhihaaDoor
open Go.RowKit

/-- Is a path below another one? -/
def matchB (r c : ByteArray) : Bool := preB r c && ((r.extract c.size r.size).toList.isEmpty || endB c || at_ (r.extract c.size r.size) 0 == 47)
theorem match_no {r c : ByteArray} (h : preB r c = false) : matchB r c = false := by unfold matchB; rw [h]; rfl
theorem empty_iff (t : ByteArray) : t.toList.isEmpty = true ↔ t.size = 0 := by
  rw [tl_bs, List.isEmpty_iff, size_bs]
  exact ⟨fun h => by rw [h]; rfl, List.eq_nil_of_length_eq_zero⟩
set_option maxRecDepth 100000 in
theorem match_any (r c : ByteArray) (w : World) (hr : r.size ≤ 9223372036854775807) (hc : c.size ≤ 9223372036854775807) : Calls Tryd.prog 14 #[.string r, .string c] w fun e w' => e = .returned (.bool (matchB r c)) ∧ w = w' := by
  cases h : preB r c
  · have HV := Lib.hid (match_no h)
    have HP := Lib.hid h
    clear h
    go_enter Tryd.func14, Tryd.ntmps14
    go_wp2_with fail
    refine (cutPrefix_any r c _ hr).mono ?_
    rintro e w1 ⟨rfl, rfl⟩
    rw [HP.out]
    go_wp2_with fail
    go_ret
    exact ⟨ret_bool HV.out.symm, rfl⟩
  · have hT : cutS r c = r.extract c.size r.size := by unfold cutS; rw [h]; rfl
    have hM : matchB r c = ((r.extract c.size r.size).toList.isEmpty || endB c || at_ (r.extract c.size r.size) 0 == 47) := by unfold matchB; rw [h]; rfl
    have HP := Lib.hid h
    generalize r.extract c.size r.size = t at hT hM
    have HT := Lib.hid hT
    clear h hT
    by_cases hz : t.size = 0
    · have ht := (empty_iff t).2 hz
      have HV := Lib.hid (show matchB r c = true by rw [hM, ht]; rfl)
      have h0 : t.toList = [] := List.isEmpty_iff.1 ht
      clear hM hz ht
      go_enter Tryd.func14, Tryd.ntmps14
      go_wp2_with fail
      refine (cutPrefix_any r c _ hr).mono ?_
      rintro e w1 ⟨rfl, rfl⟩
      rw [HP.out, HT.out]
      go_wp2_with fail
      go_ret
      exact ⟨ret_bool HV.out.symm, rfl⟩
    · have h0 : t.toList.isEmpty = false := by rw [← Bool.not_eq_true, empty_iff]; exact hz
      have z0 : 0 < t.size := by omega
      have hx := at_get t 0 z0
      rw [h0, Bool.false_or, ← hx] at hM
      cases he : endB c
      · cases hb : (((t[0]'z0).toNat : Int) == 47)
        all_goals
          have HV := Lib.hid (show matchB r c = (((t[0]'z0).toNat : Int) == 47) by rw [hM, he, Bool.false_or])
          have HE := Lib.hid he
          have h1 : t.toList ≠ [] := fun h => by rw [h] at h0; simp at h0
          clear hM hx hz he
          go_enter Tryd.func14, Tryd.ntmps14
          go_wp2_with fail
          refine (cutPrefix_any r c _ hr).mono ?_
          rintro e w1 ⟨rfl, rfl⟩
          rw [HP.out, HT.out]
          go_wp2_with fail
          refine (suffix_any c _ hc).mono ?_
          rintro e w2 ⟨rfl, rfl⟩
          rw [HE.out]
          go_wp2_with fail
          go_ret
          exact ⟨ret_bool (HV.out.trans hb).symm, rfl⟩
      · have HV := Lib.hid (show matchB r c = true by rw [hM, he]; rfl)
        have HE := Lib.hid he
        clear hM hx hz he
        go_enter Tryd.func14, Tryd.ntmps14
        go_wp2_with fail
        refine (cutPrefix_any r c _ hr).mono ?_
        rintro e w1 ⟨rfl, rfl⟩
        rw [HP.out, HT.out]
        go_wp2_with fail
        refine (suffix_any c _ hc).mono ?_
        rintro e w2 ⟨rfl, rfl⟩
        rw [HE.out]
        go_wp2_with fail
        go_ret
        exact ⟨ret_bool HV.out.symm, rfl⟩

theorem pre_iff (r c : ByteArray) : preB r c = true ↔ ∃ l, bs r = bs c ++ l := by
  unfold preB
  rw [Bool.and_eq_true, decide_eq_true_eq, str_eq]
  constructor
  · rintro ⟨h1, h2⟩
    refine ⟨(bs r).drop c.size, ?_⟩
    have h3 : bs c = (bs r).take c.size := by rw [← h2, bs_extract, List.drop_zero, size_bs, size_bs, bs_extract, List.drop_zero, List.length_take]; simp
    conv => lhs; rw [← List.take_append_drop c.size (bs r)]
    rw [← h3]
  · rintro ⟨l, h⟩
    have hz : c.size ≤ r.size := by rw [size_bs, size_bs, h, List.length_append]; omega
    refine ⟨hz, bs_inj ?_⟩
    rw [bs_extract, List.drop_zero, h, size_bs, List.take_left']
    rfl
theorem pre_refl (r : ByteArray) : preB r r = true := (pre_iff r r).2 ⟨[], by simp⟩
theorem match_refl (r : ByteArray) : matchB r r = true := by
  unfold matchB
  rw [pre_refl, (empty_iff _).2 (by rw [ByteArray.size_extract]; omega)]
  rfl
theorem pre_long {r c : ByteArray} (h : (r.toList == c.toList) = false) (hz : r.size ≤ c.size) : preB r c = false := by
  rw [← Bool.not_eq_true, pre_iff]
  rintro ⟨l, hl⟩
  have h1 : (bs r).length = (bs c).length + l.length := by rw [hl, List.length_append]
  rw [size_bs, size_bs] at hz
  have h2 : l = [] := List.eq_nil_of_length_eq_zero (by omega)
  rw [h2, List.append_nil] at hl
  have := (str_eq r c).2 (bs_inj hl)
  rw [this] at h
  cases h

set_option maxRecDepth 100000 in
theorem rmatch_any (r c : ByteArray) (w : World) (_ : r.size ≤ 9223372036854775807) (hc : c.size ≤ 9223372036854775807) : Calls Tryd.prog 15 #[.string r, .string c] w fun e w' => e = .returned (.bool (matchB r c)) ∧ w = w' := by
  cases h1 : (r.toList == c.toList)
  case true =>
    have HV := Lib.hid (show matchB r c = true by rw [(str_eq r c).1 h1]; exact match_refl c)
    go_enter Tryd.func15, Tryd.ntmps15
    go_wp2_with fail
    go_ret
    exact ⟨ret_bool HV.out.symm, rfl⟩
  case false =>
  by_cases hz : r.size ≤ c.size
  · have HV := Lib.hid (match_no (pre_long h1 hz))
    go_enter Tryd.func15, Tryd.ntmps15
    go_wp2_with fail
    go_ret
    exact ⟨ret_bool HV.out.symm, rfl⟩
  have hlt : c.size < r.size := by omega
  have hle : c.size ≤ r.size := by omega
  cases h2 : ((r.extract 0 c.size).toList == c.toList)
  case false =>
    have HV := Lib.hid (show matchB r c = false from match_no (by unfold preB; rw [h2, Bool.and_false]))
    have h3 : ((r.extract 0 c.size).toList != c.toList) = true := by rw [bne, h2]; rfl
    go_enter Tryd.func15, Tryd.ntmps15
    go_wp2_with fail
    go_ret
    exact ⟨ret_bool HV.out.symm, rfl⟩
  case true =>
  have h3 : ((r.extract 0 c.size).toList != c.toList) = false := by rw [bne, h2]; rfl
  have hp : preB r c = true := by unfold preB; rw [h2, decide_eq_true hle]; rfl
  have he : (r.extract c.size r.size).toList.isEmpty = false := by rw [← Bool.not_eq_true, empty_iff, ByteArray.size_extract]; omega
  have hM : matchB r c = (endB c || (((r[c.size]'hlt).toNat : Int) == 47)) := by
    unfold matchB
    rw [hp, he, Bool.true_and, Bool.false_or]
    congr 2
    have z0 : 0 < (r.extract c.size r.size).size := by rw [ByteArray.size_extract]; omega
    rw [← at_get _ 0 z0, get_bs, get_bs]
    congr 2
    simp [bs_extract]
  clear hp he
  by_cases hc0 : c.size = 0
  · cases hb : (((r[c.size]'hlt).toNat : Int) == 47)
    all_goals
      have HV := Lib.hid (show matchB r c = (((r[c.size]'hlt).toNat : Int) == 47) by rw [hM, end_no hc0, Bool.false_or])
      have hc1 : ¬ (0 < (c.size : Int)) := by omega
      clear hM hc0
      go_enter Tryd.func15, Tryd.ntmps15
      go_wp2_with fail
      go_ret
      exact ⟨ret_bool (HV.out.trans hb).symm, rfl⟩
  · have hc1 : 0 < c.size := by omega
    have hc2 : c.size - 1 < c.size := by omega
    cases ha : (((c[c.size - 1]'hc2).toNat : Int) == 47)
    · cases hb : (((r[c.size]'hlt).toNat : Int) == 47)
      all_goals
        have HV := Lib.hid (show matchB r c = (((r[c.size]'hlt).toNat : Int) == 47) by rw [hM, end_at c hc1 hc2, ha, Bool.false_or])
        clear hM
        go_enter Tryd.func15, Tryd.ntmps15
        go_wp2_with fail
        go_ret
        exact ⟨ret_bool (HV.out.trans hb).symm, rfl⟩
    · have HV := Lib.hid (show matchB r c = true by rw [hM, end_at c hc1 hc2, ha, Bool.true_or])
      clear hM
      go_enter Tryd.func15, Tryd.ntmps15
      go_wp2_with fail
      go_ret
      exact ⟨ret_bool HV.out.symm, rfl⟩
end Go.Proofs.YtnjmhkehckhihaaDoor
