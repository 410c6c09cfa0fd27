/- Contracts of package ascii and of its reference: tokens, octets and plain texts, second part. -/
import Derived.Test.YtngamlikhgilhaaDoorAsciiB
import Derived.Laws.Strings
namespace Go.Proofs.YtngamlikhgilhaaDoor
open Go.RowKit

theorem tl_bs (s : ByteArray) : s.toList = bs s := ByteArray.toList_eq s
theorem str_eq (a b : ByteArray) : (a.toList == b.toList) = true ↔ a = b := by
  rw [beq_iff_eq, tl_bs, tl_bs]
  exact ⟨bs_inj, fun h => by rw [h]⟩
/-- Is a text a token? -/
def tokB (s : ByteArray) : Bool := !(bs s).isEmpty && allB nameB s
theorem octets_any (s : ByteArray) (w : World) (hs : s.size ≤ 9223372036854775807) : Calls Tryd.prog 47 #[.string s] w fun e w' => e = .returned (.bool (allB octB s)) ∧ w = w' := by
  go_enter Tryd.func47, Tryd.ntmps47
  go_wp2_with fail
  refine (all_oct s _ hs).mono ?_
  rintro e w' ⟨rfl, rfl⟩
  go_wp2_with fail
  go_ret
  exact ⟨rfl, rfl⟩
theorem plain_any (s : ByteArray) (w : World) (hs : s.size ≤ 9223372036854775807) : Calls Tryd.prog 69 #[.string s] w fun e w' => e = .returned (.bool (allB plainB s)) ∧ w = w' := by
  go_enter Tryd.func69, Tryd.ntmps69
  go_wp2_with fail
  refine (all_plain s _ hs).mono ?_
  rintro e w' ⟨rfl, rfl⟩
  go_wp2_with fail
  go_ret
  exact ⟨rfl, rfl⟩
theorem token_any (s : ByteArray) (w : World) (hs : s.size ≤ 9223372036854775807) : Calls Tryd.prog 46 #[.string s] w fun e w' => e = .returned (.bool (tokB s)) ∧ w = w' := by
  cases h : (bs s).isEmpty
  · have h0 : s.toList.isEmpty = false := by rw [tl_bs]; exact h
    have HT := Lib.hid (show tokB s = allB nameB s by simp [tokB, h])
    clear h
    go_enter Tryd.func46, Tryd.ntmps46
    go_wp2_with fail
    refine (all_tok s _ hs).mono ?_
    rintro e w' ⟨rfl, rfl⟩
    go_wp2_with fail
    go_ret
    exact ⟨ret_bool HT.out.symm, rfl⟩
  · have h0 : s.toList = [] := by rw [tl_bs]; simpa using h
    have HT := Lib.hid (show tokB s = false by simp [tokB, h])
    clear h
    go_enter Tryd.func46, Tryd.ntmps46
    go_wp2_with fail
    go_ret
    exact ⟨ret_bool HT.out.symm, rfl⟩
end Go.Proofs.YtngamlikhgilhaaDoor
