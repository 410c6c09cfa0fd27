/- Contracts of package ascii and of its reference: tokens, octets and plain texts, second part. -/
import Derived.Test.YtnjmhkehckhihaaDoorAsciiB
import Derived.Laws.Strings
namespace Go.Proofs.YtnjmhkehckhihaaDoor
open Go.RowKit

theorem tl_bs (s : ByteArray) : s.toList = bs s := ByteArray.toList_eq s
theorem str_eq (a b : ByteArray) : (a.toList == b.toList) = true ↔ a = b := by
  rw [beq_iff_eq, tl_bs, tl_bs]
  exact ⟨bs_inj, fun h => by rw [h]⟩
/-- Is a text a token? -/
def tokB (s : ByteArray) : Bool := !(bs s).isEmpty && allB nameB s
theorem plain_any (s : ByteArray) (w : World) (hs : s.size ≤ 9223372036854775807) : Calls Tryd.prog 21 #[.string s] w fun e w' => e = .returned (.bool (allB plainB s)) ∧ w = w' := by
  go_enter Tryd.func21, Tryd.ntmps21
  go_wp2_with fail
  refine (all_plain s _ hs).mono ?_
  rintro e w' ⟨rfl, rfl⟩
  go_wp2_with fail
  go_ret
  exact ⟨rfl, rfl⟩
end Go.Proofs.YtnjmhkehckhihaaDoor
