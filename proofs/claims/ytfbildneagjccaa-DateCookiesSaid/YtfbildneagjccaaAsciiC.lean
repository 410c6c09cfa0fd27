/- Contracts of package ascii and of its reference: tokens, octets and plain texts, second part. -/
import Derived.Test.YtfbildneagjccaaAsciiB
import Derived.Laws.Strings
namespace Go.Proofs.Ytfbildneagjccaa
open Go.RowKit

theorem tl_bs (s : ByteArray) : s.toList = bs s := ByteArray.toList_eq s
theorem str_eq (a b : ByteArray) : (a.toList == b.toList) = true ↔ a = b := by
  rw [beq_iff_eq, tl_bs, tl_bs]
  exact ⟨bs_inj, fun h => by rw [h]⟩
/-- Is a text a token? -/
def tokB (s : ByteArray) : Bool := !(bs s).isEmpty && allB nameB s
end Go.Proofs.Ytfbildneagjccaa
