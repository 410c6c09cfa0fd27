/- Contracts of package ascii and of its reference: tokens, octets and plain texts. -/
import Derived.Test.YtfbildneagjccaaAscii
namespace Go.Proofs.Ytfbildneagjccaa
open Go.RowKit

/-- Is each byte of a text such? -/
def allB (p : Int → Bool) (s : ByteArray) : Bool := (bs s).all fun c => p (c.toNat : Int)
theorem all_take (p : Int → Bool) (s : ByteArray) (k : Nat) (hk : k < s.size) : ((bs s).take (k + 1)).all (fun c => p (c.toNat : Int)) = (((bs s).take k).all (fun c => p (c.toNat : Int)) && p (at_ s k)) := by
  have h' : k < (bs s).length := by rw [← size_bs]; exact hk
  rw [List.take_succ_eq_append_getElem h', List.all_append]
  simp [at_, List.getD_eq_getElem?_getD, h']
theorem all_no (p : Int → Bool) (s : ByteArray) (k : Nat) (hk : k < s.size) (h : p (at_ s k) = false) : allB p s = false := by
  have h' : k < (bs s).length := by rw [← size_bs]; exact hk
  unfold allB
  rw [List.all_eq_false]
  refine ⟨(bs s)[k], List.getElem_mem h', ?_⟩
  simp [at_, List.getD_eq_getElem?_getD, h'] at h
  simp [h]
theorem all_yes (p : Int → Bool) (s : ByteArray) (k : Nat) (hk : s.size ≤ k) (h : ((bs s).take k).all (fun c => p (c.toNat : Int)) = true) : allB p s = true := by
  rw [List.take_of_length_le (by rw [← size_bs]; exact hk)] at h
  exact h

end Go.Proofs.Ytfbildneagjccaa
