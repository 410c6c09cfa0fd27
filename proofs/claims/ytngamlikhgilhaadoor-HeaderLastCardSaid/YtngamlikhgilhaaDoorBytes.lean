/- Texts as lists of bytes: plain facts; no program is named here. -/
namespace Go.Proofs.YtngamlikhgilhaaDoor

/-- A text's bytes, and the text of some bytes. -/
def bs (s : ByteArray) : List UInt8 := s.data.toList
def mk (l : List UInt8) : ByteArray := ⟨l.toArray⟩
theorem bs_mk (l : List UInt8) : bs (mk l) = l := rfl
theorem mk_bs (s : ByteArray) : mk (bs s) = s := rfl
theorem bs_inj {a b : ByteArray} (h : bs a = bs b) : a = b := by rw [← mk_bs a, ← mk_bs b, h]
theorem size_bs (s : ByteArray) : s.size = (bs s).length := by
  unfold bs
  rw [Array.length_toList]
  rfl
theorem size_mk (l : List UInt8) : (mk l).size = l.length := by rw [size_bs, bs_mk]
theorem bs_append (a b : ByteArray) : bs (a ++ b) = bs a ++ bs b := by
  simp [bs, ByteArray.data_append]
theorem bs_extract (s : ByteArray) (a b : Nat) : bs (s.extract a b) = ((bs s).take b).drop a := by
  simp [bs, ByteArray.data_extract, List.drop_take]
/-- The byte at a place. -/
def at_ (s : ByteArray) (k : Nat) : Int := (((bs s).getD k 0).toNat : Int)
theorem at_bd (s : ByteArray) (k : Nat) : 0 ≤ at_ s k ∧ at_ s k < 256 := by
  have := ((bs s).getD k 0).toNat_lt
  unfold at_
  omega
theorem at_get (s : ByteArray) (k : Nat) (h : k < s.size) : ((s[k]).toNat : Int) = at_ s k := by
  unfold at_ bs
  have h' : k < s.data.toList.length := by rw [Array.length_toList]; exact h
  rw [List.getD_eq_getElem?_getD, List.getElem?_eq_getElem h', Option.getD_some]
  rfl
end Go.Proofs.YtngamlikhgilhaaDoor
