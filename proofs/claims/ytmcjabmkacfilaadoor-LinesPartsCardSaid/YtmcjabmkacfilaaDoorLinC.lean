/- A text's lines: the plain law, and what the loops over a text keep. -/
import Derived.Test.YtmcjabmkacfilaaDoorLinA
namespace Go.Proofs.YtmcjabmkacfilaaDoor

/-- The lines of what stands between the bytes 10. -/
def linP : List (List UInt8) → List (List UInt8)
  | [] => []
  | [x] => if x = [] then [] else [x]
  | x :: y :: r => chop x :: linP (y :: r)
def linL (l : List UInt8) : List (List UInt8) := linP (cuts 10 l)
def linesS (s : ByteArray) : List ByteArray := (linL (bs s)).map mk
theorem linL_nil : linL [] = [] := rfl
theorem linL_first {l : List UInt8} {k : Nat} (h : FirstAt l 10 k) : linL l = chop (l.take k) :: linL (l.drop (k + 1)) := by
  unfold linL
  rw [cuts_first 10 l k h]
  cases hc : cuts 10 (l.drop (k + 1)) with
  | nil => exact absurd hc (cuts_ne _ _)
  | cons y r => rfl
theorem linL_none {l : List UInt8} (h : ∀ k : Nat, l[k]? ≠ some 10) (hl : l ≠ []) : linL l = [l] := by
  unfold linL
  rw [cuts_none 10 l h]
  unfold linP
  rw [if_neg hl]
theorem ixb_first {l : List UInt8} {c : UInt8} (h : 0 ≤ Lib.indexByte l c) : FirstAt l c (Lib.indexByte l c).toNat := by
  have h2 : Lib.indexByte l c = ((Lib.indexByte l c).toNat : Int) := by omega
  exact Lib.indexByte_some h2
theorem ixb_none {l : List UInt8} {c : UInt8} (h : ¬ 0 ≤ Lib.indexByte l c) : ∀ k : Nat, l[k]? ≠ some c := by
  have := Lib.indexByte_ge l c
  exact Lib.indexByte_none (by omega)
theorem chop_len (l : List UInt8) : (chop l).length ≤ l.length := by
  unfold chop
  split
  · simp
  · exact Nat.le_refl _
end Go.Proofs.YtmcjabmkacfilaaDoor
