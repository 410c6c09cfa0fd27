/- Contracts: Iso and Uniso. -/
import Derived.Test.YtngamlikhgilhaaDoorDateI
import Derived.OpenShut
namespace Go.Proofs.YtngamlikhgilhaaDoor
open Go.RowKit

def isoS (y m d h n s : Nat) : ByteArray := fixS 4 y ++ (⟨#[45]⟩ : ByteArray) ++ fixS 2 m ++ (⟨#[45]⟩ : ByteArray) ++ fixS 2 d ++ (⟨#[84]⟩ : ByteArray) ++ handS h n s ++ (⟨#[90]⟩ : ByteArray)
theorem isoS_size (y m d h n s : Nat) : (isoS y m d h n s).size = 20 := by
  unfold isoS
  simp only [ByteArray.size_append, fixS_size, handS_size]
  rfl
def IsoP (t : Int) (w : World) (e : Ending) (w' : World) : Prop := ∃ y m d h n s : Nat, CkN t y m d h n s ∧ e = .returned (.tuple #[.string (isoS y m d h n s), .bool true]) ∧ Below w.heap.size w w'
/-- A text that tells a time, as archives have it. -/
def IsIso (x : ByteArray) (t : Int) : Prop := 0 ≤ t ∧ t ≤ 253402300799 ∧ ∃ y m d h n s : Nat, CkN t y m d h n s ∧ x = isoS y m d h n s
theorem isIso_uniq {x : ByteArray} {t t' : Int} (a : IsIso x t) (b : IsIso x t') : t = t' := by
  obtain ⟨-, -, y, m, d, h, n, s, hc, hx⟩ := a
  obtain ⟨-, -, y', m', d', h', n', s', hc', hx'⟩ := b
  rw [hx] at hx'
  have hl := congrArg bs hx'
  have k : ∀ w : Nat, ∀ a b : Nat, a < 10 ^ w → b < 10 ^ w → fixL w a = fixL w b → a = b := fun w a b ha hb he => by
    have := congrArg decV he
    rw [fixL_val w a ha, fixL_val w b hb] at this
    omega
  have e := fun i j => congrArg (fun l : List UInt8 => (l.take j).drop i) hl
  obtain rfl := k 4 y y' hc.y1 hc'.y1 (e 0 4)
  obtain rfl := k 2 m m' (by have := hc.m1; omega) (by have := hc'.m1; omega) (e 5 7)
  obtain rfl := k 2 d d' hc.d1 hc'.d1 (e 8 10)
  obtain rfl := k 2 h h' hc.h1 hc'.h1 (e 11 13)
  obtain rfl := k 2 n n' hc.n1 hc'.n1 (e 14 16)
  obtain rfl := k 2 s s' hc.s1 hc'.s1 (e 17 19)
  exact hc.t.symm.trans hc'.t
theorem unf_fix (w n : Nat) (x : ByteArray) (h0 : 1 ≤ w) (h1 : w ≤ 18) (hn : n < 10 ^ w) (hx : bs x = fixL w n) : unfO x = some (n : Int) := by
  have hz : x.size = w := by rw [size_bs, hx, fixL_len]
  rw [unf_yes (by omega) (by omega) (by rw [hx]; exact fixL_dig w n), hx, fixL_val w n hn]
/-- The number at a place of a text; 0: there is none. -/
def numAt (x : ByteArray) (a b : Nat) : Int := (unfO (x.extract a b)).getD 0
theorem numAt_bd (x : ByteArray) (a b : Nat) : 0 ≤ numAt x a b ∧ numAt x a b < 1000000000000000000 := unfO_bd _
theorem iso_nums {x : ByteArray} {y m d h n s : Nat} (hy : y < 10000) (hm : m < 100) (hd : d < 100) (hh : h < 100) (hn : n < 100) (hs : s < 100) (hx : x = isoS y m d h n s) :
    numAt x 0 4 = y ∧ numAt x 5 7 = m ∧ numAt x 8 10 = d ∧ numAt x 11 13 = h ∧ numAt x 14 16 = n ∧ numAt x 17 19 = s := by
  subst hx
  unfold numAt
  refine ⟨?_, ?_, ?_, ?_, ?_, ?_⟩
  · rw [unf_fix 4 y _ (by decide) (by decide) hy (by rw [bs_extract]; rfl)]; rfl
  · rw [unf_fix 2 m _ (by decide) (by decide) hm (by rw [bs_extract]; rfl)]; rfl
  · rw [unf_fix 2 d _ (by decide) (by decide) hd (by rw [bs_extract]; rfl)]; rfl
  · rw [unf_fix 2 h _ (by decide) (by decide) hh (by rw [bs_extract]; rfl)]; rfl
  · rw [unf_fix 2 n _ (by decide) (by decide) hn (by rw [bs_extract]; rfl)]; rfl
  · rw [unf_fix 2 s _ (by decide) (by decide) hs (by rw [bs_extract]; rfl)]; rfl
end Go.Proofs.YtngamlikhgilhaaDoor
