/- Canonical hosts: contracts of host.Canon and of the reference's. -/
import Derived.Test.YtngamlikhgilhaaDoorHostB
import Derived.Test.YtngamlikhgilhaaDoorDots
import Derived.Test.YtngamlikhgilhaaDoorShelf
import Derived.Deep.AppendSrc
import Derived.OwnWalk
namespace Go.Proofs.YtngamlikhgilhaaDoor
open Go.RowKit

/-- A host in small letters, where it is one. -/
def canonS (s : ByteArray) : Option ByteArray := if s.size ≤ 64 ∧ (dots (lowS s)).all partB = true then some (lowS s) else none
def canonV (o : Option ByteArray) : Value := .tuple #[.string (o.getD ByteArray.empty), .bool o.isSome]
theorem Below.snoc {w w1 w2 : World} (h : Below w.heap.size w w1) (h2 : Below w1.heap.size w1 w2) : Below w.heap.size w w2 := h.trans (h2.mono h.size)
theorem Below.drawn {w w1 : World} (h : Below w.heap.size w w1) (n : Nat) : Below w.heap.size w (w1.drewN n) := ⟨h.os, h.tape, h.output, h.size, h.block⟩
/-- The variable MaxLen can be read. -/
def HasMax (w : World) : Prop := ∃ m, w.cell? ⟨0, 0, none⟩ = some (.int .i64 m)
theorem lowS_size (s : ByteArray) : (lowS s).size = s.size := by unfold lowS; rw [size_mk, List.length_map, size_bs]
theorem info9 : (Tryd.prog.info? 9).map (fun i => (i.zero, i.size, i.bytes)) = some (some (.string ⟨#[]⟩), 1, 16) := by kernel_rfl
theorem cell_lt {w : World} {p : Addr} {v : Value} (h : w.cell? p = some v) : p.block < w.heap.size := by
  unfold World.cell? at h
  rcases Nat.lt_or_ge p.block w.heap.size with h1 | h1
  · exact h1
  · rw [Array.getElem?_eq_none h1] at h
    cases h
theorem max_keep {w w' : World} (h : HasMax w) (hb : Below w.heap.size w w') : HasMax w' := by
  obtain ⟨m, hm⟩ := h
  refine ⟨m, ?_⟩
  rw [hb.cell (cell_lt hm)]
  exact hm
theorem split_any (s : ByteArray) (w : World) (hs : s.size < 4294967281) (hm : HasMax w) :
    Calls Tryd.prog 68 #[.string s, .string ⟨#[46]⟩] w fun e w' => e = .returned (.slice (some ⟨w.heap.size, 0, none⟩) (dots s).length (dots s).length) ∧ w.alloc (.cells ((dots s).map Value.string).toArray 9) = w' := by
  obtain ⟨m, hm⟩ := hm
  refine (Any.strings_Split Tryd.lays146 info9 s ⟨#[46]⟩ m w hs hm (by decide)).mono ?_
  rintro e w' ⟨rfl, rfl⟩
  rw [dots_len, ← split_all s]
  exact ⟨rfl, rfl⟩

theorem get_bs (t : ByteArray) (k : Nat) (h : k < t.size) : t[k] = (bs t)[k]'(by rw [← size_bs]; exact h) := rfl
theorem bs_get (s : ByteArray) (k : Nat) (h : k < s.size) : (bs s)[k]? = some s[k] := by
  rw [List.getElem?_eq_getElem (by rw [← size_bs]; exact h)]
  rfl
def DotsAt (s : ByteArray) (q : List ByteArray) (f k : Nat) : Prop := cuts 46 (bs s) = q.map bs ++ cuts 46 ((bs s).drop f) ∧ ∀ j, f ≤ j → j < k → (bs s)[j]? ≠ some 46
theorem dotsAt_skip {s : ByteArray} {q : List ByteArray} {f k : Nat} (h : DotsAt s q f k) (hk : k < s.size) (hc : (((s[k]).toNat : Int) == 46) = false) : DotsAt s q f (k + 1) := by
  refine ⟨h.1, fun j h1 h2 => ?_⟩
  rcases Nat.lt_or_ge j k with h3 | h3
  · exact h.2 j h1 h3
  · obtain rfl : j = k := by omega
    rw [bs_get s j hk]
    intro e
    injection e with e
    rw [e] at hc
    simp at hc
theorem dotsAt_cut {s : ByteArray} {q : List ByteArray} {f k : Nat} (h : DotsAt s q f k) (hf : f ≤ k) (hk : k < s.size) (hc : (((s[k]).toNat : Int) == 46) = true) : DotsAt s (q ++ [s.extract f k]) (k + 1) (k + 1) := by
  have he : (bs s)[k]? = some 46 := by
    rw [bs_get s k hk]
    have h1 : (s[k]).toNat = 46 := by have := beq_iff_eq.1 hc; omega
    congr 1
    exact UInt8.toNat_inj.1 h1
  have hF : FirstAt ((bs s).drop f) 46 (k - f) := by
    refine ⟨by rw [List.getElem?_drop, show f + (k - f) = k by omega]; exact he, fun j hj => ?_⟩
    rw [List.getElem?_drop]
    exact h.2 (f + j) (by omega) (by omega)
  refine ⟨?_, fun j h1 h2 => by omega⟩
  rw [h.1, cuts_first 46 _ _ hF, List.map_append, List.append_assoc]
  congr 1
  rw [List.drop_drop, show f + (k - f + 1) = k + 1 by omega]
  simp [bs_extract, List.take_drop, show f + (k - f) = k by omega]
theorem dotsAt_end {s : ByteArray} {q : List ByteArray} {f k : Nat} (h : DotsAt s q f k) (hk : s.size ≤ k) : dots s = q ++ [s.extract f s.size] := by
  have hn : ∀ j : Nat, ((bs s).drop f)[j]? ≠ some 46 := fun j => by
    rw [List.getElem?_drop]
    rcases Nat.lt_or_ge (f + j) k with h3 | h3
    · exact h.2 _ (by omega) h3
    · rw [List.getElem?_eq_none (by rw [← size_bs]; omega)]
      simp
  have e : s.extract f s.size = mk ((bs s).drop f) := by
    apply bs_inj
    rw [bs_extract, bs_mk, List.take_of_length_le (by rw [← size_bs]; exact Nat.le_refl _)]
  rw [dots, h.1, cuts_none 46 _ hn, e, List.map_append, List.map_map]
  rw [show (mk ∘ bs) = id from funext mk_bs]
  simp
theorem dotsAt_start (s : ByteArray) : DotsAt s [] 0 0 := ⟨by simp, fun j _ h => by omega⟩
theorem one_strings (q : List ByteArray) : ∀ u ∈ q.map Value.string, u.oneCell' = true := by
  intro u hu
  obtain ⟨_, _, rfl⟩ := List.mem_map.1 hu
  rfl
/-- The value's texts can be read. -/
def RS (w : World) (v : Value) (q : List ByteArray) : Prop := ∃ b cp, v = .slice (some ⟨b, 0, none⟩) q.length cp ∧ q.length ≤ cp ∧ ∀ i, i < q.length → w.cell? ⟨b, 0 + i, none⟩ = some (.string (nth q i))
theorem RS.of_owns {w : World} {B : Nat} {v : Value} {q : List ByteArray} (hq : q ≠ []) (h : w.ownsRow B 9 1 v q.length (q.map Value.string)) : RS w v q := by
  obtain ⟨h1, ⟨rfl, h2⟩ | ⟨g, cap, cur, rfl, hb, hh, hn, hm, hs, ht⟩⟩ := h
  · exact absurd (List.length_eq_zero_iff.1 h2) hq
  · refine ⟨g, cap, rfl, hn, fun i hi => ?_⟩
    have h3 : (cur.toList.take (q.length * 1))[i]? = (q.map Value.string)[i]? := by rw [ht]
    rw [Nat.mul_one, List.getElem?_take_of_lt hi, List.getElem?_map, List.getElem?_eq_getElem hi] at h3
    simp only [World.cell?, hh]
    simp at h3 ⊢
    rw [h3]
    simp [nth, hi]
/-- What Parts hands back. -/
def RPost (w : World) (s : ByteArray) (e : Ending) (w' : World) : Prop := ∃ v, e = .returned v ∧ Below w.heap.size w w' ∧ RS w' v (dots s)

end Go.Proofs.YtngamlikhgilhaaDoor
