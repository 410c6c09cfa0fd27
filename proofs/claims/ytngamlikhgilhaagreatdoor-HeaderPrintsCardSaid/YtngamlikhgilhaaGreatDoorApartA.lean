/- Texts of headers: what they look like, and that they tell headers apart: plain laws. -/
import Derived.Test.YtngamlikhgilhaaGreatDoorRoundA
import Derived.Test.YtngamlikhgilhaaGreatDoorRightR
import Derived.Test.YtngamlikhgilhaaGreatDoorRBlk
namespace Go.Proofs.YtngamlikhgilhaaGreatDoor
open Go.RowKit Go.Shelf

def SeenL (l : List UInt8) : Prop := ∀ c ∈ l, 32 ≤ c.toNat ∧ c.toNat ≤ 126
instance (l : List UInt8) : Decidable (SeenL l) := inferInstanceAs (Decidable (∀ c ∈ l, 32 ≤ c.toNat ∧ c.toNat ≤ 126))
theorem SeenL.app {a b : List UInt8} (h : SeenL a) (g : SeenL b) : SeenL (a ++ b) := fun c hc => (List.mem_append.1 hc).elim (h c) (g c)
theorem SeenL.cons {x : UInt8} {b : List UInt8} (h : 32 ≤ x.toNat ∧ x.toNat ≤ 126) (g : SeenL b) : SeenL (x :: b) := fun c hc => by
  rcases List.mem_cons.1 hc with rfl | hc
  · exact h
  · exact g c hc
theorem SeenL.ifL {b : Bool} {l : List UInt8} (h : SeenL l) : SeenL (ifL b l) := by
  cases b
  · exact fun c hc => by cases hc
  · exact .cons (by decide) (.cons (by decide) h)
theorem tok_seen {s : ByteArray} (h : tokB s = true) : SeenL (bs s) := by
  unfold tokB at h
  rw [Bool.and_eq_true] at h
  intro x hx
  have := allB_at h.2 x hx
  simp only [nameB, wi, Bool.or_eq_true, Bool.and_eq_true, decide_eq_true_eq, beq_iff_eq] at this
  omega
theorem oct_seen {s : ByteArray} (h : allB octB s = true) : SeenL (bs s) := by
  intro x hx
  have := allB_at h x hx
  simp only [octB, wi, Bool.and_eq_true, decide_eq_true_eq] at this
  omega
theorem plain_seen {s : ByteArray} (h : allB plainB s = true) : SeenL (bs s) := by
  intro x hx
  have := allB_at h x hx
  simp only [plainB, wi, Bool.and_eq_true, decide_eq_true_eq] at this
  omega
theorem dom_seen {d : ByteArray} (h : domB d = true) : SeenL (bs d) := by
  rcases of_decide_eq_true h with h9 | h9
  · rw [h9]; exact fun c hc => by cases hc
  · intro x hx
    rcases cuts_mem 46 x (bs d) hx with rfl | ⟨q, hq, hx2⟩
    · decide
    · have h3 : partB (mk q) = true := List.all_eq_true.1 (canon_of h9).2 _ (List.mem_map.2 ⟨q, hq, rfl⟩)
      have h4 := part_at h3 x (by rw [bs_mk]; exact hx2)
      omega
theorem way_parts {p : ByteArray} (h : wayB p = true) : p.size ≤ 64 ∧ SeenL (bs p) := by
  rcases of_decide_eq_true h with h9 | h9
  · rw [h9]; exact ⟨by decide, fun c hc => by cases hc⟩
  · unfold pathB at h9
    simp only [Bool.and_eq_true, decide_eq_true_eq] at h9
    exact ⟨h9.1.1.2, plain_seen h9.2⟩
theorem dom_size {d : ByteArray} (h : domB d = true) : d.size ≤ 64 := by
  rcases of_decide_eq_true h with h9 | h9
  · rw [h9]; decide
  · unfold canonS at h9
    split at h9
    · rename_i h1; exact h1.1
    · cases h9
theorem dig_seen {l : List UInt8} (h : allD l = true) : SeenL l := fun x hx => by
  have := dig_range h x hx
  omega
theorem when_seen {t : Int} {x : ByteArray} (hx : IsWhen t x) : SeenL (bs x) := by
  obtain ⟨k, y, m, d, h, n, s, h1, h2, h3, h4, rfl⟩ := hx
  have hd : SeenL (bs (dayS k)) := by
    have : k = 0 ∨ k = 1 ∨ k = 2 ∨ k = 3 ∨ k = 4 ∨ k = 5 ∨ k = 6 := by omega
    rcases this with rfl | rfl | rfl | rfl | rfl | rfl | rfl <;> decide
  have hm : SeenL (bs (monS m)) := by
    have : m = 0 ∨ m = 1 ∨ m = 2 ∨ m = 3 ∨ m = 4 ∨ m = 5 ∨ m = 6 ∨ m = 7 ∨ m = 8 ∨ m = 9 ∨ m = 10 ∨ m = 11 := by omega
    rcases this with rfl | rfl | rfl | rfl | rfl | rfl | rfl | rfl | rfl | rfl | rfl | rfl <;> decide
  have hf : ∀ w n, SeenL (fixL w n) := fun w n => dig_seen (fixL_dig w n)
  rw [imf_bs, hand_bs]
  exact hd.app (.cons (by decide) (.cons (by decide) ((hf 2 d).app (.cons (by decide) (hm.app (.cons (by decide) ((hf 4 y).app (.cons (by decide) (((hf 2 h).app (.cons (by decide) ((hf 2 n).app (.cons (by decide) (hf 2 s))))).app (.cons (by decide) (by decide)))))))))))
theorem site_seen (n : Int) : SeenL (bs (siteT n)) := by
  unfold siteT
  split
  · decide
  split
  · decide
  split
  · decide
  · decide
theorem print_seen {h : Hd} {x : ByteArray} (hr : rightB h = true) (hx : IsWhen h.ex x) : SeenL (printL h x) := by
  unfold rightB at hr
  simp only [Bool.and_eq_true] at hr
  obtain ⟨⟨⟨⟨r1, r2⟩, r3⟩, r4⟩, -⟩ := hr
  unfold printL
  refine ((((((SeenL.app (tok_seen r3) (.cons (by decide) (oct_seen r4))).app ?_).app ?_).app ?_).app ?_).app ?_).app ?_
  · exact .ifL ((show SeenL dOMt by decide).app (.cons (by decide) (dom_seen r1)))
  · exact .ifL ((show SeenL pTHt by decide).app (.cons (by decide) (way_parts r2).2))
  · exact .ifL ((show SeenL eXPt by decide).app (.cons (by decide) (when_seen hx)))
  · exact .ifL (by decide)
  · exact .ifL (by decide)
  · exact .ifL ((show SeenL sSTt by decide).app (.cons (by decide) (site_seen _)))
theorem print_inj {g h : Hd} {x y : ByteArray} (hg : rightB g = true) (hh : rightB h = true) (hx : IsWhen g.ex x) (hy : IsWhen h.ex y) (e : mk (printL g x) = mk (printL h y)) : g = h := by
  have h1 := round_trip (now := 0) hg hx (by decide)
  have h2 := round_trip (now := 0) hh hy (by decide)
  rw [e, h2] at h1
  injection h1 with h3
  exact h3.symm
theorem print_len {h : Hd} {x : ByteArray} (hr : rightB h = true) (hx : IsWhen h.ex x) (hl : h.nm.size + h.vl.size ≤ 1000) : (mk (printL h x)).size ≤ 3000 := by
  unfold rightB at hr
  simp only [Bool.and_eq_true] at hr
  obtain ⟨⟨⟨⟨r1, r2⟩, r3⟩, r4⟩, -⟩ := hr
  have d1 := dom_size r1
  have d2 := (way_parts r2).1
  have d3 := hx.size
  have k1 := ifL_len (!h.dm.toList.isEmpty) (dOMt ++ 61 :: bs h.dm)
  have k2 := ifL_len (!h.pt.toList.isEmpty) (pTHt ++ 61 :: bs h.pt)
  have k3 := ifL_len (!(h.ex == 0)) (eXPt ++ 61 :: bs x)
  have k4 := ifL_len h.se sECt
  have k5 := ifL_len h.ho hTOt
  have k6 := ifL_len (!(h.st == 0)) (sSTt ++ 61 :: bs (siteT h.st))
  have k7 : (bs (siteT h.st)).length ≤ 6 := by
    unfold siteT
    split
    · decide
    split
    · decide
    split
    · decide
    · decide
  rw [size_mk]
  unfold printL
  simp only [List.length_append, List.length_cons, ← size_bs, show dOMt.length = 6 from rfl, show pTHt.length = 4 from rfl, show eXPt.length = 7 from rfl, show sECt.length = 6 from rfl, show hTOt.length = 8 from rfl, show sSTt.length = 8 from rfl] at *
  omega
end Go.Proofs.YtngamlikhgilhaaGreatDoor
