/- What holds of an inbox of the call's own, and its functions' contracts in these words. -/
import Derived.Test.YthpmijaimmlgdaaCh
import Derived.Below
import Derived.Lib.Hide
import Derived.LoopTactic
import Derived.WalkSpells
namespace Go.Proofs.Ythpmijaimmlgdaa
open Go.Conc Go.RowKit

/-- The call began in world w0; its inbox (box p, channel c) holds l; of what was there at the call's begin nothing has turned. -/
def St (w0 w : World) (p c : Nat) (l : List ByteArray) : Prop :=
  Below w0.heap.size w0 w ∧ w0.heap.size ≤ c ∧ c < p ∧ p < w.heap.size ∧ Inb w p c l

theorem St.below {w0 w : World} {p c : Nat} {l : List ByteArray} (h : St w0 w p c l) : Below w0.heap.size w0 w := h.1

theorem St.step {w0 w w' : World} {p c : Nat} {l : List ByteArray} (h : St w0 w p c l) (hb : Below w.heap.size w w') : St w0 w' p c l := by
  obtain ⟨h1, h2, h3, h4, h5, s, r, h6⟩ := h
  refine ⟨h1.trans (hb.mono h1.size), h2, h3, Nat.lt_of_lt_of_le h4 hb.size, ?_, s, r, ?_⟩
  · rw [hb.block p h4]; exact h5
  · rw [hb.block c (by omega)]; exact h6

theorem St.set {w0 w : World} {p c : Nat} {l l' : List ByteArray} (h : St w0 w p c l) (s r : Nat) : St w0 (w.setChan c 8 (l'.map Value.string).toArray false s r false) p c l' := by
  obtain ⟨h1, h2, h3, h4, h5, _⟩ := h
  refine ⟨below_setChan h1 h2 _ _ _ _ _ _, h2, h3, by rw [size_setChan]; exact h4, ?_, s, r, heap_setChan _ _ _ _ _ _ _ _ (by omega)⟩
  simp only [World.setChan]
  rw [Array.getElem?_setIfInBounds_ne (by omega)]
  exact h5

/-- Another inbox is as it was. -/
theorem St.other {w0 w : World} {p c c' : Nat} {l l' : List ByteArray} (h : St w0 w p c l) (hc : c' ≠ c) (hp : c' ≠ p) (s r : Nat) (h1 : w0.heap.size ≤ c') : St w0 (w.setChan c' 8 (l'.map Value.string).toArray false s r false) p c l := by
  obtain ⟨g1, g2, g3, g4, g5, s', r', g6⟩ := h
  refine ⟨below_setChan g1 h1 _ _ _ _ _ _, g2, g3, by rw [size_setChan]; exact g4, ?_, s', r', ?_⟩
  · simp only [World.setChan]
    rw [Array.getElem?_setIfInBounds_ne hp]
    exact g5
  · simp only [World.setChan]
    rw [Array.getElem?_setIfInBounds_ne hc]
    exact g6

theorem st_new (w0 w : World) (h : Below w0.heap.size w0 w) : Calls Try.prog 7 #[] w fun e w' => ∃ p c, e = .returned (.pointer (some ⟨p, 0, none⟩)) ∧ St w0 w' p c [] ∧ Below w.heap.size w w' ∧ w.heap.size ≤ c := by
  refine (new_any w).mono ?_
  rintro e w' ⟨rfl, rfl⟩
  refine ⟨_, w.heap.size, rfl, ⟨(h.alloc h.size _).alloc (by simp; have := h.size; omega) _, h.size, by omega, by simp, ?_, 0, 0, ?_⟩, ((Below.refl _ w).alloc (Nat.le_refl _) _).alloc (by simp) _, Nat.le_refl _⟩
  · have := heap_alloc_new (w.alloc (.chan 8 #[] false 0 0 false)) (.cells #[.chan (some w.heap.size)] 43 (0, 0))
    simpa only [World.size_alloc] using this
  · rw [Below.heap_alloc _ _ _ (by simp)]
    exact heap_alloc_new w _

theorem st_post_room {w0 w : World} {p c : Nat} {l : List ByteArray} (h : St w0 w p c l) (hl : l.length < 8) (t : ByteArray) :
    Calls Try.prog 9 #[.pointer (some ⟨p, 0, none⟩), .string t] w fun e w' => e = .returned (.bool true) ∧ St w0 w' p c (l ++ [t]) := by
  refine (post_room p c l t w h.2.2.2.2 hl).mono ?_
  rintro e w' ⟨rfl, s, r, rfl⟩
  exact ⟨rfl, h.set s r⟩
theorem st_post_full {w0 w : World} {p c : Nat} {l : List ByteArray} (h : St w0 w p c l) (hl : 8 ≤ l.length) (t : ByteArray) :
    Calls Try.prog 9 #[.pointer (some ⟨p, 0, none⟩), .string t] w fun e w' => e = .returned (.bool false) ∧ St w0 w' p c l := by
  refine (post_full p c l t w h.2.2.2.2 hl).mono ?_
  rintro e w' ⟨rfl, rfl⟩
  exact ⟨rfl, h⟩
theorem st_next_some {w0 w : World} {p c : Nat} {x : ByteArray} {l : List ByteArray} (h : St w0 w p c (x :: l)) :
    Calls Try.prog 11 #[.pointer (some ⟨p, 0, none⟩)] w fun e w' => e = .returned (.tuple #[.string x, .bool true]) ∧ St w0 w' p c l := by
  refine (next_some p c x l w h.2.2.2.2).mono ?_
  rintro e w' ⟨rfl, s, r, rfl⟩
  exact ⟨rfl, h.set s r⟩
theorem st_next_none {w0 w : World} {p c : Nat} (h : St w0 w p c []) :
    Calls Try.prog 11 #[.pointer (some ⟨p, 0, none⟩)] w fun e w' => e = .returned (.tuple #[.string ByteArray.empty, .bool false]) ∧ St w0 w' p c [] := by
  refine (next_none p c w h.2.2.2.2).mono ?_
  rintro e w' ⟨rfl, rfl⟩
  exact ⟨rfl, h⟩
theorem st_len {w0 w : World} {p c : Nat} {l : List ByteArray} (h : St w0 w p c l) :
    Calls Try.prog 13 #[.pointer (some ⟨p, 0, none⟩)] w fun e w' => e = .returned (.int .i64 l.length) ∧ St w0 w' p c l := by
  refine (len_any p c l w h.2.2.2.2).mono ?_
  rintro e w' ⟨rfl, rfl⟩
  exact ⟨rfl, h⟩

set_option maxRecDepth 100000 in
theorem alive_any (w : World) : Calls Try.prog 8 #[] w fun e w' => e = .returned (.bool true) ∧ Below w.heap.size w w' := by
  go_enter Try.func8, Try.ntmps8
  go_wp2_with fail
  refine (st_new w w (Below.refl _ _)).mono ?_
  rintro e w1 ⟨p, c, rfl, h1, -, -⟩
  go_wp2_with fail
  refine (st_next_none h1).mono ?_
  rintro e w2 ⟨rfl, h2⟩
  clear h1
  go_wp2_with fail
  refine (st_post_room h2 (by simp) _).mono ?_
  rintro e w3 ⟨rfl, h3⟩
  clear h2
  go_wp2_with fail
  refine (st_post_room h3 (by simp) _).mono ?_
  rintro e w4 ⟨rfl, h4⟩
  clear h3
  go_wp2_with fail
  refine (st_next_some h4).mono ?_
  rintro e w5 ⟨rfl, h5⟩
  clear h4
  go_wp2_with fail
  refine (st_len h5).mono ?_
  rintro e w6 ⟨rfl, h6⟩
  go_wp2_with fail
  go_ret
  exact ⟨by simp, h6.below⟩

theorem St.alive {w0 w : World} {p c : Nat} {l : List ByteArray} (h : St w0 w p c l) : Calls Try.prog 8 #[] w fun e w' => e = .returned (.bool true) ∧ St w0 w' p c l := by
  refine (alive_any w).mono ?_
  rintro e w' ⟨rfl, hb⟩
  exact ⟨rfl, h.step hb⟩
end Go.Proofs.Ythpmijaimmlgdaa
