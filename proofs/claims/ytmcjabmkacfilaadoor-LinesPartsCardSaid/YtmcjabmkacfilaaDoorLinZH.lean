/- The lines of two texts: the plain law; append of a row of texts to a full one. -/
import Derived.Test.YtmcjabmkacfilaaDoorLinZA
import Derived.Deep.AppendSrc
import Derived.Deep.RegionHeld
import Derived.RegionTactic
namespace Go.Proofs.YtmcjabmkacfilaaDoor
open Go.RowKit Go.Shelf

theorem first_app {c : UInt8} {a : List UInt8} (h : ∀ k : Nat, a[k]? ≠ some c) (b : List UInt8) : FirstAt (a ++ c :: b) c a.length := by
  refine ⟨by simp, fun j hj e => ?_⟩
  rw [List.getElem?_append_left hj] at e
  exact h j e
theorem first_left {c : UInt8} {a : List UInt8} {k : Nat} (h : FirstAt a c k) (b : List UInt8) : FirstAt (a ++ b) c k := by
  have hk : k < a.length := (List.getElem?_eq_some_iff.1 h.1).1
  refine ⟨by rw [List.getElem?_append_left hk]; exact h.1, fun j hj e => ?_⟩
  rw [List.getElem?_append_left (by omega)] at e
  exact h.2 j hj e
theorem linL_app : ∀ (n : Nat) (a b : List UInt8), a.length ≤ n → linL (a ++ 10 :: b) = linL (a ++ [10]) ++ linL b := by
  intro n
  induction n with
  | zero =>
    intro a b h
    have : a = [] := List.length_eq_zero_iff.1 (by omega)
    subst this
    rw [linL_first (first_app (by simp) b), linL_first (first_app (by simp) [])]
    simp [linL_nil]
  | succ n ih =>
    intro a b h
    rcases first_or_none 10 a with ⟨k, hf⟩ | hn
    · have hk : k < a.length := (List.getElem?_eq_some_iff.1 hf.1).1
      rw [linL_first (first_left hf (10 :: b)), linL_first (first_left hf [10])]
      rw [List.take_append_of_le_length (by omega), List.take_append_of_le_length (by omega), List.drop_append_of_le_length (by omega), List.drop_append_of_le_length (by omega)]
      rw [ih (a.drop (k + 1)) b (by rw [List.length_drop]; omega)]
      rfl
    · rw [linL_first (first_app hn b), linL_first (first_app hn [])]
      simp [linL_nil]
theorem linL_pos (a : List UInt8) : linL (a ++ [10]) ≠ [] := by
  rcases first_or_none 10 a with ⟨k, hf⟩ | hn
  · rw [linL_first (first_left hf [10])]; simp
  · rw [linL_first (first_app hn [])]; simp
theorem lines_app (s t : ByteArray) : linesS (s ++ (⟨#[10]⟩ : ByteArray) ++ t) = linesS (s ++ (⟨#[10]⟩ : ByteArray)) ++ linesS t := by
  unfold linesS
  rw [bs_append, bs_append, show bs (⟨#[10]⟩ : ByteArray) = [10] from rfl, List.append_assoc, List.singleton_append, linL_app _ _ _ (Nat.le_refl _), List.map_append]
theorem lines_pos (s : ByteArray) : 0 < (linesS (s ++ (⟨#[10]⟩ : ByteArray))).length := by
  rw [List.length_pos_iff]
  unfold linesS
  rw [bs_append, show bs (⟨#[10]⟩ : ByteArray) = [10] from rfl]
  simpa using linL_pos (bs s)
theorem linL_count : ∀ (n : Nat) (l : List UInt8), l.length ≤ n → (linL l).length ≤ l.length + 1 := by
  intro n
  induction n with
  | zero =>
    intro l h
    have : l = [] := List.length_eq_zero_iff.1 (by omega)
    subst this
    exact Nat.zero_le _
  | succ n ih =>
    intro l h
    rcases first_or_none 10 l with ⟨k, hf⟩ | hn
    · have hk : k < l.length := (List.getElem?_eq_some_iff.1 hf.1).1
      have hi := ih (l.drop (k + 1)) (by rw [List.length_drop]; omega)
      rw [List.length_drop] at hi
      rw [linL_first hf, List.length_cons]
      omega
    · by_cases hl : l = []
      · subst hl; exact Nat.zero_le _
      · rw [linL_none hn hl]
        show 1 ≤ _
        omega
theorem lines_lens (s : ByteArray) : (linesS s).length ≤ s.size + 1 := by
  unfold linesS
  rw [List.length_map, size_bs]
  exact linL_count _ _ (Nat.le_refl _)
theorem strCellsV (q : List ByteArray) : ∀ u ∈ q.map Value.string, u.oneCell' = true := by
  intro u hu
  obtain ⟨x, -, rfl⟩ := List.mem_map.1 hu
  rfl
/-- append of texts to a full row of texts: a new row (or, of none, the old one). -/
theorem run_app (w : World) (ty : TypeId) (b o : Nat) (p q : List ByteArray) (v2 : Value) (hp0 : 0 < p.length) (hp : p.length ≤ 10000) (hq : q.length ≤ 10000)
    (hc : ∀ i (h : i < p.length), w.cell? ⟨b, o + i, none⟩ = some (.string p[i])) (hb : b < w.heap.size) (hr : RT 0 w v2 q) :
    ∃ v' w', (Builtin.append_ #[23, 23] ty #[.slice (some ⟨b, o, none⟩) p.length p.length, v2]).run Tryd.prog w = .ok v' w' ∧ RT 0 w' v' (p ++ q) ∧ Below w.heap.size w w' := by
  obtain ⟨i0, hi, hz0, hz1, hz2⟩ := info_parts info9
  obtain ⟨a2, c2, rfl, hc2, hr2⟩ := hr
  by_cases h0 : q = []
  · subst h0
    have hs : Src Tryd.prog i0.size 23 (.slice a2 ([] : List ByteArray).length c2) 0 [] w := by
      cases a2 with
      | none => exact Src.ofNil w Tryd.underlying23 c2
      | some ad => exact Src.ofSlice w Tryd.underlying23 ad 0 c2 [] (by simp) (by simp) (by simp)
    refine ⟨_, _, run_append_room_src w 23 23 ty 9 i0 Tryd.underlying23 hi b o p.length p.length _ 0 [] hs (by omega) (by simp) (by simp), ?_, Below.refl _ _⟩
    rw [List.append_nil, Nat.add_zero]
    exact ⟨_, _, rfl, Nat.le_refl _, .inr ⟨b, o, rfl, Nat.zero_le _, hb, hc⟩⟩
  · obtain ⟨b2, o2, rfl, -, hlt2, hcell2⟩ := hr2.resolve_left h0
    have hpos : 0 < q.length := List.length_pos_iff.2 h0
    have hs : Src Tryd.prog i0.size 23 (.slice (some ⟨b2, o2, none⟩) q.length c2) q.length (q.map Value.string) w := by
      rw [hz1]
      refine Src.ofSlice w Tryd.underlying23 ⟨b2, o2, none⟩ q.length c2 (q.map Value.string) (by simp) (fun j u hu => ?_) (strCellsV q)
      rw [Addr.add_at]
      rw [List.getElem?_map] at hu
      obtain ⟨x, hx, rfl⟩ := Option.map_eq_some_iff.1 hu
      obtain ⟨h1, rfl⟩ := List.getElem?_eq_some_iff.1 hx
      exact hcell2 j h1
    have hold : (Builtin.firstCells i0.size p.length (.slice (some ⟨b, o, none⟩) p.length p.length)).run Tryd.prog w.drew = .ok (p.map Value.string).toArray w.drew := by
      rw [hz1]
      refine run_firstCells_some w.drew 1 p.length ⟨b, o, none⟩ p.length p.length (p.map Value.string) (by simp) (fun j u hu => ?_)
      rw [Addr.add_at]
      rw [List.getElem?_map] at hu
      obtain ⟨x, hx, rfl⟩ := Option.map_eq_some_iff.1 hu
      obtain ⟨h1, rfl⟩ := List.getElem?_eq_some_iff.1 hx
      exact hc j h1
    have hfit : Builtin.nextslicecap (p.length + q.length) p.length * i0.bytes ≤ 281474976710656 := growslice_fits (by omega) (by rw [hz2]; omega)
    refine ⟨_, _, run_append_grow_src w 23 23 ty 9 i0 _ Tryd.underlying23 hi hz0 (some ⟨b, o, none⟩) p.length p.length (p.map Value.string) hold _ q.length (q.map Value.string) hs (by omega) (by omega) hfit, ?_, (Below.drew (Below.refl _ w)).alloc (Nat.le_refl _) _⟩
    refine ⟨_, _, by rw [List.length_append], ?_, .inr ⟨w.heap.size, 0, rfl, Nat.zero_le _, by simp, fun i hi => ?_⟩⟩
    · rw [List.length_append]
      exact grownCap_ge _ _ _ _
    · rw [Nat.zero_add]
      refine (World.cell?_alloc_new w.drew _ _ _).trans ?_
      rw [Array.getElem?_append_left (by simp at hi ⊢; omega)]
      have e : (p.map Value.string ++ q.map Value.string) = (p ++ q).map Value.string := by rw [List.map_append]
      rw [List.getElem?_toArray, e, List.getElem?_map, List.getElem?_eq_getElem hi]
      rfl
end Go.Proofs.YtmcjabmkacfilaaDoor
