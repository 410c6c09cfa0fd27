/- The contract of lines.Split. -/
import Derived.Test.YtmcjabmkacfilaaDoorLinD
import Derived.Test.YtmcjabmkacfilaaDoorLinA
namespace Go.Proofs.YtmcjabmkacfilaaDoor
open Go.RowKit Go.Shelf
attribute [local go_sem] Oper.semAt_some

/-- The value's texts are q; its row lies from block B on. -/
def RT (B : Nat) (w : World) (v : Value) (q : List ByteArray) : Prop :=
  ∃ a cp, v = .slice a q.length cp ∧ q.length ≤ cp ∧ (q = [] ∨ ∃ b o, a = some ⟨b, o, none⟩ ∧ B ≤ b ∧ b < w.heap.size ∧ ∀ i (h : i < q.length), w.cell? ⟨b, o + i, none⟩ = some (.string q[i]))
theorem RT.of_owns {w : World} {B : Nat} {v : Value} {q : List ByteArray} (h : w.ownsRow B 9 1 v q.length (q.map Value.string)) : RT B w v q := by
  obtain ⟨h1, ⟨rfl, h2⟩ | ⟨g, cap, cur, rfl, hb, hh, hn, hm, hs, ht⟩⟩ := h
  · have : q = [] := List.length_eq_zero_iff.1 h2
    subst this
    exact ⟨none, 0, rfl, Nat.le_refl _, .inl rfl⟩
  · refine ⟨_, cap, rfl, hn, .inr ⟨g, 0, rfl, hb, (Array.getElem?_eq_some_iff.1 hh).1, fun i hi => ?_⟩⟩
    rw [Nat.zero_add]
    have h3 : (cur.toList.take (q.length * 1))[i]? = (q.map Value.string)[i]? := by rw [ht]
    rw [Nat.mul_one, List.getElem?_take_of_lt hi, List.getElem?_map, List.getElem?_eq_getElem hi] at h3
    simp only [World.cell?, hh]
    simp at h3 ⊢
    rw [h3]
theorem RT.keep {B : Nat} {w w' : World} {v : Value} {q : List ByteArray} (h : RT B w v q) (hb : Below w.heap.size w w') : RT B w' v q := by
  obtain ⟨a, cp, rfl, hc, h⟩ := h
  refine ⟨a, cp, rfl, hc, ?_⟩
  rcases h with h | ⟨b, o, rfl, hB, hlt, h⟩
  · exact .inl h
  · exact .inr ⟨b, o, rfl, hB, Nat.lt_of_lt_of_le hlt hb.size, fun i hi => (hb.cell (p := ⟨b, o + i, none⟩) hlt).trans (h i hi)⟩
theorem RT.mono {B B' : Nat} {w : World} {v : Value} {q : List ByteArray} (h : RT B w v q) (hb : B' ≤ B) : RT B' w v q := by
  obtain ⟨a, cp, rfl, hc, h⟩ := h
  refine ⟨a, cp, rfl, hc, ?_⟩
  rcases h with h | ⟨b, o, rfl, hB, h⟩
  · exact .inl h
  · exact .inr ⟨b, o, rfl, Nat.le_trans hb hB, h⟩
theorem each_any (s : ByteArray) (w : World) : Calls Tryd.prog 29 #[.string s] w fun e w' => e = .returned (.func (.func 48) #[] #[.pointer (some ⟨w.heap.size, 0, none⟩)]) ∧ w.alloc (.cells #[.string s] 9) = w' := by
  go_enter Tryd.func29, Tryd.ntmps29
  go_wp2_with fail
  go_ret
  exact ⟨rfl, rfl⟩
/-- What lies between two rounds of Split's loop. -/
def SI (w : World) (pre : List ByteArray) (W : World) : Prop :=
  ((∃ v, Boxed W w.heap.size 23 v ∧ W.ownsRow (w.heap.size + 2) 9 1 v pre.length (pre.map Value.string) ∧ True) ∧ (∃ u, Boxed W (w.heap.size + 1) 9 u)) ∧ Below w.heap.size w W
theorem SI.own (w : World) (B : Nat) (hB : w.heap.size ≤ B) : OwnFrom B (SI w) :=
  OwnFrom.and (OwnFrom.and (Own.from (holdsRow_own (w.heap.size + 2) w.heap.size 23 9 1 (fun pre : List ByteArray => pre.length) (fun pre => pre.map Value.string) (fun _ _ => True)) _)
    (Own.from (fun s X Y row h hg hr => by
      obtain ⟨u, hu⟩ := h
      refine ⟨u, hu.kept hg (fun e => ?_)⟩
      obtain ⟨o, ho, hc⟩ := hr _ e.symm
      rw [show X.heap[w.heap.size + 1]? = _ from hu] at ho; cases ho; cases hc) _)) (ownFrom_below (Nat.le_refl _) hB)
theorem SI.set {w : World} (pre : List ByteArray) (W : World) (v : Value) (h : SI w pre W) : SI w pre (W.setCell ⟨w.heap.size + 1, 0, none⟩ v) := by
  obtain ⟨⟨⟨x, hx, hr, -⟩, u, hu⟩, hb⟩ := h
  exact ⟨⟨⟨x, hx.kept (grownBy_setCell' W (w.heap.size + 1) v) (by simp), ownsRow_setCell_below hr (by show w.heap.size + 1 < w.heap.size + 2; omega) v, trivial⟩, v, hu.set v⟩, hb.setCell (by show w.heap.size ≤ w.heap.size + 1; omega) v⟩
set_option maxRecDepth 100000 in
set_option maxHeartbeats 2000000 in
theorem split_any (s : ByteArray) (w : World) (hs : s.size ≤ 100000) (hm : HasMax w) : Calls Tryd.prog 12 #[.string s] w fun e w' => ∃ v, e = .returned v ∧ RT w.heap.size w' v (linesS s) ∧ Below w.heap.size w w' := by
  refine (callsIn_wide (n := 5)).1 ?_
  refine callsIn_of_wp_marks Tryd.func12 rfl trivial ?_ rfl
  simp only [Tryd.ntmps12, List.size_toArray, List.length_cons, List.length_nil, Nat.reduceAdd, Nat.reduceSub, Array.replicate_succ, Array.replicate_zero, List.push_toArray, List.append_toArray, List.nil_append, List.cons_append]
  have hro : Fence.wide.round = none := rfl
  obtain ⟨i0, hi, hz0, hz1, hz2⟩ := info_parts info9
  gi_wp2_with (refine ⟨trivial, ?_⟩; gi_at_call 29; refine (callsIn_wide.2 (each_any _ _)).mono ?_; rintro e w' ⟨rfl, rfl⟩)
  have h0 : SI w [] ((w.alloc (.cells #[.slice none 0 0] 23)).alloc (.cells #[.string s] 9)) := by
    refine ⟨⟨⟨.slice none 0 0, (Boxed.new w _ _).alloc _, World.ownsRow_nil _ _ _ _, trivial⟩, .string s, ?_⟩, ((Below.refl _ w).alloc (Nat.le_refl _) _).alloc (by simp) _⟩
    have := Boxed.new (w.alloc (.cells #[.slice none 0 0] 23)) 9 (.string s)
    rwa [World.size_alloc] at this
  have hc0 : ((w.alloc (.cells #[.slice none 0 0] 23)).alloc (.cells #[.string s] 9)).cell? ⟨w.heap.size + 1, 0, none⟩ = some (.string s) := by
    have := (Boxed.new (w.alloc (.cells #[.slice none 0 0] 23)) 9 (.string s)).cell
    rwa [World.size_alloc] at this
  have hsz : ((w.alloc (.cells #[.slice none 0 0] 23)).alloc (.cells #[.string s] 9)).heap.size = w.heap.size + 2 := by simp
  generalize (w.alloc (.cells #[.slice none 0 0] 23)).alloc (.cells #[.string s] 9) = w0 at *
  refine range_all (n := 5) (Bs := w.heap.size + 1) hro (by decide) (gf := 48) (lb := #[.pointer (some ⟨w.heap.size + 1, 0, none⟩)]) rfl trivial (enters_of Tryd.func48 (by kernel_rfl) rfl)
    (encs := fun x : ByteArray => #[.string x]) (S := fun ys => ys = linesS s) (N := s.size + 1) (by omega) (SI w) ?seq (fun _ => rfl) (SI.own w _ (by omega)) SI.set h0 ?a1 ?assign ?body ?done
  case seq =>
    intro l J W hJI hJd hJs hY hK hJ0
    exact each1_in 4 (by decide) l (w.heap.size + 1) s hs J (fun pre W h => ⟨max_keep hm (hJI pre W h).2, by obtain ⟨⟨-, u, hu⟩, -⟩ := hJI pre W h; exact hu.frozen⟩) hJd hJs hY W (Eq.trans hK hc0) hJ0
  case assign =>
    intro l x W K hK
    gi_wp2
    exact hK
  case body =>
    intro l pre x W hI hlen
    obtain ⟨⟨⟨v, hv, hrow, -⟩, u, hu⟩, hB⟩ := hI
    have hvc := hv.cell
    have hvf := hv.frozen
    have hWs := hB.size
    have hus := hu.lt
    gi_wp2_with (gi_at_builtin; refine wpListIn_append_own _ rfl _ _ 23 rfl (w.heap.size + 2) 9 i0 (.string ⟨#[]⟩) 1 16 Tryd.underlying23 hi hz0 hz1 hz2 rfl (by decide) _ _ _ rfl (hrow.alloc _) ⟨W.heap.size, 0, none⟩ 1 1 [.string x] rfl rfl (cell_one_new _ _ _) (by simp [Value.oneCell']) (by unfold maxLen; omega) (by omega) (by simp; omega) ?_; intro v' w1 hown' hgrow hnil; obtain ⟨g', cap', rfl⟩ := ownsRow_succ hown'; have hv1 := (hv.alloc _).kept hgrow (hv.not_row (by decide) hrow); have hc1 := hv1.cell; have hf1 := hv1.frozen)
    have hgrow : (W.alloc (.cells #[.string x] 9)).grownBy w1 v.ownBlock := hgrow
    have hlt := hrow.lt
    have hne : some (w.heap.size + 1) ≠ v.ownBlock := fun e => by have := (hlt _ e.symm).1; omega
    have hu1 := (hu.alloc (.cells #[.string x] 9)).kept hgrow hne
    refine ⟨?_, ?_, ⟨⟨_, hv1.set _, ?_, trivial⟩, u, hu1.kept (grownBy_setCell' w1 _ _) (by simp)⟩, ?_⟩
    · refine (((KeepsOthers.alloc W _).trans (KeepsOthers.of_grownBy hgrow fun j o ej hj => ?_)).trans (KeepsOthers.setCell _ _ _)).from _
      rcases (hrow.alloc (.cells #[.string x] 9)).2 with ⟨rfl, -⟩ | ⟨g, cap, cur, rfl, -, hgb, -⟩
      · simp [Value.ownBlock] at ej
      · obtain rfl : g = j := by simpa [Value.ownBlock] using ej
        rw [hgb] at hj; cases hj; rfl
    · unfold KpS
      rw [World.cell?_setCell_other _ _ _ _ (by intro e; injection e with e; omega), hu1.cell, hu.cell]
    · have h9 := hown'.kept (grownBy_setCell' w1 w.heap.size (.slice (some ⟨g', 0, none⟩) (pre.length + 1) cap')) (.inr (hv1.not_row (by decide) hown').symm)
      rw [List.length_append, List.map_append]
      exact h9
    · refine ((hB.alloc hWs _).grown hgrow (by simp; omega) fun j ej => ?_).setCell (p := ⟨w.heap.size, 0, none⟩) (Nat.le_refl _) _
      have := (hlt _ ej).1
      omega
  case done =>
    intro D xs W hD hS hI hK
    obtain ⟨⟨⟨v, hv, hrow, -⟩, u, hu⟩, hB⟩ := hI
    have hvc := hv.cell
    subst hS
    have HB := Lib.hid (Below.trans hB (belowK_b (w := w) (Nat.le_refl _) W D _ (.deferred none) (by omega) hK rfl rfl))
    have HR := Lib.hid (RT.of_owns (ownsRow_putObj hrow (.deferred none) hK rfl))
    clear hB hrow
    gi_wp2
    refine ⟨by simp, .inl ⟨_, _, rfl, run_takeDeferred hK, ?_⟩⟩
    exact ⟨_, results_tmp rfl _ _ _, _, rfl, HR.out.mono (by omega), HB.out⟩
end Go.Proofs.YtmcjabmkacfilaaDoor
