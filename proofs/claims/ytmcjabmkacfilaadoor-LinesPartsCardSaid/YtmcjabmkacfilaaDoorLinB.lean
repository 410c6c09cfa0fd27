/- A range over a function whose iterator stores into a variable that it captured: the law, for a body that never leaves the loop. -/
import Derived.Test.YtmcjabmkacfilaaDoorLinA
import Derived.RangeFuncNested
import Derived.RangeFuncBox
import Derived.RangeFuncBound
import Derived.RangeFuncCalls
import Derived.RangeFuncLeaves
import Derived.Maps.AppendAt
import Derived.OwnWalkIn
import Derived.TacticsInMore
import Derived.LoopNIn
import Derived.LoopIn
import Derived.Shelf.Abstract
namespace Go.Proofs.YtmcjabmkacfilaaDoor
open Go.RowKit Go.Shelf

/-- What a round keeps for the iterator: its own variable, at block Bs. -/
def KpS (Bs : Nat) (A B : World) : Prop := B.cell? ⟨Bs, 0, none⟩ = A.cell? ⟨Bs, 0, none⟩
theorem range_all {F : Fence} {n : Nat} {P : Program} {α : Type} {g : Operand} {ps : Array Tmp} {assign body : Code} {Q : Exit → Act → World → Prop} {a : Act} {w : World} {Bs : Nat}
    (hro : F.round = none) (h1 : 1 ≤ n) {gf : Nat} {lb : Array Value} (hg : a.eval g = .func (.func gf) #[] lb) (hFg : F.fn gf) (eg : ∀ args w, (callFunc gf args).run P w = .ok (.enter gf args) w)
    {encs : α → Array Value} {S : List α → Prop} {N : Nat} (hBs : Bs < w.heap.size)
    (I : List α → World → Prop)
    (hseq : ∀ (l : Nat) (J : List α → World → Prop) (W : World), (∀ pre W, J pre W → I pre W) → (∀ pre W k, J pre W → J pre (W.drewN k)) → (∀ pre W v, J pre W → J pre (W.setCell ⟨Bs, 0, none⟩ v)) →
      (∀ pre x W1, J pre W1 → pre.length < N → YieldAt F (n - 1 - 1) P l (encs x) W1 fun e W' => e = .returned (.bool true) ∧ J (pre ++ [x]) W' ∧ KpS Bs W1 W') →
      KpS Bs w W → J [] W → CallsIn F (n - 1) P gf (#[.func (.yield l) #[] #[]] ++ lb) W fun e W' => (∃ v, e = .returned v) ∧ ∃ xs, S xs ∧ J xs W')
    (hps : ∀ x, (encs x).size = ps.size)
    (hI : OwnFrom w.heap.size I) (hIs : ∀ pre W v, I pre W → I pre (W.setCell ⟨Bs, 0, none⟩ v)) (h0 : I [] w) (a₁ : α → Act)
    (hassign : ∀ (l : Nat) (x : α) (W : World) (K : Act → World → Prop), K (a₁ x) W →
      assign.wpIn (F.inRound l) (n - 1 - 1) P (Exit.then K (fun _ _ _ => False)) { tmps := (ps.zip (encs x)).foldl (fun t (p, v) => t.setIfInBounds p v) a.tmps, defers := [] } W)
    (hbody : ∀ (l : Nat) (pre : List α) (x : α) (W : World), I pre W → pre.length < N →
      body.wpIn (F.inRound l) (n - 1 - 1) P (fun e _ W' => e = .normal ∧ KeepsFrom w.heap.size W W' ∧ KpS Bs W W' ∧ I (pre ++ [x]) W') (a₁ x) W)
    (hdone : ∀ (D : Nat) (xs : List α) (W : World), w.heap.size ≤ D → S xs → I xs W → W.heap[D]? = some (.deferred (some [])) → Q .normal { a with defers := { target := .collected D, args := #[] } :: a.defers } W) :
    (Code.rangeFunc g ps assign body).wpIn F n P Q a w := by
  refine wpIn_rangeFunc fun fn hfn => ?_
  rw [hro]
  -- the two blocks of the loop's own: its deferred calls at d, its record at l
  generalize hd : w.heap.size = d at *
  have el := run_enterLoop_outer (P := P) (w := w) fn a.tmps ps assign body
  rw [hd] at el
  have kd : ((w.alloc (.deferred (some []))).alloc (.loop { state := .ready, pending := none, fn := fn, tmps := a.tmps, params := ps, assign := assign, body := body, defers := d })).heap[d]? = some (.deferred (some [])) := by
    have := (Below.heap_alloc (w.alloc (.deferred (some []))) (.loop { state := .ready, pending := none, fn := fn, tmps := a.tmps, params := ps, assign := assign, body := body, defers := d }) w.heap.size (by simp)).trans (World.alloc_heap_new w _)
    rwa [hd] at this
  have kl : ((w.alloc (.deferred (some []))).alloc (.loop { state := .ready, pending := none, fn := fn, tmps := a.tmps, params := ps, assign := assign, body := body, defers := d })).heap[d + 1]? = some (.loop { state := .ready, pending := none, fn := fn, tmps := a.tmps, params := ps, assign := assign, body := body, defers := d }) := by
    have := World.alloc_heap_new (w.alloc (.deferred (some []))) (.loop { state := .ready, pending := none, fn := fn, tmps := a.tmps, params := ps, assign := assign, body := body, defers := d })
    rwa [World.size_alloc, hd] at this
  have kI : I [] ((w.alloc (.deferred (some []))).alloc (.loop { state := .ready, pending := none, fn := fn, tmps := a.tmps, params := ps, assign := assign, body := body, defers := d })) := hI.alloc _ (hI.alloc _ h0)
  have kK : KpS Bs w ((w.alloc (.deferred (some []))).alloc (.loop { state := .ready, pending := none, fn := fn, tmps := a.tmps, params := ps, assign := assign, body := body, defers := d })) := by
    have hb : Below d w ((w.alloc (.deferred (some []))).alloc (.loop { state := .ready, pending := none, fn := fn, tmps := a.tmps, params := ps, assign := assign, body := body, defers := d })) := ((Below.refl d w).alloc (by omega) _).alloc (by simp; omega) _
    exact hb.cell (p := ⟨Bs, 0, none⟩) hBs
  generalize (w.alloc (.deferred (some []))).alloc (.loop { state := .ready, pending := none, fn := fn, tmps := a.tmps, params := ps, assign := assign, body := body, defers := d }) = w1 at *
  refine ⟨d + 1, [{ target := .collected d, args := #[] }], w1, { target := .fn (.func gf) lb, args := #[.func (.yield (d + 1)) #[] #[]] }, w1, gf, #[.func (.yield (d + 1)) #[] #[]] ++ lb, w1, el, ?_, ?_, ?_, fun _ => h1, ?_⟩
  · simp only [resolve, hg]; simp [go_sem]
  · intro f' hf'; simp [Target.leads] at hf'; subst hf'; exact hFg
  · simp [invoke, go_sem, eg]
  refine (hseq (d + 1) (fun pre W => I pre W ∧ W.heap[d + 1]? = some (.loop { state := .ready, pending := none, fn := fn, tmps := a.tmps, params := ps, assign := assign, body := body, defers := d }) ∧ W.heap[d]? = some (.deferred (some []))) w1
    (fun _ _ h => h.1) (fun pre W k h => ⟨hI _ _ _ none h.1 (⟨rfl, rfl, rfl, Nat.le_refl _, fun _ _ _ => rfl⟩) (fun r e => by cases e), h.2.1, h.2.2⟩)
    (fun pre W v h => ⟨hIs _ _ _ h.1, (Below.heap_setCell _ _ _ (d + 1) (by show d + 1 ≠ Bs; omega)).trans h.2.1, (Below.heap_setCell _ _ _ d (by show d ≠ Bs; omega)).trans h.2.2⟩)
    ?_ kK ⟨kI, kl, kd⟩).mono ?_
  · rintro pre x W ⟨hi, hl, hk⟩ hlen
    have hlt : d + 1 < W.heap.size := (Array.getElem?_eq_some_iff.1 hl).1
    refine ⟨fn, _, assign, body, run_yield (P := P) (args := encs x) hl (hps x), roundIn_of_wpIn hfn (hassign _ x W _ ⟨_, run_beginRound hl rfl, ?_⟩)⟩
    have hl2 := World.putObj_heap_same (w := W) (o := .loop { state := .busy, pending := none, fn := fn, tmps := a.tmps, params := ps, assign := assign, body := body, defers := d }) hlt
    have hk2 : (W.putObj (d + 1) (.loop { state := .busy, pending := none, fn := fn, tmps := a.tmps, params := ps, assign := assign, body := body, defers := d })).heap[d]? = some (.deferred (some [])) := (World.putObj_heap_other (by omega)).trans hk
    refine wpIn_mono (hbody _ pre x _ (hI.putObj _ hi (by omega) hl rfl) hlen) ?_
    rintro e a3 W3 ⟨rfl, hk3, hp3, hi3⟩
    have hl3 := hk3.same _ _ (by omega) hl2 rfl
    refine ⟨_, _, run_endRound (P := P) none hl3, rfl, ⟨hI.putObj _ hi3 (by omega) hl3 rfl, World.putObj_heap_same (Array.getElem?_eq_some_iff.1 hl3).1, (World.putObj_heap_other (by omega)).trans (hk3.same _ _ (Nat.le_refl _) hk2 rfl)⟩, ?_⟩
    unfold KpS at *
    rw [World.cell?_of_block (World.putObj_heap_other (by show Bs ≠ d + 1; omega)), hp3, World.cell?_of_block (World.putObj_heap_other (by show Bs ≠ d + 1; omega))]
  · rintro e W2 ⟨⟨v, rfl⟩, xs, hS, hi, hl, hk⟩
    exact ⟨none, _, run_endLoop (P := P) hl (by simp), hdone _ xs _ (Nat.le_refl _) hS (hI.putObj _ hi (by omega) hl rfl) ((World.putObj_heap_other (by omega)).trans hk)⟩
end Go.Proofs.YtmcjabmkacfilaaDoor
