/- The contract of the statements' function later. -/
import Derived.Test.YtceadjdficcbbaaCivilO
import Derived.BigRegion
import Derived.Deep.QuietTactic
import Derived.BigQuiet
import Derived.Deep.Draws
import Derived.RegionTactic
import Derived.Deep.RegionHeld3
namespace Go.Proofs.Ytceadjdficcbbaa
open Go.RowKit

theorem two_boxes (w : World) (y m d h n s y' m' d' h' n' s' : Int) (T : TypeId) : ∃ W, W = (w.alloc (.cells #[.int .i64 y, .int .i64 m, .int .i64 d, .int .i64 h, .int .i64 n, .int .i64 s] T)).alloc (.cells #[.int .i64 y', .int .i64 m', .int .i64 d', .int .i64 h', .int .i64 n', .int .i64 s'] T) ∧
    Below w.heap.size w W ∧ W.heap.size = w.heap.size + 2 ∧ ∀ p q, p = w.heap.size → q = w.heap.size + 1 → (W.cell? ⟨p, 0, none⟩ = some (.int .i64 y) ∧ W.cell? ⟨p, 1, none⟩ = some (.int .i64 m) ∧ W.cell? ⟨p, 2, none⟩ = some (.int .i64 d) ∧ W.cell? ⟨p, 3, none⟩ = some (.int .i64 h) ∧ W.cell? ⟨p, 4, none⟩ = some (.int .i64 n) ∧ W.cell? ⟨p, 5, none⟩ = some (.int .i64 s) ∧ W.cell? ⟨q, 0, none⟩ = some (.int .i64 y') ∧ W.cell? ⟨q, 1, none⟩ = some (.int .i64 m') ∧ W.cell? ⟨q, 2, none⟩ = some (.int .i64 d') ∧ W.cell? ⟨q, 3, none⟩ = some (.int .i64 h') ∧ W.cell? ⟨q, 4, none⟩ = some (.int .i64 n') ∧ W.cell? ⟨q, 5, none⟩ = some (.int .i64 s')) := by
  refine ⟨_, rfl, ((Below.refl _ w).alloc (Nat.le_refl _) _).alloc (by simp) _, by simp, ?_⟩
  rintro p q rfl rfl
  have h1 := heap_alloc_new w (.cells #[.int .i64 y, .int .i64 m, .int .i64 d, .int .i64 h, .int .i64 n, .int .i64 s] T)
  have h2 := heap_alloc_new (w.alloc (.cells #[.int .i64 y, .int .i64 m, .int .i64 d, .int .i64 h, .int .i64 n, .int .i64 s] T)) (.cells #[.int .i64 y', .int .i64 m', .int .i64 d', .int .i64 h', .int .i64 n', .int .i64 s'] T)
  have h3 := Below.heap_alloc (w.alloc (.cells #[.int .i64 y, .int .i64 m, .int .i64 d, .int .i64 h, .int .i64 n, .int .i64 s] T)) (.cells #[.int .i64 y', .int .i64 m', .int .i64 d', .int .i64 h', .int .i64 n', .int .i64 s'] T) w.heap.size (by simp)
  simp only [World.size_alloc] at h2
  simp only [World.cell?, h2, h3, h1]
  simp

/-- A clock's k-th number. -/
def cX (y m d h n s : Int) (k : Nat) : Int := match k with
  | 0 => y
  | 1 => m
  | 2 => d
  | 3 => h
  | 4 => n
  | _ => s
theorem clt_at {y m d h n s y' m' d' h' n' s' : Int} {k : Nat} (hk : k < 6) (he : ∀ j, j < k → cX y m d h n s j = cX y' m' d' h' n' s' j) (hne : ¬cX y m d h n s k = cX y' m' d' h' n' s' k) :
    clt y' m' d' h' n' s' y m d h n s ↔ cX y' m' d' h' n' s' k < cX y m d h n s k := by
  have h0 := he 0
  have h1 := he 1
  have h2 := he 2
  have h3 := he 3
  have h4 := he 4
  have hk6 : k = 0 ∨ k = 1 ∨ k = 2 ∨ k = 3 ∨ k = 4 ∨ k = 5 := by omega
  unfold clt dlt
  rcases hk6 with rfl | rfl | rfl | rfl | rfl | rfl <;> simp only [cX] at * <;> omega
theorem clt_same {y m d h n s y' m' d' h' n' s' : Int} (he : ∀ j, j < 6 → cX y m d h n s j = cX y' m' d' h' n' s' j) : ¬clt y' m' d' h' n' s' y m d h n s := by
  have h0 := he 0 (by omega)
  have h1 := he 1 (by omega)
  have h2 := he 2 (by omega)
  have h3 := he 3 (by omega)
  have h4 := he 4 (by omega)
  have h5 := he 5 (by omega)
  unfold clt dlt
  simp only [cX] at *
  omega
theorem six_cells {W : World} {p : Nat} {y m d h n s : Int} (hh : W.heap[p]? = some (.cells #[.int .i64 y, .int .i64 m, .int .i64 d, .int .i64 h, .int .i64 n, .int .i64 s] 43 (0, 0))) (k : Nat) (hk : k < 6) :
    W.cell? ⟨p, k, none⟩ = some (.int .i64 (cX y m d h n s k)) := by
  have hk6 : k = 0 ∨ k = 1 ∨ k = 2 ∨ k = 3 ∨ k = 4 ∨ k = 5 := by omega
  rcases hk6 with rfl | rfl | rfl | rfl | rfl | rfl <;> simp [World.cell?, hh, cX]

theorem two_new (W : World) (o1 o2 : Obj) : ((W.alloc o1).alloc o2).drew.heap[W.heap.size]? = some o1 ∧ ((W.alloc o1).alloc o2).drew.heap[W.heap.size + 1]? = some o2 := by
  have h1 := heap_alloc_new W o1
  have h2 := heap_alloc_new (W.alloc o1) o2
  have h3 := Below.heap_alloc (W.alloc o1) o2 W.heap.size (by simp)
  simp only [World.size_alloc] at h2
  exact ⟨h3.trans h1, h2⟩
theorem below_drewN {B : Nat} {a w : World} (h : Below B a w) (n : Nat) : Below B a (w.drewN n) := ⟨h.os, h.tape, h.output, h.size, h.block⟩

set_option maxRecDepth 100000 in
set_option maxHeartbeats 2000000 in
theorem later_any (y m d h n s y' m' d' h' n' s' : Int) (w : World) :
    Calls Try.prog 25 #[.agg #[.int .i64 y, .int .i64 m, .int .i64 d, .int .i64 h, .int .i64 n, .int .i64 s], .agg #[.int .i64 y', .int .i64 m', .int .i64 d', .int .i64 h', .int .i64 n', .int .i64 s']] w fun e w' => ∃ r : Bool, e = .returned (.bool r) ∧ (r = true ↔ clt y' m' d' h' n' s' y m d h n s) ∧ Below w.heap.size w w' := by
  obtain ⟨W, hW, hB, hz, hcs⟩ := two_boxes w y m d h n s y' m' d' h' n' s' 32
  obtain ⟨p, hp⟩ : ∃ p, p = w.heap.size := ⟨_, rfl⟩
  obtain ⟨q, hq⟩ : ∃ q, q = w.heap.size + 1 := ⟨_, rfl⟩
  have HCS := Lib.hid (hcs p q hp hq)
  have HW := Lib.hid hW
  have HP := Lib.hid hp
  have HQ := Lib.hid hq
  have HZ := Lib.hid hz
  clear hcs hW hp hq hz
  go_enter Try.func25, Try.ntmps25
  go_wp2_with fail
  rw [← HW.out, ← HQ.out, ← HP.out]
  obtain ⟨k0, k1, k2, k3, k4, k5, k6, k7, k8, k9, k10, k11⟩ := HCS.out
  go_region_held3 (fun W => W.cell? ⟨p, 0, none⟩ = some (.int .i64 y) ∧ W.cell? ⟨p, 1, none⟩ = some (.int .i64 m) ∧ W.cell? ⟨p, 2, none⟩ = some (.int .i64 d) ∧ W.cell? ⟨p, 3, none⟩ = some (.int .i64 h) ∧ W.cell? ⟨p, 4, none⟩ = some (.int .i64 n) ∧ W.cell? ⟨p, 5, none⟩ = some (.int .i64 s) ∧ W.cell? ⟨q, 0, none⟩ = some (.int .i64 y') ∧ W.cell? ⟨q, 1, none⟩ = some (.int .i64 m') ∧ W.cell? ⟨q, 2, none⟩ = some (.int .i64 d') ∧ W.cell? ⟨q, 3, none⟩ = some (.int .i64 h') ∧ W.cell? ⟨q, 4, none⟩ = some (.int .i64 n') ∧ W.cell? ⟨q, 5, none⟩ = some (.int .i64 s')) (go_keep) (fail)
  all_goals clear k0 k1 k2 k3 k4 k5 k6 k7 k8 k9 k10 k11
  · go_wp2_with fail
    have hB2 : Below w.heap.size w (((W.alloc (.cells #[.int .i64 y, .int .i64 m, .int .i64 d, .int .i64 h, .int .i64 n, .int .i64 s] 43 (0, 0))).alloc (.cells #[.int .i64 y', .int .i64 m', .int .i64 d', .int .i64 h', .int .i64 n', .int .i64 s'] 43 (0, 0))).drew) := (Below.box (Below.box hB _) _).drew
    go_loopw [34] (fun v wr => ∃ k : Nat, k ≤ 6 ∧ v = .int .i64 k ∧ wr.heap[W.heap.size]? = some (.cells #[.int .i64 y, .int .i64 m, .int .i64 d, .int .i64 h, .int .i64 n, .int .i64 s] 43 (0, 0)) ∧ wr.heap[W.heap.size + 1]? = some (.cells #[.int .i64 y', .int .i64 m', .int .i64 d', .int .i64 h', .int .i64 n', .int .i64 s'] 43 (0, 0)) ∧ Below w.heap.size w wr ∧ ∀ j, j < k → cX y m d h n s j = cX y' m' d' h' n' s' j) (fun v _ => (6 - intOf v).toNat)
    case atStart => exact ⟨0, by omega, rfl, (two_new W _ _).1, (two_new W _ _).2, hB2, fun j hj => by omega⟩
    case round =>
      clear hB2
      obtain ⟨k, hk, rfl, hA, hBb, hb, he⟩ := hrel
      have HE := Lib.hid he
      have HA := Lib.hid hA
      have HBB := Lib.hid hBb
      clear he hA hBb
      by_cases hlt : k < 6
      · have hx : wr.cell? ⟨W.heap.size, k, none⟩ = some (.int .i64 (cX y m d h n s k)) := six_cells HA.out k hlt
        have hy : wr.cell? ⟨W.heap.size + 1, k, none⟩ = some (.int .i64 (cX y' m' d' h' n' s' k)) := six_cells HBB.out k hlt
        by_cases hne : cX y m d h n s k = cX y' m' d' h' n' s' k
        · have hne' : (cX y m d h n s k != cX y' m' d' h' n' s' k) = false := by simp [hne]
          have HNE := Lib.hid hne
          clear hne
          go_wp2_with fail
          go_quiet (fail)
          go_wp2_with fail
          go_roundw
          case rel =>
            refine ⟨k + 1, by omega, by go_num, HA.out, HBB.out, below_drewN hb _, fun j hj => ?_⟩
            by_cases hj2 : j = k
            · rw [hj2]; exact HNE.out
            · exact HE.out j (by omega)
          case measure => simp [intOf]; omega
        · have hne' : (cX y m d h n s k != cX y' m' d' h' n' s' k) = true := by simp [hne]
          have HC := Lib.hid (clt_at hlt HE.out hne)
          clear hne
          go_wp2_with fail
          go_quiet (fail)
          go_wp2_with fail
          go_quiet (fail)
          go_wp2_with fail
          go_ret
          exact ⟨_, rfl, by rw [HC.out]; simp, below_drewN (below_drewN hb _) _⟩
      · have HC := Lib.hid (clt_same (fun j hj => HE.out j (by omega)))
        go_wp2_with fail
        go_ret
        exact ⟨false, rfl, by simpa using HC.out, hb⟩
  · go_wp2_with fail
    have hB2 : Below w.heap.size w (((W.alloc (.cells #[.int .i64 y', .int .i64 m', .int .i64 d', .int .i64 h', .int .i64 n', .int .i64 s'] 43 (0, 0))).alloc (.cells #[.int .i64 y, .int .i64 m, .int .i64 d, .int .i64 h, .int .i64 n, .int .i64 s] 43 (0, 0))).drew) := (Below.box (Below.box hB _) _).drew
    go_loopw [34] (fun v wr => ∃ k : Nat, k ≤ 6 ∧ v = .int .i64 k ∧ wr.heap[W.heap.size + 1]? = some (.cells #[.int .i64 y, .int .i64 m, .int .i64 d, .int .i64 h, .int .i64 n, .int .i64 s] 43 (0, 0)) ∧ wr.heap[W.heap.size]? = some (.cells #[.int .i64 y', .int .i64 m', .int .i64 d', .int .i64 h', .int .i64 n', .int .i64 s'] 43 (0, 0)) ∧ Below w.heap.size w wr ∧ ∀ j, j < k → cX y m d h n s j = cX y' m' d' h' n' s' j) (fun v _ => (6 - intOf v).toNat)
    case atStart => exact ⟨0, by omega, rfl, (two_new W _ _).2, (two_new W _ _).1, hB2, fun j hj => by omega⟩
    case round =>
      clear hB2
      obtain ⟨k, hk, rfl, hA, hBb, hb, he⟩ := hrel
      have HE := Lib.hid he
      have HA := Lib.hid hA
      have HBB := Lib.hid hBb
      clear he hA hBb
      by_cases hlt : k < 6
      · have hx : wr.cell? ⟨W.heap.size + 1, k, none⟩ = some (.int .i64 (cX y m d h n s k)) := six_cells HA.out k hlt
        have hy : wr.cell? ⟨W.heap.size, k, none⟩ = some (.int .i64 (cX y' m' d' h' n' s' k)) := six_cells HBB.out k hlt
        by_cases hne : cX y m d h n s k = cX y' m' d' h' n' s' k
        · have hne' : (cX y m d h n s k != cX y' m' d' h' n' s' k) = false := by simp [hne]
          have HNE := Lib.hid hne
          clear hne
          go_wp2_with fail
          go_quiet (fail)
          go_wp2_with fail
          go_roundw
          case rel =>
            refine ⟨k + 1, by omega, by go_num, HA.out, HBB.out, below_drewN hb _, fun j hj => ?_⟩
            by_cases hj2 : j = k
            · rw [hj2]; exact HNE.out
            · exact HE.out j (by omega)
          case measure => simp [intOf]; omega
        · have hne' : (cX y m d h n s k != cX y' m' d' h' n' s' k) = true := by simp [hne]
          have HC := Lib.hid (clt_at hlt HE.out hne)
          clear hne
          go_wp2_with fail
          go_quiet (fail)
          go_wp2_with fail
          go_quiet (fail)
          go_wp2_with fail
          go_ret
          exact ⟨_, rfl, by rw [HC.out]; simp, below_drewN (below_drewN hb _) _⟩
      · have HC := Lib.hid (clt_same (fun j hj => HE.out j (by omega)))
        go_wp2_with fail
        go_ret
        exact ⟨false, rfl, by simpa using HC.out, hb⟩
end Go.Proofs.Ytceadjdficcbbaa
