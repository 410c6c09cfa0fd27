/- Contracts: a word that is a time. -/
import Derived.Test.YtngamlikhgilhaaDoorDateA
import Derived.RegionTactic
import Derived.ChangeAlike
import Derived.BigRegion
import Derived.Maps.AppendAt
namespace Go.Proofs.YtngamlikhgilhaaDoor
open Go.RowKit

theorem toL (s : ByteArray) : s.toList = bs s := ByteArray.toList_eq s
theorem colon_one (s : ByteArray) (h : 1 ≤ s.size) : colonB s = ((s.extract 0 1).toList == [58]) := by
  unfold colonB
  rw [toL, bs_extract, List.drop_zero]
  rw [size_bs] at h
  cases e : bs s with
  | nil => rw [e] at h; simp at h
  | cons x l => simp
theorem colon_none (s : ByteArray) (h : s.size < 1) : colonB s = false := by
  rw [size_bs] at h
  unfold colonB
  rw [show bs s = [] from List.eq_nil_of_length_eq_zero (by omega)]
  rfl
set_option maxRecDepth 100000 in
theorem colon_lite (s : ByteArray) (w : World) (_ : s.size ≤ 9223372036854775807) : Calls Tryd.prog 38 #[.string s, .string ⟨#[58]⟩] w fun e w' => e = .returned (.bool (colonB s)) ∧ w = w' := by
  by_cases h : 1 ≤ s.size
  · have HV := Lib.hid (colon_one s h)
    have h2 : (1 : Int) ≤ (s.size : Int) := by omega
    cases hb : ((s.extract 0 1).toList == [58])
    all_goals
      go_enter Tryd.func38, Tryd.ntmps38
      go_wp2_with fail
      go_ret
      exact ⟨ret_bool (HV.out.trans hb).symm, rfl⟩
  · have HV := Lib.hid (colon_none s (by omega))
    have h2 : decide ((1 : Int) ≤ (s.size : Int)) = false := by simp; omega
    clear h
    go_enter Tryd.func38, Tryd.ntmps38
    go_wp2_with fail
    go_ret
    exact ⟨ret_bool HV.out.symm, rfl⟩
set_option maxRecDepth 100000 in
theorem colon_any (s : ByteArray) (w : World) (hs : s.size ≤ 9223372036854775807) : Calls Tryd.prog 16 #[.string s, .string ⟨#[58]⟩] w fun e w' => e = .returned (.bool (colonB s)) ∧ w = w' := by
  go_enter Tryd.func16, Tryd.ntmps16
  go_wp2_with fail
  refine (colon_lite s _ hs).mono ?_
  rintro e w1 ⟨rfl, rfl⟩
  go_wp2_with fail
  go_ret
  exact ⟨rfl, rfl⟩
/-- What a clock's cells hold. -/
structure ClkAt (W : World) (b : Nat) (y m d h n s : Int) : Prop where
  c0 : W.cell? ⟨b, 0, none⟩ = some (.int .i64 y)
  c1 : W.cell? ⟨b, 1, none⟩ = some (.int .i64 m)
  c2 : W.cell? ⟨b, 2, none⟩ = some (.int .i64 d)
  c3 : W.cell? ⟨b, 3, none⟩ = some (.int .i64 h)
  c4 : W.cell? ⟨b, 4, none⟩ = some (.int .i64 n)
  c5 : W.cell? ⟨b, 5, none⟩ = some (.int .i64 s)
  fz : ∀ o, W.frozen? ⟨b, o, none⟩ = false
def TimeP (s : ByteArray) (b : Nat) (y m d h n sc : Int) (w : World) (e : Ending) (w' : World) : Prop :=
  (timeB s = true ∧ e = .returned (.bool true) ∧ ClkAt w' b y m d (numV s) (numV (time2 s)) (numV (time2 (time2 s))) ∧ w.grownBy w' (some b)) ∨
  (timeB s = false ∧ e = .returned (.bool false) ∧ ClkAt w' b y m d h n sc ∧ w.grownBy w' (some b))
theorem after_size (s : ByteArray) : (afterD s).size ≤ s.size := by unfold afterD; rw [ByteArray.size_extract]; omega
theorem tail_size (s : ByteArray) : (tailS s).size ≤ s.size := by unfold tailS; rw [ByteArray.size_extract]; omega
theorem colon_size {s : ByteArray} (h : colonB s = true) : 1 ≤ s.size := by
  rcases Nat.lt_or_ge s.size 1 with h2 | h2
  · rw [colon_none s h2] at h; cases h
  · exact h2
theorem ne_off {b i j : Nat} (h : i ≠ j) : (⟨b, i, none⟩ : Addr) ≠ ⟨b, j, none⟩ := fun e => by injection e with _ e2; exact h e2
theorem ClkAt.s0 {W : World} {b : Nat} {y m d h n s : Int} (hC : ClkAt W b y m d h n s) (v : Int) : ClkAt (W.setCell ⟨b, 0, none⟩ (.int .i64 v)) b v m d h n s :=
  ⟨World.cell?_setCell_same' _ _ _ (by rw [hC.c0]; rfl), by rw [World.cell?_setCell_other _ _ _ _ (ne_off (by decide)), hC.c1], by rw [World.cell?_setCell_other _ _ _ _ (ne_off (by decide)), hC.c2], by rw [World.cell?_setCell_other _ _ _ _ (ne_off (by decide)), hC.c3], by rw [World.cell?_setCell_other _ _ _ _ (ne_off (by decide)), hC.c4], by rw [World.cell?_setCell_other _ _ _ _ (ne_off (by decide)), hC.c5], fun o => by rw [World.frozen?_setCell]; exact hC.fz o⟩
theorem ClkAt.s1 {W : World} {b : Nat} {y m d h n s : Int} (hC : ClkAt W b y m d h n s) (v : Int) : ClkAt (W.setCell ⟨b, 1, none⟩ (.int .i64 v)) b y v d h n s :=
  ⟨by rw [World.cell?_setCell_other _ _ _ _ (ne_off (by decide)), hC.c0], World.cell?_setCell_same' _ _ _ (by rw [hC.c1]; rfl), by rw [World.cell?_setCell_other _ _ _ _ (ne_off (by decide)), hC.c2], by rw [World.cell?_setCell_other _ _ _ _ (ne_off (by decide)), hC.c3], by rw [World.cell?_setCell_other _ _ _ _ (ne_off (by decide)), hC.c4], by rw [World.cell?_setCell_other _ _ _ _ (ne_off (by decide)), hC.c5], fun o => by rw [World.frozen?_setCell]; exact hC.fz o⟩
theorem ClkAt.s2 {W : World} {b : Nat} {y m d h n s : Int} (hC : ClkAt W b y m d h n s) (v : Int) : ClkAt (W.setCell ⟨b, 2, none⟩ (.int .i64 v)) b y m v h n s :=
  ⟨by rw [World.cell?_setCell_other _ _ _ _ (ne_off (by decide)), hC.c0], by rw [World.cell?_setCell_other _ _ _ _ (ne_off (by decide)), hC.c1], World.cell?_setCell_same' _ _ _ (by rw [hC.c2]; rfl), by rw [World.cell?_setCell_other _ _ _ _ (ne_off (by decide)), hC.c3], by rw [World.cell?_setCell_other _ _ _ _ (ne_off (by decide)), hC.c4], by rw [World.cell?_setCell_other _ _ _ _ (ne_off (by decide)), hC.c5], fun o => by rw [World.frozen?_setCell]; exact hC.fz o⟩
theorem ClkAt.s3 {W : World} {b : Nat} {y m d h n s : Int} (hC : ClkAt W b y m d h n s) (v : Int) : ClkAt (W.setCell ⟨b, 3, none⟩ (.int .i64 v)) b y m d v n s :=
  ⟨by rw [World.cell?_setCell_other _ _ _ _ (ne_off (by decide)), hC.c0], by rw [World.cell?_setCell_other _ _ _ _ (ne_off (by decide)), hC.c1], by rw [World.cell?_setCell_other _ _ _ _ (ne_off (by decide)), hC.c2], World.cell?_setCell_same' _ _ _ (by rw [hC.c3]; rfl), by rw [World.cell?_setCell_other _ _ _ _ (ne_off (by decide)), hC.c4], by rw [World.cell?_setCell_other _ _ _ _ (ne_off (by decide)), hC.c5], fun o => by rw [World.frozen?_setCell]; exact hC.fz o⟩
theorem ClkAt.s4 {W : World} {b : Nat} {y m d h n s : Int} (hC : ClkAt W b y m d h n s) (v : Int) : ClkAt (W.setCell ⟨b, 4, none⟩ (.int .i64 v)) b y m d h v s :=
  ⟨by rw [World.cell?_setCell_other _ _ _ _ (ne_off (by decide)), hC.c0], by rw [World.cell?_setCell_other _ _ _ _ (ne_off (by decide)), hC.c1], by rw [World.cell?_setCell_other _ _ _ _ (ne_off (by decide)), hC.c2], by rw [World.cell?_setCell_other _ _ _ _ (ne_off (by decide)), hC.c3], World.cell?_setCell_same' _ _ _ (by rw [hC.c4]; rfl), by rw [World.cell?_setCell_other _ _ _ _ (ne_off (by decide)), hC.c5], fun o => by rw [World.frozen?_setCell]; exact hC.fz o⟩
theorem ClkAt.s5 {W : World} {b : Nat} {y m d h n s : Int} (hC : ClkAt W b y m d h n s) (v : Int) : ClkAt (W.setCell ⟨b, 5, none⟩ (.int .i64 v)) b y m d h n v :=
  ⟨by rw [World.cell?_setCell_other _ _ _ _ (ne_off (by decide)), hC.c0], by rw [World.cell?_setCell_other _ _ _ _ (ne_off (by decide)), hC.c1], by rw [World.cell?_setCell_other _ _ _ _ (ne_off (by decide)), hC.c2], by rw [World.cell?_setCell_other _ _ _ _ (ne_off (by decide)), hC.c3], by rw [World.cell?_setCell_other _ _ _ _ (ne_off (by decide)), hC.c4], World.cell?_setCell_same' _ _ _ (by rw [hC.c5]; rfl), fun o => by rw [World.frozen?_setCell]; exact hC.fz o⟩
theorem ClkAt.drew {W : World} {b : Nat} {y m d h n s : Int} (hC : ClkAt W b y m d h n s) : ClkAt W.drew b y m d h n s := ⟨hC.c0, hC.c1, hC.c2, hC.c3, hC.c4, hC.c5, hC.fz⟩
theorem ClkAt.drewN {W : World} {b : Nat} {y m d h n s : Int} (hC : ClkAt W b y m d h n s) (k : Nat) : ClkAt (W.drewN k) b y m d h n s := ⟨hC.c0, hC.c1, hC.c2, hC.c3, hC.c4, hC.c5, hC.fz⟩
theorem ClkAt.below {W W' : World} {b : Nat} {y m d h n s : Int} (hC : ClkAt W b y m d h n s) (hb : b < W.heap.size) (bel : Below W.heap.size W W') : ClkAt W' b y m d h n s := by
  have hc : ∀ o, W'.cell? ⟨b, o, none⟩ = W.cell? ⟨b, o, none⟩ := fun o => bel.cell (p := ⟨b, o, none⟩) hb
  have hf : ∀ o, W'.frozen? ⟨b, o, none⟩ = W.frozen? ⟨b, o, none⟩ := fun o => bel.frozen (p := ⟨b, o, none⟩) hb
  exact ⟨by rw [hc]; exact hC.c0, by rw [hc]; exact hC.c1, by rw [hc]; exact hC.c2, by rw [hc]; exact hC.c3, by rw [hc]; exact hC.c4, by rw [hc]; exact hC.c5, fun o => by rw [hf]; exact hC.fz o⟩
theorem GB_set (W : World) (b o : Nat) (v : Value) : W.grownBy (W.setCell ⟨b, o, none⟩ v) (some b) :=
  ⟨rfl, rfl, rfl, by rw [World.size_setCell]; exact Nat.le_refl _, fun k _ hk => Below.heap_setCell _ _ _ k (fun e => hk (by rw [e]))⟩
theorem GB_drew (W : World) (r : Option Nat) : W.grownBy W.drew r := ⟨rfl, rfl, rfl, Nat.le_refl _, fun _ _ _ => rfl⟩
theorem GB_drewN (W : World) (k : Nat) (r : Option Nat) : W.grownBy (W.drewN k) r := ⟨rfl, rfl, rfl, Nat.le_refl _, fun _ _ _ => rfl⟩
theorem GB_below {W W' : World} (h : Below W.heap.size W W') (r : Option Nat) : W.grownBy W' r := ⟨h.os, h.tape, h.output, h.size, fun k hk _ => h.block k hk⟩
/-- The three numbers at hand, in a block of the call's own. -/
structure NB (w wr : World) (x y z : Int) : Prop where
  bel : Below w.heap.size w wr
  size : w.heap.size < wr.heap.size
  c0 : wr.cell? ⟨w.heap.size, 0, none⟩ = some (.int .i64 x)
  c1 : wr.cell? ⟨w.heap.size, 1, none⟩ = some (.int .i64 y)
  c2 : wr.cell? ⟨w.heap.size, 2, none⟩ = some (.int .i64 z)
  fz : ∀ o, wr.frozen? ⟨w.heap.size, o, none⟩ = false
theorem NB.drew {w wr : World} {x y z : Int} (h : NB w wr x y z) (k : Nat) : NB w (wr.drewN k) x y z :=
  ⟨⟨h.bel.os, h.bel.tape, h.bel.output, h.bel.size, h.bel.block⟩, h.size, h.c0, h.c1, h.c2, h.fz⟩
theorem NB.s0 {w wr : World} {x y z : Int} (h : NB w wr x y z) (v : Int) : NB w (wr.setCell ⟨w.heap.size, 0, none⟩ (.int .i64 v)) v y z :=
  ⟨h.bel.setCell (Nat.le_refl _) _, by rw [World.size_setCell]; exact h.size, World.cell?_setCell_same' _ _ _ (by rw [h.c0]; rfl), by rw [World.cell?_setCell_other _ _ _ _ (ne_off (by decide)), h.c1], by rw [World.cell?_setCell_other _ _ _ _ (ne_off (by decide)), h.c2], fun o => by rw [World.frozen?_setCell]; exact h.fz o⟩
theorem NB.s1 {w wr : World} {x y z : Int} (h : NB w wr x y z) (v : Int) : NB w (wr.setCell ⟨w.heap.size, 1, none⟩ (.int .i64 v)) x v z :=
  ⟨h.bel.setCell (Nat.le_refl _) _, by rw [World.size_setCell]; exact h.size, by rw [World.cell?_setCell_other _ _ _ _ (ne_off (by decide)), h.c0], World.cell?_setCell_same' _ _ _ (by rw [h.c1]; rfl), by rw [World.cell?_setCell_other _ _ _ _ (ne_off (by decide)), h.c2], fun o => by rw [World.frozen?_setCell]; exact h.fz o⟩
theorem NB.s2 {w wr : World} {x y z : Int} (h : NB w wr x y z) (v : Int) : NB w (wr.setCell ⟨w.heap.size, 2, none⟩ (.int .i64 v)) x y v :=
  ⟨h.bel.setCell (Nat.le_refl _) _, by rw [World.size_setCell]; exact h.size, by rw [World.cell?_setCell_other _ _ _ _ (ne_off (by decide)), h.c0], by rw [World.cell?_setCell_other _ _ _ _ (ne_off (by decide)), h.c1], World.cell?_setCell_same' _ _ _ (by rw [h.c2]; rfl), fun o => by rw [World.frozen?_setCell]; exact h.fz o⟩
theorem num_yes {s : ByteArray} {w w' : World} {e : Ending} (h1 : oneTwo s = true) (h : NumP1 s w e w') : e = .returned (.tuple #[.int .i64 (numV s), .string (afterD s), .bool true]) ∧ ∃ n, w' = w.drewN n := by
  unfold NumP1 at h; rw [if_pos h1] at h; exact h
theorem num_no {s : ByteArray} {w w' : World} {e : Ending} (h1 : oneTwo s = false) (h : NumP1 s w e w') : e = .returned (.tuple #[.int .i64 0, .string ⟨#[]⟩, .bool false]) ∧ ∃ n, w' = w.drewN n := by
  unfold NumP1 at h; rw [if_neg (by rw [h1]; simp)] at h; exact h
def TS (s : ByteArray) (w : World) (t i : Value) (wr : World) : Prop :=
  (t = .string s ∧ i = .int .i64 0 ∧ NB w wr 0 0 0) ∨
  (t = .string (time2 s) ∧ i = .int .i64 1 ∧ NB w wr (numV s) 0 0 ∧ (oneTwo s && colonB (afterD s)) = true) ∨
  (t = .string (time2 (time2 s)) ∧ i = .int .i64 2 ∧ NB w wr (numV s) (numV (time2 s)) 0 ∧ (oneTwo s && colonB (afterD s)) = true ∧ (oneTwo (time2 s) && colonB (afterD (time2 s))) = true) ∨
  (t = .string (time2 (time2 s)) ∧ i = .int .i64 3 ∧ NB w wr (numV s) (numV (time2 s)) (numV (time2 (time2 s))) ∧ timeB s = true)
theorem time_f1 {s : ByteArray} (h : (oneTwo s && colonB (afterD s)) = false) : timeB s = false := by unfold timeB; rw [h]; rfl
theorem time_f2 {s : ByteArray} (h : (oneTwo (time2 s) && colonB (afterD (time2 s))) = false) : timeB s = false := by unfold timeB; rw [h]; simp
theorem time_f3 {s : ByteArray} (h : oneTwo (time2 (time2 s)) = false) : timeB s = false := by unfold timeB; rw [h]; simp
theorem time_t {s : ByteArray} (h1 : (oneTwo s && colonB (afterD s)) = true) (h2 : (oneTwo (time2 s) && colonB (afterD (time2 s))) = true) (h3 : oneTwo (time2 (time2 s)) = true) : timeB s = true := by unfold timeB; rw [h1, h2, h3]; rfl
theorem TimeP_no {s : ByteArray} {b : Nat} {y m d h n sc : Int} {w w' : World} (hC : ClkAt w b y m d h n sc) (hb : b < w.heap.size) (ht : timeB s = false) (bel : Below w.heap.size w w') : TimeP s b y m d h n sc w (.returned (.bool false)) w' := by
  have hc : ∀ o, w'.cell? ⟨b, o, none⟩ = w.cell? ⟨b, o, none⟩ := fun o => bel.cell (p := ⟨b, o, none⟩) hb
  have hf : ∀ o, w'.frozen? ⟨b, o, none⟩ = w.frozen? ⟨b, o, none⟩ := fun o => bel.frozen (p := ⟨b, o, none⟩) hb
  exact .inr ⟨ht, rfl, ⟨by rw [hc]; exact hC.c0, by rw [hc]; exact hC.c1, by rw [hc]; exact hC.c2, by rw [hc]; exact hC.c3, by rw [hc]; exact hC.c4, by rw [hc]; exact hC.c5, fun o => by rw [hf]; exact hC.fz o⟩,
    ⟨bel.os, bel.tape, bel.output, bel.size, fun k hk _ => bel.block k hk⟩⟩
set_option maxHeartbeats 4000000 in
set_option maxRecDepth 100000 in
theorem time_any (s : ByteArray) (b : Nat) (y m d h n sc : Int) (w : World) (hs : s.size ≤ 9223372036854775807) (hC : ClkAt w b y m d h n sc) (hb : b < w.heap.size) :
    Calls Tryd.prog 25 #[.string s, .pointer (some ⟨b, 0, none⟩)] w (TimeP s b y m d h n sc w) := by
  have z1 : (afterD s).size ≤ 9223372036854775807 := Nat.le_trans (after_size s) hs
  have z2 : (time2 s).size ≤ 9223372036854775807 := Nat.le_trans (tail_size _) z1
  have z3 : (afterD (time2 s)).size ≤ 9223372036854775807 := Nat.le_trans (after_size _) z2
  have z4 : (time2 (time2 s)).size ≤ 9223372036854775807 := Nat.le_trans (tail_size _) z3
  have HC := Lib.hid hC
  clear hC
  go_enter Tryd.func25, Tryd.ntmps25
  go_wp2_with fail
  go_loopw [0, 10] (fun t i wr => TS s w t i wr) (fun _ i _ => (3 - intOf i).toNat)
  case atStart => exact .inl ⟨rfl, rfl, (Below.refl _ _).alloc (Nat.le_refl _) _, by simp, by go_simp, by go_simp, by go_simp, fun o => by go_simp⟩
  case round =>
    rcases hrel with ⟨rfl, rfl, hN⟩ | ⟨rfl, rfl, hN, ht1⟩ | ⟨rfl, rfl, hN, ht1, ht2⟩ | ⟨rfl, rfl, hN, ht⟩
    · cases h1 : oneTwo s
      · have HF := Lib.hid (@time_f1 s (by rw [h1]; rfl))
        have hq : oneTwo s = false := h1
        have HQ := Lib.hid hq
        have HNN := Lib.hid hN
        clear h1 hq hN
        go_wp2_with fail
        refine (number_1 s _ hs).mono ?_
        intro e w1 hn
        obtain ⟨rfl, k, rfl⟩ := num_no HQ.out hn
        clear hn
        go_wp2_with fail
        go_ret
        exact TimeP_no HC.out hb HF.out (HNN.out.drew k).bel
      · cases h2 : colonB (afterD s)
        · have HF := Lib.hid (@time_f1 s (by rw [h2]; simp))
          have HQ := Lib.hid h1
          have HC2 := Lib.hid h2
          have HNN := Lib.hid hN
          clear h1 h2 hN
          go_wp2_with fail
          refine (number_1 s _ hs).mono ?_
          intro e w1 hn
          obtain ⟨rfl, k, rfl⟩ := num_yes HQ.out hn
          clear hn
          go_wp2_with fail
          refine (colon_any (afterD s) _ z1).mono ?_
          rintro e w2 ⟨rfl, rfl⟩
          rw [HC2.out]
          go_wp2_with fail
          go_ret
          exact TimeP_no HC.out hb HF.out (HNN.out.drew k).bel
        · have hp := colon_size h2
          have hp2 : (1 : Int) ≤ ((afterD s).size : Int) := by omega
          have HO := Lib.hid (show (oneTwo s && colonB (afterD s)) = true by rw [h1, h2]; rfl)
          have HQ := Lib.hid h1
          have HC2 := Lib.hid h2
          clear h1 h2
          go_wp2_with fail
          refine (number_1 s _ hs).mono ?_
          intro e w1 hn
          obtain ⟨rfl, k, rfl⟩ := num_yes HQ.out hn
          clear hn
          have hN1 := hN.drew k
          obtain ⟨g1, g2, g3, g4, g5, g6⟩ := hN1
          have HNN := Lib.hid (hN.drew k)
          clear hN
          go_wp2_with fail
          refine (colon_any (afterD s) _ z1).mono ?_
          rintro e w2 ⟨rfl, rfl⟩
          rw [HC2.out]
          go_wp2_with fail
          go_roundw
          case rel => exact .inr (.inl ⟨rfl, rfl, HNN.out.s0 _, HO.out⟩)
          case measure => simp [intOf]
    · have T1 := Lib.hid ht1
      clear ht1
      cases h1 : oneTwo (time2 s)
      · have HF := Lib.hid (@time_f2 s (by rw [h1]; rfl))
        have hq : oneTwo (time2 s) = false := h1
        have HQ := Lib.hid hq
        have HNN := Lib.hid hN
        clear h1 hq hN
        go_wp2_with fail
        refine (number_1 (time2 s) _ z2).mono ?_
        intro e w1 hn
        obtain ⟨rfl, k, rfl⟩ := num_no HQ.out hn
        clear hn
        go_wp2_with fail
        go_ret
        exact TimeP_no HC.out hb HF.out (HNN.out.drew k).bel
      · cases h2 : colonB (afterD (time2 s))
        · have HF := Lib.hid (@time_f2 s (by rw [h2]; simp))
          have HQ := Lib.hid h1
          have HC2 := Lib.hid h2
          have HNN := Lib.hid hN
          clear h1 h2 hN
          go_wp2_with fail
          refine (number_1 (time2 s) _ z2).mono ?_
          intro e w1 hn
          obtain ⟨rfl, k, rfl⟩ := num_yes HQ.out hn
          clear hn
          go_wp2_with fail
          refine (colon_any (afterD (time2 s)) _ z3).mono ?_
          rintro e w2 ⟨rfl, rfl⟩
          rw [HC2.out]
          go_wp2_with fail
          go_ret
          exact TimeP_no HC.out hb HF.out (HNN.out.drew k).bel
        · have hp := colon_size h2
          have hp2 : (1 : Int) ≤ ((afterD (time2 s)).size : Int) := by omega
          have HO := Lib.hid (show (oneTwo (time2 s) && colonB (afterD (time2 s))) = true by rw [h1, h2]; rfl)
          have HQ := Lib.hid h1
          have HC2 := Lib.hid h2
          clear h1 h2
          go_wp2_with fail
          refine (number_1 (time2 s) _ z2).mono ?_
          intro e w1 hn
          obtain ⟨rfl, k, rfl⟩ := num_yes HQ.out hn
          clear hn
          have hN1 := hN.drew k
          obtain ⟨g1, g2, g3, g4, g5, g6⟩ := hN1
          have HNN := Lib.hid (hN.drew k)
          clear hN
          go_wp2_with fail
          refine (colon_any (afterD (time2 s)) _ z3).mono ?_
          rintro e w2 ⟨rfl, rfl⟩
          rw [HC2.out]
          go_wp2_with fail
          go_roundw
          case rel => exact .inr (.inr (.inl ⟨rfl, rfl, HNN.out.s1 _, T1.out, HO.out⟩))
          case measure => simp [intOf]
    · have T1 := Lib.hid ht1
      clear ht1
      have T2 := Lib.hid ht2
      clear ht2
      cases h1 : oneTwo (time2 (time2 s))
      · have HF := Lib.hid (@time_f3 s h1)
        have hq : oneTwo (time2 (time2 s)) = false := h1
        have HQ := Lib.hid hq
        have HNN := Lib.hid hN
        clear h1 hq hN
        go_wp2_with fail
        refine (number_1 (time2 (time2 s)) _ z4).mono ?_
        intro e w1 hn
        obtain ⟨rfl, k, rfl⟩ := num_no HQ.out hn
        clear hn
        go_wp2_with fail
        go_ret
        exact TimeP_no HC.out hb HF.out (HNN.out.drew k).bel
      · have HT := Lib.hid (time_t T1.out T2.out h1)
        have HQ := Lib.hid h1
        clear h1
        go_wp2_with fail
        refine (number_1 (time2 (time2 s)) _ z4).mono ?_
        intro e w1 hn
        obtain ⟨rfl, k, rfl⟩ := num_yes HQ.out hn
        clear hn
        have hN1 := hN.drew k
        obtain ⟨g1, g2, g3, g4, g5, g6⟩ := hN1
        have HNN := Lib.hid (hN.drew k)
        clear hN
        go_wp2_with fail
        go_roundw
        case rel => exact .inr (.inr (.inr ⟨rfl, rfl, HNN.out.s2 _, HT.out⟩))
        case measure => simp [intOf]
    · have HT := Lib.hid ht
      clear ht
      obtain ⟨g1, g2, g3, g4, g5, g6⟩ := hN
      have hbw : b < wr.heap.size := by omega
      have hc : ∀ o, wr.cell? ⟨b, o, none⟩ = w.cell? ⟨b, o, none⟩ := fun o => g1.cell (p := ⟨b, o, none⟩) hb
      have hf : ∀ o, wr.frozen? ⟨b, o, none⟩ = w.frozen? ⟨b, o, none⟩ := fun o => g1.frozen (p := ⟨b, o, none⟩) hb
      obtain ⟨c0, c1, c2, c3, c4, c5, fz⟩ := HC.out
      rw [← hc] at c0 c1 c2 c3 c4 c5
      have fb : ∀ o, wr.frozen? ⟨b, o, none⟩ = false := fun o => by rw [hf]; exact fz o
      have hne : b ≠ w.heap.size := by omega
      have G1 := Lib.hid g1
      clear g1 hc hf fz
      go_wp2_with fail
      go_region
      go_wp2_with fail
      go_ret
      have CW : ClkAt wr b y m d h n sc := ⟨c0, c1, c2, c3, c4, c5, fb⟩
      exact .inl ⟨HT.out, rfl, (((CW.s3 _).s4 _).s5 _).drew, (GB_below G1.out _).trans (((GB_set wr b 3 _).trans (GB_set _ b 4 _)).trans ((GB_set _ b 5 _).trans (GB_drew _ _)))⟩
end Go.Proofs.YtngamlikhgilhaaDoor
