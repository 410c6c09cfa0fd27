/- Contracts: the reference's month of a word. -/
import Derived.Test.YtfbildneagjccaaDateC
namespace Go.Proofs.Ytfbildneagjccaa
open Go.RowKit

theorem mon_lit {a : List UInt8} {X : ByteArray} : (X.toList == a) = (a == bs X) := by rw [toL, Bool.beq_comm]
/-- The months' names in memory. -/
structure MonAt (W : World) (N : Nat) : Prop where
  c0 : W.cell? ⟨N, 0, none⟩ = some (.string ⟨#[106, 97, 110]⟩)
  c1 : W.cell? ⟨N, 1, none⟩ = some (.string ⟨#[102, 101, 98]⟩)
  c2 : W.cell? ⟨N, 2, none⟩ = some (.string ⟨#[109, 97, 114]⟩)
  c3 : W.cell? ⟨N, 3, none⟩ = some (.string ⟨#[97, 112, 114]⟩)
  c4 : W.cell? ⟨N, 4, none⟩ = some (.string ⟨#[109, 97, 121]⟩)
  c5 : W.cell? ⟨N, 5, none⟩ = some (.string ⟨#[106, 117, 110]⟩)
  c6 : W.cell? ⟨N, 6, none⟩ = some (.string ⟨#[106, 117, 108]⟩)
  c7 : W.cell? ⟨N, 7, none⟩ = some (.string ⟨#[97, 117, 103]⟩)
  c8 : W.cell? ⟨N, 8, none⟩ = some (.string ⟨#[115, 101, 112]⟩)
  c9 : W.cell? ⟨N, 9, none⟩ = some (.string ⟨#[111, 99, 116]⟩)
  c10 : W.cell? ⟨N, 10, none⟩ = some (.string ⟨#[110, 111, 118]⟩)
  c11 : W.cell? ⟨N, 11, none⟩ = some (.string ⟨#[100, 101, 99]⟩)
theorem MonAt.below {W W' : World} {N : Nat} (h : MonAt W N) (hN : N < W.heap.size) (b : Below W.heap.size W W') : MonAt W' N := by
  have hc : ∀ o, W'.cell? ⟨N, o, none⟩ = W.cell? ⟨N, o, none⟩ := fun o => b.cell (p := ⟨N, o, none⟩) hN
  exact ⟨by rw [hc]; exact h.c0, by rw [hc]; exact h.c1, by rw [hc]; exact h.c2, by rw [hc]; exact h.c3, by rw [hc]; exact h.c4, by rw [hc]; exact h.c5, by rw [hc]; exact h.c6, by rw [hc]; exact h.c7, by rw [hc]; exact h.c8, by rw [hc]; exact h.c9, by rw [hc]; exact h.c10, by rw [hc]; exact h.c11⟩
theorem MonAt.new (w : World) : MonAt (w.alloc (.cells #[.string ⟨#[106, 97, 110]⟩, .string ⟨#[102, 101, 98]⟩, .string ⟨#[109, 97, 114]⟩, .string ⟨#[97, 112, 114]⟩, .string ⟨#[109, 97, 121]⟩, .string ⟨#[106, 117, 110]⟩, .string ⟨#[106, 117, 108]⟩, .string ⟨#[97, 117, 103]⟩, .string ⟨#[115, 101, 112]⟩, .string ⟨#[111, 99, 116]⟩, .string ⟨#[110, 111, 118]⟩, .string ⟨#[100, 101, 99]⟩] 9)) w.heap.size := ⟨by rw [World.cell?_alloc_new]; rfl, by rw [World.cell?_alloc_new]; rfl, by rw [World.cell?_alloc_new]; rfl, by rw [World.cell?_alloc_new]; rfl, by rw [World.cell?_alloc_new]; rfl, by rw [World.cell?_alloc_new]; rfl, by rw [World.cell?_alloc_new]; rfl, by rw [World.cell?_alloc_new]; rfl, by rw [World.cell?_alloc_new]; rfl, by rw [World.cell?_alloc_new]; rfl, by rw [World.cell?_alloc_new]; rfl, by rw [World.cell?_alloc_new]; rfl⟩
set_option maxHeartbeats 4000000 in
set_option maxRecDepth 100000 in
theorem rmonth_any (w : ByteArray) (W : World) (hs : w.size ≤ 9223372036854775807) : Calls Try.prog 50 #[.string w] W fun e W' => e = .returned (.int .i64 (monthN w)) ∧ Below W.heap.size W W' := by
  have hM := MonAt.new W
  have hz : (w.extract 0 3).size ≤ 9223372036854775807 := by rw [ByteArray.size_extract]; omega
  have hB0 : Below W.heap.size W (W.alloc (.cells #[.string ⟨#[106, 97, 110]⟩, .string ⟨#[102, 101, 98]⟩, .string ⟨#[109, 97, 114]⟩, .string ⟨#[97, 112, 114]⟩, .string ⟨#[109, 97, 121]⟩, .string ⟨#[106, 117, 110]⟩, .string ⟨#[106, 117, 108]⟩, .string ⟨#[97, 117, 103]⟩, .string ⟨#[115, 101, 112]⟩, .string ⟨#[111, 99, 116]⟩, .string ⟨#[110, 111, 118]⟩, .string ⟨#[100, 101, 99]⟩] 9)) := (Below.refl _ W).alloc (Nat.le_refl _) _
  have hsz : W.heap.size < (W.alloc (.cells #[.string ⟨#[106, 97, 110]⟩, .string ⟨#[102, 101, 98]⟩, .string ⟨#[109, 97, 114]⟩, .string ⟨#[97, 112, 114]⟩, .string ⟨#[109, 97, 121]⟩, .string ⟨#[106, 117, 110]⟩, .string ⟨#[106, 117, 108]⟩, .string ⟨#[97, 117, 103]⟩, .string ⟨#[115, 101, 112]⟩, .string ⟨#[111, 99, 116]⟩, .string ⟨#[110, 111, 118]⟩, .string ⟨#[100, 101, 99]⟩] 9)).heap.size := by simp
  obtain ⟨W1, hW1⟩ : ∃ W1, W1 = W.alloc (.cells #[.string ⟨#[106, 97, 110]⟩, .string ⟨#[102, 101, 98]⟩, .string ⟨#[109, 97, 114]⟩, .string ⟨#[97, 112, 114]⟩, .string ⟨#[109, 97, 121]⟩, .string ⟨#[106, 117, 110]⟩, .string ⟨#[106, 117, 108]⟩, .string ⟨#[97, 117, 103]⟩, .string ⟨#[115, 101, 112]⟩, .string ⟨#[111, 99, 116]⟩, .string ⟨#[110, 111, 118]⟩, .string ⟨#[100, 101, 99]⟩] 9) := ⟨_, rfl⟩
  rw [← hW1] at hM hB0 hsz
  have HM := Lib.hid hM
  have HB0 := Lib.hid hB0
  have HW := Lib.hid hW1
  clear hM hB0 hW1
  by_cases h3 : w.size < 3
  · have HV := Lib.hid (monthN_small h3)
    have k3 : decide ((3 : Int) ≤ (w.size : Int)) = false := by simp; omega
    go_enter Try.func50, Try.ntmps50
    go_wp2_with fail
    rw [← HW.out]
    go_loopw [4] (fun i wr => ∃ k : Nat, k ≤ 12 ∧ i = .int .i64 k ∧ Below W1.heap.size W1 wr) (fun i _ => (12 - intOf i).toNat)
    case atStart => exact ⟨0, by omega, rfl, Below.refl _ _⟩
    case round =>
      obtain ⟨k, hk, rfl, hb⟩ := hrel
      by_cases hlt : k < 12
      · have hlt2 : (k : Int) < 12 := by omega
        go_wp2_with fail
        go_quiet (fail)
        go_wp2_with fail
        go_roundw
        case rel => exact ⟨k + 1, by omega, by go_num, ⟨hb.os, hb.tape, hb.output, hb.size, hb.block⟩⟩
        case measure => simp [intOf]; omega
      · have hlt2 : ¬ ((k : Int) < 12) := by omega
        go_wp2_with fail
        go_ret
        exact ⟨by rw [HV.out]; rfl, HB0.out.trans (hb.mono HB0.out.size)⟩
  · have HA := Lib.hid (fun k hk h => @monthN_at w h3 k hk h)
    have HN := Lib.hid (fun h => @monthN_none w h3 h)
    have HI := Lib.hid (monI_at w)
    have HB := Lib.hid (monI_before w)
    have hle := monI_le w
    generalize monI w = m at HA HN HI HB hle
    have HX := Lib.hid (show mon3 w = bs (lowS (w.extract 0 3)) from rfl)
    have k3 : (3 : Int) ≤ (w.size : Int) := by omega
    go_enter Try.func50, Try.ntmps50
    go_wp2_with fail
    rw [← HW.out]
    go_loopw [4] (fun i wr => Below W1.heap.size W1 wr ∧ ((i = .int .i64 0 ∧ Hid (0 ≤ m)) ∨ (i = .int .i64 1 ∧ Hid (1 ≤ m)) ∨ (i = .int .i64 2 ∧ Hid (2 ≤ m)) ∨ (i = .int .i64 3 ∧ Hid (3 ≤ m)) ∨ (i = .int .i64 4 ∧ Hid (4 ≤ m)) ∨ (i = .int .i64 5 ∧ Hid (5 ≤ m)) ∨ (i = .int .i64 6 ∧ Hid (6 ≤ m)) ∨ (i = .int .i64 7 ∧ Hid (7 ≤ m)) ∨ (i = .int .i64 8 ∧ Hid (8 ≤ m)) ∨ (i = .int .i64 9 ∧ Hid (9 ≤ m)) ∨ (i = .int .i64 10 ∧ Hid (10 ≤ m)) ∨ (i = .int .i64 11 ∧ Hid (11 ≤ m)) ∨ (i = .int .i64 12 ∧ Hid (12 ≤ m)))) (fun i _ => (12 - intOf i).toNat)
    case atStart => exact ⟨Below.refl _ _, .inl ⟨rfl, Lib.hid (Nat.zero_le _)⟩⟩
    case round =>
      obtain ⟨hb, hrel⟩ := hrel
      have hwr : W.heap.size < wr.heap.size := Nat.lt_of_lt_of_le hsz hb.size
      obtain ⟨c0, c1, c2, c3, c4, c5, c6, c7, c8, c9, c10, c11⟩ := HM.out.below hsz hb
      rcases hrel with ⟨rfl, hj⟩ | ⟨rfl, hj⟩ | ⟨rfl, hj⟩ | ⟨rfl, hj⟩ | ⟨rfl, hj⟩ | ⟨rfl, hj⟩ | ⟨rfl, hj⟩ | ⟨rfl, hj⟩ | ⟨rfl, hj⟩ | ⟨rfl, hj⟩ | ⟨rfl, hj⟩ | ⟨rfl, hj⟩ | ⟨rfl, hj⟩
      · have hcj := fun x : BW wr => (x.cell W.heap.size 0 hwr).trans c0
        clear c0 c1 c2 c3 c4 c5 c6 c7 c8 c9 c10 c11
        by_cases hm : m = 0
        · have hq : ((lowS (w.extract 0 3)).toList == [106, 97, 110]) = true := by rw [mon_lit, ← HX.out]; exact HI.out 0 (by decide) hm
          have HV := Lib.hid (HA.out 0 (by decide) hm)
          clear hm
          go_wp2_with fail
          refine wp_region_class (by kernel_rfl) (by kernel_rfl) ?_
          repeat (go_big_quiet_step ((go_at_call 19; exact BW.call (rlower_any (w.extract 0 3) _ hz))))
          refine wpQuiet_nil ?_
          rintro Wx ⟨x, rfl⟩
          have HBX := Lib.hid (Below.trans hb (x.bel.mono hb.size))
          clear hcj
          go_wp2_with fail
          go_ret
          exact ⟨by rw [HV.out]; rfl, HB0.out.trans (HBX.out.mono HB0.out.size)⟩
        · have hq : ((lowS (w.extract 0 3)).toList == [106, 97, 110]) = false := by rw [mon_lit, ← HX.out]; exact HB.out 0 (by decide) (by have := hj.out; omega)
          have HJ := Lib.hid (show 1 ≤ m by have := hj.out; omega)
          clear hm hj
          go_wp2_with fail
          refine wp_region_class (by kernel_rfl) (by kernel_rfl) ?_
          repeat (go_big_quiet_step ((go_at_call 19; exact BW.call (rlower_any (w.extract 0 3) _ hz))))
          refine wpQuiet_nil ?_
          rintro Wx ⟨x, rfl⟩
          have HBX := Lib.hid (Below.trans hb (x.bel.mono hb.size))
          clear hcj
          go_wp2_with fail
          go_roundw
          case rel => exact ⟨HBX.out, .inr (.inl ⟨rfl, Lib.hid HJ.out⟩)⟩
          case measure => simp [intOf]
      · have hcj := fun x : BW wr => (x.cell W.heap.size 1 hwr).trans c1
        clear c0 c1 c2 c3 c4 c5 c6 c7 c8 c9 c10 c11
        by_cases hm : m = 1
        · have hq : ((lowS (w.extract 0 3)).toList == [102, 101, 98]) = true := by rw [mon_lit, ← HX.out]; exact HI.out 1 (by decide) hm
          have HV := Lib.hid (HA.out 1 (by decide) hm)
          clear hm
          go_wp2_with fail
          refine wp_region_class (by kernel_rfl) (by kernel_rfl) ?_
          repeat (go_big_quiet_step ((go_at_call 19; exact BW.call (rlower_any (w.extract 0 3) _ hz))))
          refine wpQuiet_nil ?_
          rintro Wx ⟨x, rfl⟩
          have HBX := Lib.hid (Below.trans hb (x.bel.mono hb.size))
          clear hcj
          go_wp2_with fail
          go_ret
          exact ⟨by rw [HV.out]; rfl, HB0.out.trans (HBX.out.mono HB0.out.size)⟩
        · have hq : ((lowS (w.extract 0 3)).toList == [102, 101, 98]) = false := by rw [mon_lit, ← HX.out]; exact HB.out 1 (by decide) (by have := hj.out; omega)
          have HJ := Lib.hid (show 2 ≤ m by have := hj.out; omega)
          clear hm hj
          go_wp2_with fail
          refine wp_region_class (by kernel_rfl) (by kernel_rfl) ?_
          repeat (go_big_quiet_step ((go_at_call 19; exact BW.call (rlower_any (w.extract 0 3) _ hz))))
          refine wpQuiet_nil ?_
          rintro Wx ⟨x, rfl⟩
          have HBX := Lib.hid (Below.trans hb (x.bel.mono hb.size))
          clear hcj
          go_wp2_with fail
          go_roundw
          case rel => exact ⟨HBX.out, .inr (.inr (.inl ⟨rfl, Lib.hid HJ.out⟩))⟩
          case measure => simp [intOf]
      · have hcj := fun x : BW wr => (x.cell W.heap.size 2 hwr).trans c2
        clear c0 c1 c2 c3 c4 c5 c6 c7 c8 c9 c10 c11
        by_cases hm : m = 2
        · have hq : ((lowS (w.extract 0 3)).toList == [109, 97, 114]) = true := by rw [mon_lit, ← HX.out]; exact HI.out 2 (by decide) hm
          have HV := Lib.hid (HA.out 2 (by decide) hm)
          clear hm
          go_wp2_with fail
          refine wp_region_class (by kernel_rfl) (by kernel_rfl) ?_
          repeat (go_big_quiet_step ((go_at_call 19; exact BW.call (rlower_any (w.extract 0 3) _ hz))))
          refine wpQuiet_nil ?_
          rintro Wx ⟨x, rfl⟩
          have HBX := Lib.hid (Below.trans hb (x.bel.mono hb.size))
          clear hcj
          go_wp2_with fail
          go_ret
          exact ⟨by rw [HV.out]; rfl, HB0.out.trans (HBX.out.mono HB0.out.size)⟩
        · have hq : ((lowS (w.extract 0 3)).toList == [109, 97, 114]) = false := by rw [mon_lit, ← HX.out]; exact HB.out 2 (by decide) (by have := hj.out; omega)
          have HJ := Lib.hid (show 3 ≤ m by have := hj.out; omega)
          clear hm hj
          go_wp2_with fail
          refine wp_region_class (by kernel_rfl) (by kernel_rfl) ?_
          repeat (go_big_quiet_step ((go_at_call 19; exact BW.call (rlower_any (w.extract 0 3) _ hz))))
          refine wpQuiet_nil ?_
          rintro Wx ⟨x, rfl⟩
          have HBX := Lib.hid (Below.trans hb (x.bel.mono hb.size))
          clear hcj
          go_wp2_with fail
          go_roundw
          case rel => exact ⟨HBX.out, .inr (.inr (.inr (.inl ⟨rfl, Lib.hid HJ.out⟩)))⟩
          case measure => simp [intOf]
      · have hcj := fun x : BW wr => (x.cell W.heap.size 3 hwr).trans c3
        clear c0 c1 c2 c3 c4 c5 c6 c7 c8 c9 c10 c11
        by_cases hm : m = 3
        · have hq : ((lowS (w.extract 0 3)).toList == [97, 112, 114]) = true := by rw [mon_lit, ← HX.out]; exact HI.out 3 (by decide) hm
          have HV := Lib.hid (HA.out 3 (by decide) hm)
          clear hm
          go_wp2_with fail
          refine wp_region_class (by kernel_rfl) (by kernel_rfl) ?_
          repeat (go_big_quiet_step ((go_at_call 19; exact BW.call (rlower_any (w.extract 0 3) _ hz))))
          refine wpQuiet_nil ?_
          rintro Wx ⟨x, rfl⟩
          have HBX := Lib.hid (Below.trans hb (x.bel.mono hb.size))
          clear hcj
          go_wp2_with fail
          go_ret
          exact ⟨by rw [HV.out]; rfl, HB0.out.trans (HBX.out.mono HB0.out.size)⟩
        · have hq : ((lowS (w.extract 0 3)).toList == [97, 112, 114]) = false := by rw [mon_lit, ← HX.out]; exact HB.out 3 (by decide) (by have := hj.out; omega)
          have HJ := Lib.hid (show 4 ≤ m by have := hj.out; omega)
          clear hm hj
          go_wp2_with fail
          refine wp_region_class (by kernel_rfl) (by kernel_rfl) ?_
          repeat (go_big_quiet_step ((go_at_call 19; exact BW.call (rlower_any (w.extract 0 3) _ hz))))
          refine wpQuiet_nil ?_
          rintro Wx ⟨x, rfl⟩
          have HBX := Lib.hid (Below.trans hb (x.bel.mono hb.size))
          clear hcj
          go_wp2_with fail
          go_roundw
          case rel => exact ⟨HBX.out, .inr (.inr (.inr (.inr (.inl ⟨rfl, Lib.hid HJ.out⟩))))⟩
          case measure => simp [intOf]
      · have hcj := fun x : BW wr => (x.cell W.heap.size 4 hwr).trans c4
        clear c0 c1 c2 c3 c4 c5 c6 c7 c8 c9 c10 c11
        by_cases hm : m = 4
        · have hq : ((lowS (w.extract 0 3)).toList == [109, 97, 121]) = true := by rw [mon_lit, ← HX.out]; exact HI.out 4 (by decide) hm
          have HV := Lib.hid (HA.out 4 (by decide) hm)
          clear hm
          go_wp2_with fail
          refine wp_region_class (by kernel_rfl) (by kernel_rfl) ?_
          repeat (go_big_quiet_step ((go_at_call 19; exact BW.call (rlower_any (w.extract 0 3) _ hz))))
          refine wpQuiet_nil ?_
          rintro Wx ⟨x, rfl⟩
          have HBX := Lib.hid (Below.trans hb (x.bel.mono hb.size))
          clear hcj
          go_wp2_with fail
          go_ret
          exact ⟨by rw [HV.out]; rfl, HB0.out.trans (HBX.out.mono HB0.out.size)⟩
        · have hq : ((lowS (w.extract 0 3)).toList == [109, 97, 121]) = false := by rw [mon_lit, ← HX.out]; exact HB.out 4 (by decide) (by have := hj.out; omega)
          have HJ := Lib.hid (show 5 ≤ m by have := hj.out; omega)
          clear hm hj
          go_wp2_with fail
          refine wp_region_class (by kernel_rfl) (by kernel_rfl) ?_
          repeat (go_big_quiet_step ((go_at_call 19; exact BW.call (rlower_any (w.extract 0 3) _ hz))))
          refine wpQuiet_nil ?_
          rintro Wx ⟨x, rfl⟩
          have HBX := Lib.hid (Below.trans hb (x.bel.mono hb.size))
          clear hcj
          go_wp2_with fail
          go_roundw
          case rel => exact ⟨HBX.out, .inr (.inr (.inr (.inr (.inr (.inl ⟨rfl, Lib.hid HJ.out⟩)))))⟩
          case measure => simp [intOf]
      · have hcj := fun x : BW wr => (x.cell W.heap.size 5 hwr).trans c5
        clear c0 c1 c2 c3 c4 c5 c6 c7 c8 c9 c10 c11
        by_cases hm : m = 5
        · have hq : ((lowS (w.extract 0 3)).toList == [106, 117, 110]) = true := by rw [mon_lit, ← HX.out]; exact HI.out 5 (by decide) hm
          have HV := Lib.hid (HA.out 5 (by decide) hm)
          clear hm
          go_wp2_with fail
          refine wp_region_class (by kernel_rfl) (by kernel_rfl) ?_
          repeat (go_big_quiet_step ((go_at_call 19; exact BW.call (rlower_any (w.extract 0 3) _ hz))))
          refine wpQuiet_nil ?_
          rintro Wx ⟨x, rfl⟩
          have HBX := Lib.hid (Below.trans hb (x.bel.mono hb.size))
          clear hcj
          go_wp2_with fail
          go_ret
          exact ⟨by rw [HV.out]; rfl, HB0.out.trans (HBX.out.mono HB0.out.size)⟩
        · have hq : ((lowS (w.extract 0 3)).toList == [106, 117, 110]) = false := by rw [mon_lit, ← HX.out]; exact HB.out 5 (by decide) (by have := hj.out; omega)
          have HJ := Lib.hid (show 6 ≤ m by have := hj.out; omega)
          clear hm hj
          go_wp2_with fail
          refine wp_region_class (by kernel_rfl) (by kernel_rfl) ?_
          repeat (go_big_quiet_step ((go_at_call 19; exact BW.call (rlower_any (w.extract 0 3) _ hz))))
          refine wpQuiet_nil ?_
          rintro Wx ⟨x, rfl⟩
          have HBX := Lib.hid (Below.trans hb (x.bel.mono hb.size))
          clear hcj
          go_wp2_with fail
          go_roundw
          case rel => exact ⟨HBX.out, .inr (.inr (.inr (.inr (.inr (.inr (.inl ⟨rfl, Lib.hid HJ.out⟩))))))⟩
          case measure => simp [intOf]
      · have hcj := fun x : BW wr => (x.cell W.heap.size 6 hwr).trans c6
        clear c0 c1 c2 c3 c4 c5 c6 c7 c8 c9 c10 c11
        by_cases hm : m = 6
        · have hq : ((lowS (w.extract 0 3)).toList == [106, 117, 108]) = true := by rw [mon_lit, ← HX.out]; exact HI.out 6 (by decide) hm
          have HV := Lib.hid (HA.out 6 (by decide) hm)
          clear hm
          go_wp2_with fail
          refine wp_region_class (by kernel_rfl) (by kernel_rfl) ?_
          repeat (go_big_quiet_step ((go_at_call 19; exact BW.call (rlower_any (w.extract 0 3) _ hz))))
          refine wpQuiet_nil ?_
          rintro Wx ⟨x, rfl⟩
          have HBX := Lib.hid (Below.trans hb (x.bel.mono hb.size))
          clear hcj
          go_wp2_with fail
          go_ret
          exact ⟨by rw [HV.out]; rfl, HB0.out.trans (HBX.out.mono HB0.out.size)⟩
        · have hq : ((lowS (w.extract 0 3)).toList == [106, 117, 108]) = false := by rw [mon_lit, ← HX.out]; exact HB.out 6 (by decide) (by have := hj.out; omega)
          have HJ := Lib.hid (show 7 ≤ m by have := hj.out; omega)
          clear hm hj
          go_wp2_with fail
          refine wp_region_class (by kernel_rfl) (by kernel_rfl) ?_
          repeat (go_big_quiet_step ((go_at_call 19; exact BW.call (rlower_any (w.extract 0 3) _ hz))))
          refine wpQuiet_nil ?_
          rintro Wx ⟨x, rfl⟩
          have HBX := Lib.hid (Below.trans hb (x.bel.mono hb.size))
          clear hcj
          go_wp2_with fail
          go_roundw
          case rel => exact ⟨HBX.out, .inr (.inr (.inr (.inr (.inr (.inr (.inr (.inl ⟨rfl, Lib.hid HJ.out⟩)))))))⟩
          case measure => simp [intOf]
      · have hcj := fun x : BW wr => (x.cell W.heap.size 7 hwr).trans c7
        clear c0 c1 c2 c3 c4 c5 c6 c7 c8 c9 c10 c11
        by_cases hm : m = 7
        · have hq : ((lowS (w.extract 0 3)).toList == [97, 117, 103]) = true := by rw [mon_lit, ← HX.out]; exact HI.out 7 (by decide) hm
          have HV := Lib.hid (HA.out 7 (by decide) hm)
          clear hm
          go_wp2_with fail
          refine wp_region_class (by kernel_rfl) (by kernel_rfl) ?_
          repeat (go_big_quiet_step ((go_at_call 19; exact BW.call (rlower_any (w.extract 0 3) _ hz))))
          refine wpQuiet_nil ?_
          rintro Wx ⟨x, rfl⟩
          have HBX := Lib.hid (Below.trans hb (x.bel.mono hb.size))
          clear hcj
          go_wp2_with fail
          go_ret
          exact ⟨by rw [HV.out]; rfl, HB0.out.trans (HBX.out.mono HB0.out.size)⟩
        · have hq : ((lowS (w.extract 0 3)).toList == [97, 117, 103]) = false := by rw [mon_lit, ← HX.out]; exact HB.out 7 (by decide) (by have := hj.out; omega)
          have HJ := Lib.hid (show 8 ≤ m by have := hj.out; omega)
          clear hm hj
          go_wp2_with fail
          refine wp_region_class (by kernel_rfl) (by kernel_rfl) ?_
          repeat (go_big_quiet_step ((go_at_call 19; exact BW.call (rlower_any (w.extract 0 3) _ hz))))
          refine wpQuiet_nil ?_
          rintro Wx ⟨x, rfl⟩
          have HBX := Lib.hid (Below.trans hb (x.bel.mono hb.size))
          clear hcj
          go_wp2_with fail
          go_roundw
          case rel => exact ⟨HBX.out, .inr (.inr (.inr (.inr (.inr (.inr (.inr (.inr (.inl ⟨rfl, Lib.hid HJ.out⟩))))))))⟩
          case measure => simp [intOf]
      · have hcj := fun x : BW wr => (x.cell W.heap.size 8 hwr).trans c8
        clear c0 c1 c2 c3 c4 c5 c6 c7 c8 c9 c10 c11
        by_cases hm : m = 8
        · have hq : ((lowS (w.extract 0 3)).toList == [115, 101, 112]) = true := by rw [mon_lit, ← HX.out]; exact HI.out 8 (by decide) hm
          have HV := Lib.hid (HA.out 8 (by decide) hm)
          clear hm
          go_wp2_with fail
          refine wp_region_class (by kernel_rfl) (by kernel_rfl) ?_
          repeat (go_big_quiet_step ((go_at_call 19; exact BW.call (rlower_any (w.extract 0 3) _ hz))))
          refine wpQuiet_nil ?_
          rintro Wx ⟨x, rfl⟩
          have HBX := Lib.hid (Below.trans hb (x.bel.mono hb.size))
          clear hcj
          go_wp2_with fail
          go_ret
          exact ⟨by rw [HV.out]; rfl, HB0.out.trans (HBX.out.mono HB0.out.size)⟩
        · have hq : ((lowS (w.extract 0 3)).toList == [115, 101, 112]) = false := by rw [mon_lit, ← HX.out]; exact HB.out 8 (by decide) (by have := hj.out; omega)
          have HJ := Lib.hid (show 9 ≤ m by have := hj.out; omega)
          clear hm hj
          go_wp2_with fail
          refine wp_region_class (by kernel_rfl) (by kernel_rfl) ?_
          repeat (go_big_quiet_step ((go_at_call 19; exact BW.call (rlower_any (w.extract 0 3) _ hz))))
          refine wpQuiet_nil ?_
          rintro Wx ⟨x, rfl⟩
          have HBX := Lib.hid (Below.trans hb (x.bel.mono hb.size))
          clear hcj
          go_wp2_with fail
          go_roundw
          case rel => exact ⟨HBX.out, .inr (.inr (.inr (.inr (.inr (.inr (.inr (.inr (.inr (.inl ⟨rfl, Lib.hid HJ.out⟩)))))))))⟩
          case measure => simp [intOf]
      · have hcj := fun x : BW wr => (x.cell W.heap.size 9 hwr).trans c9
        clear c0 c1 c2 c3 c4 c5 c6 c7 c8 c9 c10 c11
        by_cases hm : m = 9
        · have hq : ((lowS (w.extract 0 3)).toList == [111, 99, 116]) = true := by rw [mon_lit, ← HX.out]; exact HI.out 9 (by decide) hm
          have HV := Lib.hid (HA.out 9 (by decide) hm)
          clear hm
          go_wp2_with fail
          refine wp_region_class (by kernel_rfl) (by kernel_rfl) ?_
          repeat (go_big_quiet_step ((go_at_call 19; exact BW.call (rlower_any (w.extract 0 3) _ hz))))
          refine wpQuiet_nil ?_
          rintro Wx ⟨x, rfl⟩
          have HBX := Lib.hid (Below.trans hb (x.bel.mono hb.size))
          clear hcj
          go_wp2_with fail
          go_ret
          exact ⟨by rw [HV.out]; rfl, HB0.out.trans (HBX.out.mono HB0.out.size)⟩
        · have hq : ((lowS (w.extract 0 3)).toList == [111, 99, 116]) = false := by rw [mon_lit, ← HX.out]; exact HB.out 9 (by decide) (by have := hj.out; omega)
          have HJ := Lib.hid (show 10 ≤ m by have := hj.out; omega)
          clear hm hj
          go_wp2_with fail
          refine wp_region_class (by kernel_rfl) (by kernel_rfl) ?_
          repeat (go_big_quiet_step ((go_at_call 19; exact BW.call (rlower_any (w.extract 0 3) _ hz))))
          refine wpQuiet_nil ?_
          rintro Wx ⟨x, rfl⟩
          have HBX := Lib.hid (Below.trans hb (x.bel.mono hb.size))
          clear hcj
          go_wp2_with fail
          go_roundw
          case rel => exact ⟨HBX.out, .inr (.inr (.inr (.inr (.inr (.inr (.inr (.inr (.inr (.inr (.inl ⟨rfl, Lib.hid HJ.out⟩))))))))))⟩
          case measure => simp [intOf]
      · have hcj := fun x : BW wr => (x.cell W.heap.size 10 hwr).trans c10
        clear c0 c1 c2 c3 c4 c5 c6 c7 c8 c9 c10 c11
        by_cases hm : m = 10
        · have hq : ((lowS (w.extract 0 3)).toList == [110, 111, 118]) = true := by rw [mon_lit, ← HX.out]; exact HI.out 10 (by decide) hm
          have HV := Lib.hid (HA.out 10 (by decide) hm)
          clear hm
          go_wp2_with fail
          refine wp_region_class (by kernel_rfl) (by kernel_rfl) ?_
          repeat (go_big_quiet_step ((go_at_call 19; exact BW.call (rlower_any (w.extract 0 3) _ hz))))
          refine wpQuiet_nil ?_
          rintro Wx ⟨x, rfl⟩
          have HBX := Lib.hid (Below.trans hb (x.bel.mono hb.size))
          clear hcj
          go_wp2_with fail
          go_ret
          exact ⟨by rw [HV.out]; rfl, HB0.out.trans (HBX.out.mono HB0.out.size)⟩
        · have hq : ((lowS (w.extract 0 3)).toList == [110, 111, 118]) = false := by rw [mon_lit, ← HX.out]; exact HB.out 10 (by decide) (by have := hj.out; omega)
          have HJ := Lib.hid (show 11 ≤ m by have := hj.out; omega)
          clear hm hj
          go_wp2_with fail
          refine wp_region_class (by kernel_rfl) (by kernel_rfl) ?_
          repeat (go_big_quiet_step ((go_at_call 19; exact BW.call (rlower_any (w.extract 0 3) _ hz))))
          refine wpQuiet_nil ?_
          rintro Wx ⟨x, rfl⟩
          have HBX := Lib.hid (Below.trans hb (x.bel.mono hb.size))
          clear hcj
          go_wp2_with fail
          go_roundw
          case rel => exact ⟨HBX.out, .inr (.inr (.inr (.inr (.inr (.inr (.inr (.inr (.inr (.inr (.inr (.inl ⟨rfl, Lib.hid HJ.out⟩)))))))))))⟩
          case measure => simp [intOf]
      · have hcj := fun x : BW wr => (x.cell W.heap.size 11 hwr).trans c11
        clear c0 c1 c2 c3 c4 c5 c6 c7 c8 c9 c10 c11
        by_cases hm : m = 11
        · have hq : ((lowS (w.extract 0 3)).toList == [100, 101, 99]) = true := by rw [mon_lit, ← HX.out]; exact HI.out 11 (by decide) hm
          have HV := Lib.hid (HA.out 11 (by decide) hm)
          clear hm
          go_wp2_with fail
          refine wp_region_class (by kernel_rfl) (by kernel_rfl) ?_
          repeat (go_big_quiet_step ((go_at_call 19; exact BW.call (rlower_any (w.extract 0 3) _ hz))))
          refine wpQuiet_nil ?_
          rintro Wx ⟨x, rfl⟩
          have HBX := Lib.hid (Below.trans hb (x.bel.mono hb.size))
          clear hcj
          go_wp2_with fail
          go_ret
          exact ⟨by rw [HV.out]; rfl, HB0.out.trans (HBX.out.mono HB0.out.size)⟩
        · have hq : ((lowS (w.extract 0 3)).toList == [100, 101, 99]) = false := by rw [mon_lit, ← HX.out]; exact HB.out 11 (by decide) (by have := hj.out; omega)
          have HJ := Lib.hid (show 12 ≤ m by have := hj.out; omega)
          clear hm hj
          go_wp2_with fail
          refine wp_region_class (by kernel_rfl) (by kernel_rfl) ?_
          repeat (go_big_quiet_step ((go_at_call 19; exact BW.call (rlower_any (w.extract 0 3) _ hz))))
          refine wpQuiet_nil ?_
          rintro Wx ⟨x, rfl⟩
          have HBX := Lib.hid (Below.trans hb (x.bel.mono hb.size))
          clear hcj
          go_wp2_with fail
          go_roundw
          case rel => exact ⟨HBX.out, .inr (.inr (.inr (.inr (.inr (.inr (.inr (.inr (.inr (.inr (.inr (.inr (⟨rfl, Lib.hid HJ.out⟩))))))))))))⟩
          case measure => simp [intOf]
      · have HV := Lib.hid (HN.out (by have := hj.out; omega))
        clear hj c0 c1 c2 c3 c4 c5 c6 c7 c8 c9 c10 c11
        go_wp2_with fail
        go_ret
        exact ⟨by rw [HV.out]; rfl, HB0.out.trans (hb.mono HB0.out.size)⟩
end Go.Proofs.Ytfbildneagjccaa
