/- Contracts: the reference's month of a word. -/
import Derived.Test.YtngamlikhgilhaaGreatDoorZE
import Derived.Test.YtngamlikhgilhaaGreatDoorZD
import Derived.OpenShut
namespace Go.Proofs.YtngamlikhgilhaaGreatDoor
open Go.RowKit

theorem mon_lit {a : List UInt8} {X : ByteArray} : (X.toList == a) = (a == bs X) := by rw [toL, Bool.beq_comm]
/-- The months' names in memory. -/
structure MonAt (W : World) (N : Nat) : Prop where
  c0 : W.cell? ⟨N, 0, none⟩ = some (.string ⟨#[106, 97, 110]⟩)
  c1 : W.cell? ⟨N, 1, none⟩ = some (.string ⟨#[102, 101, 98]⟩)
  c2 : W.cell? ⟨N, 2, none⟩ = some (.string ⟨#[109, 97, 114]⟩)
  c3 : W.cell? ⟨N, 3, none⟩ = some (.string ⟨#[97, 112, 114]⟩)
  c4 : W.cell? ⟨N, 4, none⟩ = some (.string ⟨#[109, 97, 121]⟩)
  c5 : W.cell? ⟨N, 5, none⟩ = some (.string ⟨#[106, 117, 110]⟩)
  c6 : W.cell? ⟨N, 6, none⟩ = some (.string ⟨#[106, 117, 108]⟩)
  c7 : W.cell? ⟨N, 7, none⟩ = some (.string ⟨#[97, 117, 103]⟩)
  c8 : W.cell? ⟨N, 8, none⟩ = some (.string ⟨#[115, 101, 112]⟩)
  c9 : W.cell? ⟨N, 9, none⟩ = some (.string ⟨#[111, 99, 116]⟩)
  c10 : W.cell? ⟨N, 10, none⟩ = some (.string ⟨#[110, 111, 118]⟩)
  c11 : W.cell? ⟨N, 11, none⟩ = some (.string ⟨#[100, 101, 99]⟩)
theorem MonAt.below {W W' : World} {N : Nat} (h : MonAt W N) (hN : N < W.heap.size) (b : Below W.heap.size W W') : MonAt W' N := by
  have hc : ∀ o, W'.cell? ⟨N, o, none⟩ = W.cell? ⟨N, o, none⟩ := fun o => b.cell (p := ⟨N, o, none⟩) hN
  exact ⟨by rw [hc]; exact h.c0, by rw [hc]; exact h.c1, by rw [hc]; exact h.c2, by rw [hc]; exact h.c3, by rw [hc]; exact h.c4, by rw [hc]; exact h.c5, by rw [hc]; exact h.c6, by rw [hc]; exact h.c7, by rw [hc]; exact h.c8, by rw [hc]; exact h.c9, by rw [hc]; exact h.c10, by rw [hc]; exact h.c11⟩
theorem MonAt.new (w : World) : MonAt (w.alloc (.cells #[.string ⟨#[106, 97, 110]⟩, .string ⟨#[102, 101, 98]⟩, .string ⟨#[109, 97, 114]⟩, .string ⟨#[97, 112, 114]⟩, .string ⟨#[109, 97, 121]⟩, .string ⟨#[106, 117, 110]⟩, .string ⟨#[106, 117, 108]⟩, .string ⟨#[97, 117, 103]⟩, .string ⟨#[115, 101, 112]⟩, .string ⟨#[111, 99, 116]⟩, .string ⟨#[110, 111, 118]⟩, .string ⟨#[100, 101, 99]⟩] 9)) w.heap.size := ⟨by rw [World.cell?_alloc_new]; rfl, by rw [World.cell?_alloc_new]; rfl, by rw [World.cell?_alloc_new]; rfl, by rw [World.cell?_alloc_new]; rfl, by rw [World.cell?_alloc_new]; rfl, by rw [World.cell?_alloc_new]; rfl, by rw [World.cell?_alloc_new]; rfl, by rw [World.cell?_alloc_new]; rfl, by rw [World.cell?_alloc_new]; rfl, by rw [World.cell?_alloc_new]; rfl, by rw [World.cell?_alloc_new]; rfl, by rw [World.cell?_alloc_new]; rfl⟩
set_option maxHeartbeats 4000000 in
set_option maxRecDepth 100000 in
theorem rmonth_any (w : ByteArray) (W : World) (hs : w.size ≤ 9223372036854775807) : Calls Tryz.prog 122 #[.string w] W fun e W' => e = .returned (.int .i64 (monthN w)) ∧ Below W.heap.size W W' := by
  have hM := MonAt.new W
  have hz : (w.extract 0 3).size ≤ 9223372036854775807 := by rw [ByteArray.size_extract]; omega
  have hB0 : Below W.heap.size W (W.alloc (.cells #[.string ⟨#[106, 97, 110]⟩, .string ⟨#[102, 101, 98]⟩, .string ⟨#[109, 97, 114]⟩, .string ⟨#[97, 112, 114]⟩, .string ⟨#[109, 97, 121]⟩, .string ⟨#[106, 117, 110]⟩, .string ⟨#[106, 117, 108]⟩, .string ⟨#[97, 117, 103]⟩, .string ⟨#[115, 101, 112]⟩, .string ⟨#[111, 99, 116]⟩, .string ⟨#[110, 111, 118]⟩, .string ⟨#[100, 101, 99]⟩] 9)) := (Below.refl _ W).alloc (Nat.le_refl _) _
  have hsz : W.heap.size < (W.alloc (.cells #[.string ⟨#[106, 97, 110]⟩, .string ⟨#[102, 101, 98]⟩, .string ⟨#[109, 97, 114]⟩, .string ⟨#[97, 112, 114]⟩, .string ⟨#[109, 97, 121]⟩, .string ⟨#[106, 117, 110]⟩, .string ⟨#[106, 117, 108]⟩, .string ⟨#[97, 117, 103]⟩, .string ⟨#[115, 101, 112]⟩, .string ⟨#[111, 99, 116]⟩, .string ⟨#[110, 111, 118]⟩, .string ⟨#[100, 101, 99]⟩] 9)).heap.size := by simp
  obtain ⟨W1, hW1⟩ : ∃ W1, W1 = W.alloc (.cells #[.string ⟨#[106, 97, 110]⟩, .string ⟨#[102, 101, 98]⟩, .string ⟨#[109, 97, 114]⟩, .string ⟨#[97, 112, 114]⟩, .string ⟨#[109, 97, 121]⟩, .string ⟨#[106, 117, 110]⟩, .string ⟨#[106, 117, 108]⟩, .string ⟨#[97, 117, 103]⟩, .string ⟨#[115, 101, 112]⟩, .string ⟨#[111, 99, 116]⟩, .string ⟨#[110, 111, 118]⟩, .string ⟨#[100, 101, 99]⟩] 9) := ⟨_, rfl⟩
  rw [← hW1] at hM hB0 hsz
  have HM := Lib.hid hM
  have HB0 := Lib.hid hB0
  have HW := Lib.hid hW1
  clear hM hB0 hW1
  by_cases h3 : w.size < 3
  · have HV := Lib.hid (monthN_small h3)
    have k3 : decide ((3 : Int) ≤ (w.size : Int)) = false := by simp; omega
    go_enter Tryz.func122, Tryz.ntmps122
    go_wp2_with fail
    rw [← HW.out]
    go_loopw [4] (fun i wr => ∃ k : Nat, k ≤ 12 ∧ i = .int .i64 k ∧ Below W1.heap.size W1 wr) (fun i _ => (12 - intOf i).toNat)
    case atStart => exact ⟨0, by omega, rfl, Below.refl _ _⟩
    case round =>
      obtain ⟨k, hk, rfl, hb⟩ := hrel
      by_cases hlt : k < 12
      · have hlt2 : (k : Int) < 12 := by omega
        go_wp2_with fail
        go_quiet (fail)
        go_wp2_with fail
        go_roundw
        case rel => exact ⟨k + 1, by omega, by go_num, ⟨hb.os, hb.tape, hb.output, hb.size, hb.block⟩⟩
        case measure => simp [intOf]; omega
      · have hlt2 : ¬ ((k : Int) < 12) := by omega
        go_wp2_with fail
        go_ret
        exact ⟨by rw [HV.out]; rfl, HB0.out.trans (hb.mono HB0.out.size)⟩
  · have HA := Lib.hid (fun k hk h => @monthN_at w h3 k hk h)
    have HN := Lib.hid (fun h => @monthN_none w h3 h)
    have HI := Lib.hid (monI_at w)
    have HB := Lib.hid (monI_before w)
    have hle := monI_le w
    generalize monI w = m at HA HN HI HB hle
    have HX := Lib.hid (show mon3 w = bs (lowS (w.extract 0 3)) from rfl)
    have k3 : (3 : Int) ≤ (w.size : Int) := by omega
    go_enter Tryz.func122, Tryz.ntmps122
    go_wp2_with fail
    rw [← HW.out]
    go_loopw [4] (fun i wr => Below W1.heap.size W1 wr ∧ ((i = .int .i64 0 ∧ Hid (0 ≤ m)) ∨ (i = .int .i64 1 ∧ Hid (1 ≤ m)) ∨ (i = .int .i64 2 ∧ Hid (2 ≤ m)) ∨ (i = .int .i64 3 ∧ Hid (3 ≤ m)) ∨ (i = .int .i64 4 ∧ Hid (4 ≤ m)) ∨ (i = .int .i64 5 ∧ Hid (5 ≤ m)) ∨ (i = .int .i64 6 ∧ Hid (6 ≤ m)) ∨ (i = .int .i64 7 ∧ Hid (7 ≤ m)) ∨ (i = .int .i64 8 ∧ Hid (8 ≤ m)) ∨ (i = .int .i64 9 ∧ Hid (9 ≤ m)) ∨ (i = .int .i64 10 ∧ Hid (10 ≤ m)) ∨ (i = .int .i64 11 ∧ Hid (11 ≤ m)) ∨ (i = .int .i64 12 ∧ Hid (12 ≤ m)))) (fun i _ => (12 - intOf i).toNat)
    case atStart => exact ⟨Below.refl _ _, .inl ⟨rfl, Lib.hid (Nat.zero_le _)⟩⟩
    case round =>
      obtain ⟨hb, hrel⟩ := hrel
      have hwr : W.heap.size < wr.heap.size := Nat.lt_of_lt_of_le hsz hb.size
      obtain ⟨c0, c1, c2, c3, c4, c5, c6, c7, c8, c9, c10, c11⟩ := HM.out.below hsz hb
      rcases hrel with ⟨rfl, hj⟩ | ⟨rfl, hj⟩ | ⟨rfl, hj⟩ | ⟨rfl, hj⟩ | ⟨rfl, hj⟩ | ⟨rfl, hj⟩ | ⟨rfl, hj⟩ | ⟨rfl, hj⟩ | ⟨rfl, hj⟩ | ⟨rfl, hj⟩ | ⟨rfl, hj⟩ | ⟨rfl, hj⟩ | ⟨rfl, hj⟩
      · have hcj := fun x : BW wr => (x.cell W.heap.size 0 hwr).trans c0
        clear c0 c1 c2 c3 c4 c5 c6 c7 c8 c9 c10 c11
        by_cases hm : m = 0
        · have hq : ((lowS (w.extract 0 3)).toList == [106, 97, 110]) = true := by rw [mon_lit, ← HX.out]; exact HI.out 0 (by decide) hm
          have HV := Lib.hid (HA.out 0 (by decide) hm)
          clear hm
          go_wp2_with fail
          refine wp_region_class (by kernel_rfl) (by kernel_rfl) ?_
          repeat (go_big_quiet_step ((go_at_call 26; exact BW.call (rlower_any (w.extract 0 3) _ hz))))
          refine wpQuiet_nil ?_
          rintro Wx ⟨x, rfl⟩
          have HBX := Lib.hid (Below.trans hb (x.bel.mono hb.size))
          clear hcj
          go_wp2_with fail
          go_ret
          exact ⟨by rw [HV.out]; rfl, HB0.out.trans (HBX.out.mono HB0.out.size)⟩
        · have hq : ((lowS (w.extract 0 3)).toList == [106, 97, 110]) = false := by rw [mon_lit, ← HX.out]; exact HB.out 0 (by decide) (by have := hj.out; omega)
          have HJ := Lib.hid (show 1 ≤ m by have := hj.out; omega)
          clear hm hj
          go_wp2_with fail
          refine wp_region_class (by kernel_rfl) (by kernel_rfl) ?_
          repeat (go_big_quiet_step ((go_at_call 26; exact BW.call (rlower_any (w.extract 0 3) _ hz))))
          refine wpQuiet_nil ?_
          rintro Wx ⟨x, rfl⟩
          have HBX := Lib.hid (Below.trans hb (x.bel.mono hb.size))
          clear hcj
          go_wp2_with fail
          go_roundw
          case rel => exact ⟨HBX.out, .inr (.inl ⟨rfl, Lib.hid HJ.out⟩)⟩
          case measure => simp [intOf]
      · have hcj := fun x : BW wr => (x.cell W.heap.size 1 hwr).trans c1
        clear c0 c1 c2 c3 c4 c5 c6 c7 c8 c9 c10 c11
        by_cases hm : m = 1
        · have hq : ((lowS (w.extract 0 3)).toList == [102, 101, 98]) = true := by rw [mon_lit, ← HX.out]; exact HI.out 1 (by decide) hm
          have HV := Lib.hid (HA.out 1 (by decide) hm)
          clear hm
          go_wp2_with fail
          refine wp_region_class (by kernel_rfl) (by kernel_rfl) ?_
          repeat (go_big_quiet_step ((go_at_call 26; exact BW.call (rlower_any (w.extract 0 3) _ hz))))
          refine wpQuiet_nil ?_
          rintro Wx ⟨x, rfl⟩
          have HBX := Lib.hid (Below.trans hb (x.bel.mono hb.size))
          clear hcj
          go_wp2_with fail
          go_ret
          exact ⟨by rw [HV.out]; rfl, HB0.out.trans (HBX.out.mono HB0.out.size)⟩
        · have hq : ((lowS (w.extract 0 3)).toList == [102, 101, 98]) = false := by rw [mon_lit, ← HX.out]; exact HB.out 1 (by decide) (by have := hj.out; omega)
          have HJ := Lib.hid (show 2 ≤ m by have := hj.out; omega)
          clear hm hj
          go_wp2_with fail
          refine wp_region_class (by kernel_rfl) (by kernel_rfl) ?_
          repeat (go_big_quiet_step ((go_at_call 26; exact BW.call (rlower_any (w.extract 0 3) _ hz))))
          refine wpQuiet_nil ?_
          rintro Wx ⟨x, rfl⟩
          have HBX := Lib.hid (Below.trans hb (x.bel.mono hb.size))
          clear hcj
          go_wp2_with fail
          go_roundw
          case rel => exact ⟨HBX.out, .inr (.inr (.inl ⟨rfl, Lib.hid HJ.out⟩))⟩
          case measure => simp [intOf]
      · have hcj := fun x : BW wr => (x.cell W.heap.size 2 hwr).trans c2
        clear c0 c1 c2 c3 c4 c5 c6 c7 c8 c9 c10 c11
        by_cases hm : m = 2
        · have hq : ((lowS (w.extract 0 3)).toList == [109, 97, 114]) = true := by rw [mon_lit, ← HX.out]; exact HI.out 2 (by decide) hm
          have HV := Lib.hid (HA.out 2 (by decide) hm)
          clear hm
          go_wp2_with fail
          refine wp_region_class (by kernel_rfl) (by kernel_rfl) ?_
          repeat (go_big_quiet_step ((go_at_call 26; exact BW.call (rlower_any (w.extract 0 3) _ hz))))
          refine wpQuiet_nil ?_
          rintro Wx ⟨x, rfl⟩
          have HBX := Lib.hid (Below.trans hb (x.bel.mono hb.size))
          clear hcj
          go_wp2_with fail
          go_ret
          exact ⟨by rw [HV.out]; rfl, HB0.out.trans (HBX.out.mono HB0.out.size)⟩
        · have hq : ((lowS (w.extract 0 3)).toList == [109, 97, 114]) = false := by rw [mon_lit, ← HX.out]; exact HB.out 2 (by decide) (by have := hj.out; omega)
          have HJ := Lib.hid (show 3 ≤ m by have := hj.out; omega)
          clear hm hj
          go_wp2_with fail
          refine wp_region_class (by kernel_rfl) (by kernel_rfl) ?_
          repeat (go_big_quiet_step ((go_at_call 26; exact BW.call (rlower_any (w.extract 0 3) _ hz))))
          refine wpQuiet_nil ?_
          rintro Wx ⟨x, rfl⟩
          have HBX := Lib.hid (Below.trans hb (x.bel.mono hb.size))
          clear hcj
          go_wp2_with fail
          go_roundw
          case rel => exact ⟨HBX.out, .inr (.inr (.inr (.inl ⟨rfl, Lib.hid HJ.out⟩)))⟩
          case measure => simp [intOf]
      · have hcj := fun x : BW wr => (x.cell W.heap.size 3 hwr).trans c3
        clear c0 c1 c2 c3 c4 c5 c6 c7 c8 c9 c10 c11
        by_cases hm : m = 3
        · have hq : ((lowS (w.extract 0 3)).toList == [97, 112, 114]) = true := by rw [mon_lit, ← HX.out]; exact HI.out 3 (by decide) hm
          have HV := Lib.hid (HA.out 3 (by decide) hm)
          clear hm
          go_wp2_with fail
          refine wp_region_class (by kernel_rfl) (by kernel_rfl) ?_
          repeat (go_big_quiet_step ((go_at_call 26; exact BW.call (rlower_any (w.extract 0 3) _ hz))))
          refine wpQuiet_nil ?_
          rintro Wx ⟨x, rfl⟩
          have HBX := Lib.hid (Below.trans hb (x.bel.mono hb.size))
          clear hcj
          go_wp2_with fail
          go_ret
          exact ⟨by rw [HV.out]; rfl, HB0.out.trans (HBX.out.mono HB0.out.size)⟩
        · have hq : ((lowS (w.extract 0 3)).toList == [97, 112, 114]) = false := by rw [mon_lit, ← HX.out]; exact HB.out 3 (by decide) (by have := hj.out; omega)
          have HJ := Lib.hid (show 4 ≤ m by have := hj.out; omega)
          clear hm hj
          go_wp2_with fail
          refine wp_region_class (by kernel_rfl) (by kernel_rfl) ?_
          repeat (go_big_quiet_step ((go_at_call 26; exact BW.call (rlower_any (w.extract 0 3) _ hz))))
          refine wpQuiet_nil ?_
          rintro Wx ⟨x, rfl⟩
          have HBX := Lib.hid (Below.trans hb (x.bel.mono hb.size))
          clear hcj
          go_wp2_with fail
          go_roundw
          case rel => exact ⟨HBX.out, .inr (.inr (.inr (.inr (.inl ⟨rfl, Lib.hid HJ.out⟩))))⟩
          case measure => simp [intOf]
      · have hcj := fun x : BW wr => (x.cell W.heap.size 4 hwr).trans c4
        clear c0 c1 c2 c3 c4 c5 c6 c7 c8 c9 c10 c11
        by_cases hm : m = 4
        · have hq : ((lowS (w.extract 0 3)).toList == [109, 97, 121]) = true := by rw [mon_lit, ← HX.out]; exact HI.out 4 (by decide) hm
          have HV := Lib.hid (HA.out 4 (by decide) hm)
          clear hm
          go_wp2_with fail
          refine wp_region_class (by kernel_rfl) (by kernel_rfl) ?_
          repeat (go_big_quiet_step ((go_at_call 26; exact BW.call (rlower_any (w.extract 0 3) _ hz))))
          refine wpQuiet_nil ?_
          rintro Wx ⟨x, rfl⟩
          have HBX := Lib.hid (Below.trans hb (x.bel.mono hb.size))
          clear hcj
          go_wp2_with fail
          go_ret
          exact ⟨by rw [HV.out]; rfl, HB0.out.trans (HBX.out.mono HB0.out.size)⟩
        · have hq : ((lowS (w.extract 0 3)).toList == [109, 97, 121]) = false := by rw [mon_lit, ← HX.out]; exact HB.out 4 (by decide) (by have := hj.out; omega)
          have HJ := Lib.hid (show 5 ≤ m by have := hj.out; omega)
          clear hm hj
          go_wp2_with fail
          refine wp_region_class (by kernel_rfl) (by kernel_rfl) ?_
          repeat (go_big_quiet_step ((go_at_call 26; exact BW.call (rlower_any (w.extract 0 3) _ hz))))
          refine wpQuiet_nil ?_
          rintro Wx ⟨x, rfl⟩
          have HBX := Lib.hid (Below.trans hb (x.bel.mono hb.size))
          clear hcj
          go_wp2_with fail
          go_roundw
          case rel => exact ⟨HBX.out, .inr (.inr (.inr (.inr (.inr (.inl ⟨rfl, Lib.hid HJ.out⟩)))))⟩
          case measure => simp [intOf]
      · have hcj := fun x : BW wr => (x.cell W.heap.size 5 hwr).trans c5
        clear c0 c1 c2 c3 c4 c5 c6 c7 c8 c9 c10 c11
        by_cases hm : m = 5
        · have hq : ((lowS (w.extract 0 3)).toList == [106, 117, 110]) = true := by rw [mon_lit, ← HX.out]; exact HI.out 5 (by decide) hm
          have HV := Lib.hid (HA.out 5 (by decide) hm)
          clear hm
          go_wp2_with fail
          refine wp_region_class (by kernel_rfl) (by kernel_rfl) ?_
          repeat (go_big_quiet_step ((go_at_call 26; exact BW.call (rlower_any (w.extract 0 3) _ hz))))
          refine wpQuiet_nil ?_
          rintro Wx ⟨x, rfl⟩
          have HBX := Lib.hid (Below.trans hb (x.bel.mono hb.size))
          clear hcj
          go_wp2_with fail
          go_ret
          exact ⟨by rw [HV.out]; rfl, HB0.out.trans (HBX.out.mono HB0.out.size)⟩
        · have hq : ((lowS (w.extract 0 3)).toList == [106, 117, 110]) = false := by rw [mon_lit, ← HX.out]; exact HB.out 5 (by decide) (by have := hj.out; omega)
          have HJ := Lib.hid (show 6 ≤ m by have := hj.out; omega)
          clear hm hj
          go_wp2_with fail
          refine wp_region_class (by kernel_rfl) (by kernel_rfl) ?_
          repeat (go_big_quiet_step ((go_at_call 26; exact BW.call (rlower_any (w.extract 0 3) _ hz))))
          refine wpQuiet_nil ?_
          rintro Wx ⟨x, rfl⟩
          have HBX := Lib.hid (Below.trans hb (x.bel.mono hb.size))
          clear hcj
          go_wp2_with fail
          go_roundw
          case rel => exact ⟨HBX.out, .inr (.inr (.inr (.inr (.inr (.inr (.inl ⟨rfl, Lib.hid HJ.out⟩))))))⟩
          case measure => simp [intOf]
      · have hcj := fun x : BW wr => (x.cell W.heap.size 6 hwr).trans c6
        clear c0 c1 c2 c3 c4 c5 c6 c7 c8 c9 c10 c11
        by_cases hm : m = 6
        · have hq : ((lowS (w.extract 0 3)).toList == [106, 117, 108]) = true := by rw [mon_lit, ← HX.out]; exact HI.out 6 (by decide) hm
          have HV := Lib.hid (HA.out 6 (by decide) hm)
          clear hm
          go_wp2_with fail
          refine wp_region_class (by kernel_rfl) (by kernel_rfl) ?_
          repeat (go_big_quiet_step ((go_at_call 26; exact BW.call (rlower_any (w.extract 0 3) _ hz))))
          refine wpQuiet_nil ?_
          rintro Wx ⟨x, rfl⟩
          have HBX := Lib.hid (Below.trans hb (x.bel.mono hb.size))
          clear hcj
          go_wp2_with fail
          go_ret
          exact ⟨by rw [HV.out]; rfl, HB0.out.trans (HBX.out.mono HB0.out.size)⟩
        · have hq : ((lowS (w.extract 0 3)).toList == [106, 117, 108]) = false := by rw [mon_lit, ← HX.out]; exact HB.out 6 (by decide) (by have := hj.out; omega)
          have HJ := Lib.hid (show 7 ≤ m by have := hj.out; omega)
          clear hm hj
          go_wp2_with fail
          refine wp_region_class (by kernel_rfl) (by kernel_rfl) ?_
          repeat (go_big_quiet_step ((go_at_call 26; exact BW.call (rlower_any (w.extract 0 3) _ hz))))
          refine wpQuiet_nil ?_
          rintro Wx ⟨x, rfl⟩
          have HBX := Lib.hid (Below.trans hb (x.bel.mono hb.size))
          clear hcj
          go_wp2_with fail
          go_roundw
          case rel => exact ⟨HBX.out, .inr (.inr (.inr (.inr (.inr (.inr (.inr (.inl ⟨rfl, Lib.hid HJ.out⟩)))))))⟩
          case measure => simp [intOf]
      · have hcj := fun x : BW wr => (x.cell W.heap.size 7 hwr).trans c7
        clear c0 c1 c2 c3 c4 c5 c6 c7 c8 c9 c10 c11
        by_cases hm : m = 7
        · have hq : ((lowS (w.extract 0 3)).toList == [97, 117, 103]) = true := by rw [mon_lit, ← HX.out]; exact HI.out 7 (by decide) hm
          have HV := Lib.hid (HA.out 7 (by decide) hm)
          clear hm
          go_wp2_with fail
          refine wp_region_class (by kernel_rfl) (by kernel_rfl) ?_
          repeat (go_big_quiet_step ((go_at_call 26; exact BW.call (rlower_any (w.extract 0 3) _ hz))))
          refine wpQuiet_nil ?_
          rintro Wx ⟨x, rfl⟩
          have HBX := Lib.hid (Below.trans hb (x.bel.mono hb.size))
          clear hcj
          go_wp2_with fail
          go_ret
          exact ⟨by rw [HV.out]; rfl, HB0.out.trans (HBX.out.mono HB0.out.size)⟩
        · have hq : ((lowS (w.extract 0 3)).toList == [97, 117, 103]) = false := by rw [mon_lit, ← HX.out]; exact HB.out 7 (by decide) (by have := hj.out; omega)
          have HJ := Lib.hid (show 8 ≤ m by have := hj.out; omega)
          clear hm hj
          go_wp2_with fail
          refine wp_region_class (by kernel_rfl) (by kernel_rfl) ?_
          repeat (go_big_quiet_step ((go_at_call 26; exact BW.call (rlower_any (w.extract 0 3) _ hz))))
          refine wpQuiet_nil ?_
          rintro Wx ⟨x, rfl⟩
          have HBX := Lib.hid (Below.trans hb (x.bel.mono hb.size))
          clear hcj
          go_wp2_with fail
          go_roundw
          case rel => exact ⟨HBX.out, .inr (.inr (.inr (.inr (.inr (.inr (.inr (.inr (.inl ⟨rfl, Lib.hid HJ.out⟩))))))))⟩
          case measure => simp [intOf]
      · have hcj := fun x : BW wr => (x.cell W.heap.size 8 hwr).trans c8
        clear c0 c1 c2 c3 c4 c5 c6 c7 c8 c9 c10 c11
        by_cases hm : m = 8
        · have hq : ((lowS (w.extract 0 3)).toList == [115, 101, 112]) = true := by rw [mon_lit, ← HX.out]; exact HI.out 8 (by decide) hm
          have HV := Lib.hid (HA.out 8 (by decide) hm)
          clear hm
          go_wp2_with fail
          refine wp_region_class (by kernel_rfl) (by kernel_rfl) ?_
          repeat (go_big_quiet_step ((go_at_call 26; exact BW.call (rlower_any (w.extract 0 3) _ hz))))
          refine wpQuiet_nil ?_
          rintro Wx ⟨x, rfl⟩
          have HBX := Lib.hid (Below.trans hb (x.bel.mono hb.size))
          clear hcj
          go_wp2_with fail
          go_ret
          exact ⟨by rw [HV.out]; rfl, HB0.out.trans (HBX.out.mono HB0.out.size)⟩
        · have hq : ((lowS (w.extract 0 3)).toList == [115, 101, 112]) = false := by rw [mon_lit, ← HX.out]; exact HB.out 8 (by decide) (by have := hj.out; omega)
          have HJ := Lib.hid (show 9 ≤ m by have := hj.out; omega)
          clear hm hj
          go_wp2_with fail
          refine wp_region_class (by kernel_rfl) (by kernel_rfl) ?_
          repeat (go_big_quiet_step ((go_at_call 26; exact BW.call (rlower_any (w.extract 0 3) _ hz))))
          refine wpQuiet_nil ?_
          rintro Wx ⟨x, rfl⟩
          have HBX := Lib.hid (Below.trans hb (x.bel.mono hb.size))
          clear hcj
          go_wp2_with fail
          go_roundw
          case rel => exact ⟨HBX.out, .inr (.inr (.inr (.inr (.inr (.inr (.inr (.inr (.inr (.inl ⟨rfl, Lib.hid HJ.out⟩)))))))))⟩
          case measure => simp [intOf]
      · have hcj := fun x : BW wr => (x.cell W.heap.size 9 hwr).trans c9
        clear c0 c1 c2 c3 c4 c5 c6 c7 c8 c9 c10 c11
        by_cases hm : m = 9
        · have hq : ((lowS (w.extract 0 3)).toList == [111, 99, 116]) = true := by rw [mon_lit, ← HX.out]; exact HI.out 9 (by decide) hm
          have HV := Lib.hid (HA.out 9 (by decide) hm)
          clear hm
          go_wp2_with fail
          refine wp_region_class (by kernel_rfl) (by kernel_rfl) ?_
          repeat (go_big_quiet_step ((go_at_call 26; exact BW.call (rlower_any (w.extract 0 3) _ hz))))
          refine wpQuiet_nil ?_
          rintro Wx ⟨x, rfl⟩
          have HBX := Lib.hid (Below.trans hb (x.bel.mono hb.size))
          clear hcj
          go_wp2_with fail
          go_ret
          exact ⟨by rw [HV.out]; rfl, HB0.out.trans (HBX.out.mono HB0.out.size)⟩
        · have hq : ((lowS (w.extract 0 3)).toList == [111, 99, 116]) = false := by rw [mon_lit, ← HX.out]; exact HB.out 9 (by decide) (by have := hj.out; omega)
          have HJ := Lib.hid (show 10 ≤ m by have := hj.out; omega)
          clear hm hj
          go_wp2_with fail
          refine wp_region_class (by kernel_rfl) (by kernel_rfl) ?_
          repeat (go_big_quiet_step ((go_at_call 26; exact BW.call (rlower_any (w.extract 0 3) _ hz))))
          refine wpQuiet_nil ?_
          rintro Wx ⟨x, rfl⟩
          have HBX := Lib.hid (Below.trans hb (x.bel.mono hb.size))
          clear hcj
          go_wp2_with fail
          go_roundw
          case rel => exact ⟨HBX.out, .inr (.inr (.inr (.inr (.inr (.inr (.inr (.inr (.inr (.inr (.inl ⟨rfl, Lib.hid HJ.out⟩))))))))))⟩
          case measure => simp [intOf]
      · have hcj := fun x : BW wr => (x.cell W.heap.size 10 hwr).trans c10
        clear c0 c1 c2 c3 c4 c5 c6 c7 c8 c9 c10 c11
        by_cases hm : m = 10
        · have hq : ((lowS (w.extract 0 3)).toList == [110, 111, 118]) = true := by rw [mon_lit, ← HX.out]; exact HI.out 10 (by decide) hm
          have HV := Lib.hid (HA.out 10 (by decide) hm)
          clear hm
          go_wp2_with fail
          refine wp_region_class (by kernel_rfl) (by kernel_rfl) ?_
          repeat (go_big_quiet_step ((go_at_call 26; exact BW.call (rlower_any (w.extract 0 3) _ hz))))
          refine wpQuiet_nil ?_
          rintro Wx ⟨x, rfl⟩
          have HBX := Lib.hid (Below.trans hb (x.bel.mono hb.size))
          clear hcj
          go_wp2_with fail
          go_ret
          exact ⟨by rw [HV.out]; rfl, HB0.out.trans (HBX.out.mono HB0.out.size)⟩
        · have hq : ((lowS (w.extract 0 3)).toList == [110, 111, 118]) = false := by rw [mon_lit, ← HX.out]; exact HB.out 10 (by decide) (by have := hj.out; omega)
          have HJ := Lib.hid (show 11 ≤ m by have := hj.out; omega)
          clear hm hj
          go_wp2_with fail
          refine wp_region_class (by kernel_rfl) (by kernel_rfl) ?_
          repeat (go_big_quiet_step ((go_at_call 26; exact BW.call (rlower_any (w.extract 0 3) _ hz))))
          refine wpQuiet_nil ?_
          rintro Wx ⟨x, rfl⟩
          have HBX := Lib.hid (Below.trans hb (x.bel.mono hb.size))
          clear hcj
          go_wp2_with fail
          go_roundw
          case rel => exact ⟨HBX.out, .inr (.inr (.inr (.inr (.inr (.inr (.inr (.inr (.inr (.inr (.inr (.inl ⟨rfl, Lib.hid HJ.out⟩)))))))))))⟩
          case measure => simp [intOf]
      · have hcj := fun x : BW wr => (x.cell W.heap.size 11 hwr).trans c11
        clear c0 c1 c2 c3 c4 c5 c6 c7 c8 c9 c10 c11
        by_cases hm : m = 11
        · have hq : ((lowS (w.extract 0 3)).toList == [100, 101, 99]) = true := by rw [mon_lit, ← HX.out]; exact HI.out 11 (by decide) hm
          have HV := Lib.hid (HA.out 11 (by decide) hm)
          clear hm
          go_wp2_with fail
          refine wp_region_class (by kernel_rfl) (by kernel_rfl) ?_
          repeat (go_big_quiet_step ((go_at_call 26; exact BW.call (rlower_any (w.extract 0 3) _ hz))))
          refine wpQuiet_nil ?_
          rintro Wx ⟨x, rfl⟩
          have HBX := Lib.hid (Below.trans hb (x.bel.mono hb.size))
          clear hcj
          go_wp2_with fail
          go_ret
          exact ⟨by rw [HV.out]; rfl, HB0.out.trans (HBX.out.mono HB0.out.size)⟩
        · have hq : ((lowS (w.extract 0 3)).toList == [100, 101, 99]) = false := by rw [mon_lit, ← HX.out]; exact HB.out 11 (by decide) (by have := hj.out; omega)
          have HJ := Lib.hid (show 12 ≤ m by have := hj.out; omega)
          clear hm hj
          go_wp2_with fail
          refine wp_region_class (by kernel_rfl) (by kernel_rfl) ?_
          repeat (go_big_quiet_step ((go_at_call 26; exact BW.call (rlower_any (w.extract 0 3) _ hz))))
          refine wpQuiet_nil ?_
          rintro Wx ⟨x, rfl⟩
          have HBX := Lib.hid (Below.trans hb (x.bel.mono hb.size))
          clear hcj
          go_wp2_with fail
          go_roundw
          case rel => exact ⟨HBX.out, .inr (.inr (.inr (.inr (.inr (.inr (.inr (.inr (.inr (.inr (.inr (.inr (⟨rfl, Lib.hid HJ.out⟩))))))))))))⟩
          case measure => simp [intOf]
      · have HV := Lib.hid (HN.out (by have := hj.out; omega))
        clear hj c0 c1 c2 c3 c4 c5 c6 c7 c8 c9 c10 c11
        go_wp2_with fail
        go_ret
        exact ⟨by rw [HV.out]; rfl, HB0.out.trans (hb.mono HB0.out.size)⟩
end Go.Proofs.YtngamlikhgilhaaGreatDoor
/- Contracts: times written for archives. -/
namespace Go.Proofs.YtngamlikhgilhaaGreatDoor
open Go.RowKit

theorem Bsnoc {w w1 w2 : World} (h : Below w.heap.size w w1) (h2 : Below w1.heap.size w1 w2) : Below w.heap.size w w2 := h.trans (h2.mono h.size)
theorem Bdrawn {w w1 : World} (h : Below w.heap.size w w1) (n : Nat) : Below w.heap.size w (w1.drewN n) := ⟨h.os, h.tape, h.output, h.size, h.block⟩
theorem bcellD {W w1 : World} (hb : Below W.heap.size W w1) : (∀ b o, b < W.heap.size → w1.cell? ⟨b, o, none⟩ = W.cell? ⟨b, o, none⟩) ∧ (∀ b o, b < W.heap.size → w1.frozen? ⟨b, o, none⟩ = W.frozen? ⟨b, o, none⟩) :=
  ⟨fun b o h => hb.cell (p := ⟨b, o, none⟩) h, fun b o h => hb.frozen (p := ⟨b, o, none⟩) h⟩
/-- A clock in plain numbers, and its seconds. -/
structure CkN (t : Int) (y m d h n s : Nat) : Prop where
  v : vclk y m d h n s
  t : secs y m d h n s = t
  y1 : y < 10000
  m0 : 1 ≤ m
  m1 : m ≤ 12
  d1 : d < 100
  h1 : h < 100
  n1 : n < 100
  s1 : s < 100
theorem mlen_le (b : Bool) (m : Int) : mlen b m ≤ 31 := (mlen_bd b m).2
theorem ckN_of {t y m d h n s : Int} (hv : vclk y m d h n s) (hs : secs y m d h n s = t) : ∃ y' m' d' h' n' s' : Nat, y = y' ∧ m = m' ∧ d = d' ∧ h = h' ∧ n = n' ∧ s = s' ∧ CkN t y' m' d' h' n' s' := by
  have h0 := hv
  obtain ⟨⟨a1, a2, a3, a4, a5, a6⟩, b1, b2, b3, b4, b5, b6⟩ := h0
  have := mlen_le (leapB y) m
  obtain ⟨y, rfl⟩ := Int.eq_ofNat_of_zero_le (show 0 ≤ y by omega)
  obtain ⟨m, rfl⟩ := Int.eq_ofNat_of_zero_le (show 0 ≤ m by omega)
  obtain ⟨d, rfl⟩ := Int.eq_ofNat_of_zero_le (show 0 ≤ d by omega)
  obtain ⟨h, rfl⟩ := Int.eq_ofNat_of_zero_le b1
  obtain ⟨n, rfl⟩ := Int.eq_ofNat_of_zero_le b3
  obtain ⟨s, rfl⟩ := Int.eq_ofNat_of_zero_le b5
  exact ⟨y, m, d, h, n, s, rfl, rfl, rfl, rfl, rfl, rfl, hv, hs, by omega, by omega, by omega, by omega, by omega, by omega, by omega⟩
theorem CkN.uniq {t : Int} {y m d h n s y' m' d' h' n' s' : Nat} (a : CkN t y m d h n s) (b : CkN t y' m' d' h' n' s') : y = y' ∧ m = m' ∧ d = d' ∧ h = h' ∧ n = n' ∧ s = s' := by
  obtain ⟨e1, e2, e3, e4, e5, e6⟩ := secs_inj a.v b.v (a.t.trans b.t.symm)
  exact ⟨by omega, by omega, by omega, by omega, by omega, by omega⟩
/-- Clocks of a time. -/
def ClockP (t : Int) (w : World) (e : Ending) (w' : World) : Prop := ∃ y m d h n s : Nat, CkN t y m d h n s ∧ e = .returned (.tuple #[.agg #[.int .i64 y, .int .i64 m, .int .i64 d, .int .i64 h, .int .i64 n, .int .i64 s], .bool true]) ∧ Below w.heap.size w w'
theorem clockP_of {t : Int} {w w' : World} {e : Ending} (h : OfP t w e w') : ClockP t w e w' := by
  obtain ⟨y, m, d, hh, n, s, he, hv, hs, hb⟩ := h
  obtain ⟨y', m', d', h', n', s', rfl, rfl, rfl, rfl, rfl, rfl, hc⟩ := ckN_of hv hs
  exact ⟨y', m', d', h', n', s', hc, he, hb⟩
set_option maxRecDepth 100000 in
theorem clock_no (t : Int) (w : World) (h : t < 0 ∨ 253402300799 < t) : Calls Tryz.prog 67 #[.int .i64 t] w fun e w' => e = .returned (.tuple #[.agg #[.int .i64 0, .int .i64 0, .int .i64 0, .int .i64 0, .int .i64 0, .int .i64 0], .bool false]) ∧ Below w.heap.size w w' := by
  have h' : t < 0 ∨ (¬ t < 0 ∧ 253402300799 < t) := by omega
  clear h
  rcases h' with h | ⟨h, h'⟩
  all_goals
    go_enter Tryz.func67, Tryz.ntmps67
    go_wp2_with fail
    refine bodyPost_ret (v := .tuple #[.agg #[.int .i64 0, .int .i64 0, .int .i64 0, .int .i64 0, .int .i64 0, .int .i64 0], .bool false]) (by simp [results, Tryz.results67, go_sem]) rfl ⟨rfl, ?_⟩
    exact (Below.refl _ _).alloc (Nat.le_refl _) _
set_option maxHeartbeats 1000000 in
set_option maxRecDepth 100000 in
theorem clock_yes (t : Int) (w : World) (h1 : 0 ≤ t) (h2 : t ≤ 253402300799) : Calls Tryz.prog 67 #[.int .i64 t] w (ClockP t w) := by
  have k1 : ¬ t < 0 := by omega
  have k2 : ¬ 253402300799 < t := by omega
  go_enter Tryz.func67, Tryz.ntmps67
  go_wp2_with fail
  refine (of_yes t _ (by omega) h2).mono ?_
  intro e w1 ho
  obtain ⟨y, m, d, h, n, s, hc, rfl, hb⟩ := clockP_of ho
  have HC := Lib.hid hc
  have hB := Bsnoc ((Below.refl _ w).alloc (Nat.le_refl _) _) hb
  obtain ⟨hc1, hf1⟩ := bcellD hb
  have hz1 : w.heap.size < w1.heap.size := by have := hb.size; simp at this; omega
  clear ho hc hb
  go_wp2_with fail
  refine bodyPost_ret (v := .tuple #[.agg #[.int .i64 y, .int .i64 m, .int .i64 d, .int .i64 h, .int .i64 n, .int .i64 s], .bool true]) ?res rfl ⟨y, m, d, h, n, s, HC.out, rfl, ?bel⟩
  case res => simp [results, Tryz.results67, go_sem, *]; try rfl
  case bel => repeat (first | assumption | exact Nat.le_refl _ | refine Below.setCell ?_ ?_ _)
def handS (h n s : Nat) : ByteArray := fixS 2 h ++ (⟨#[58]⟩ : ByteArray) ++ fixS 2 n ++ (⟨#[58]⟩ : ByteArray) ++ fixS 2 s
theorem handS_size (h n s : Nat) : (handS h n s).size = 8 := by
  unfold handS
  simp only [ByteArray.size_append, fixS_size]
  rfl
set_option maxHeartbeats 1000000 in
set_option maxRecDepth 100000 in
theorem hands_any (y m d h n s : Nat) (w : World) (h1 : h < 100) (n1 : n < 100) (s1 : s < 100) : Calls Tryz.prog 71 #[.agg #[.int .i64 y, .int .i64 m, .int .i64 d, .int .i64 h, .int .i64 n, .int .i64 s]] w fun e w' => e = .returned (.string (handS h n s)) ∧ Below w.heap.size w w' := by
  have zh := fixS_size 2 h
  have zn := fixS_size 2 n
  have zs := fixS_size 2 s
  have HV := Lib.hid (show handS h n s = fixS 2 h ++ (⟨#[58]⟩ : ByteArray) ++ fixS 2 n ++ (⟨#[58]⟩ : ByteArray) ++ fixS 2 s from rfl)
  have hB := (Below.refl _ w).alloc (Nat.le_refl _) (.cells #[.int .i64 y, .int .i64 m, .int .i64 d, .int .i64 h, .int .i64 n, .int .i64 s] 74)
  have q3 : ∀ x : BW (w.alloc (.cells #[.int .i64 y, .int .i64 m, .int .i64 d, .int .i64 h, .int .i64 n, .int .i64 s] 74)), x.W.cell? ⟨w.heap.size, 3, none⟩ = some (.int .i64 h) := fun x => (x.cell _ _ (by simp)).trans (by rw [World.cell?_alloc_new]; rfl)
  have q4 : ∀ x : BW (w.alloc (.cells #[.int .i64 y, .int .i64 m, .int .i64 d, .int .i64 h, .int .i64 n, .int .i64 s] 74)), x.W.cell? ⟨w.heap.size, 4, none⟩ = some (.int .i64 n) := fun x => (x.cell _ _ (by simp)).trans (by rw [World.cell?_alloc_new]; rfl)
  have q5 : ∀ x : BW (w.alloc (.cells #[.int .i64 y, .int .i64 m, .int .i64 d, .int .i64 h, .int .i64 n, .int .i64 s] 74)), x.W.cell? ⟨w.heap.size, 5, none⟩ = some (.int .i64 s) := fun x => (x.cell _ _ (by simp)).trans (by rw [World.cell?_alloc_new]; rfl)
  go_enter Tryz.func71, Tryz.ntmps71
  go_wp2_with fail
  refine wp_region_class (by kernel_rfl) (by kernel_rfl) ?_
  repeat (go_big_quiet_step (first
    | (go_at_call 70; first | with_reducible exact BW.call (fixed_2 h h1 _) | with_reducible exact BW.call (fixed_2 n n1 _) | with_reducible exact BW.call (fixed_2 s s1 _))))
  refine wpQuiet_nil ?_
  rintro Wx ⟨x, rfl⟩
  have hx := x.bel
  go_wp2_with fail
  go_ret
  exact ⟨by rw [HV.out]; rfl, Below.trans hB (hx.mono hB.size)⟩
end Go.Proofs.YtngamlikhgilhaaGreatDoor
/- Contracts: Iso and Uniso. -/
namespace Go.Proofs.YtngamlikhgilhaaGreatDoor
open Go.RowKit

def isoS (y m d h n s : Nat) : ByteArray := fixS 4 y ++ (⟨#[45]⟩ : ByteArray) ++ fixS 2 m ++ (⟨#[45]⟩ : ByteArray) ++ fixS 2 d ++ (⟨#[84]⟩ : ByteArray) ++ handS h n s ++ (⟨#[90]⟩ : ByteArray)
theorem isoS_size (y m d h n s : Nat) : (isoS y m d h n s).size = 20 := by
  unfold isoS
  simp only [ByteArray.size_append, fixS_size, handS_size]
  rfl
def IsoP (t : Int) (w : World) (e : Ending) (w' : World) : Prop := ∃ y m d h n s : Nat, CkN t y m d h n s ∧ e = .returned (.tuple #[.string (isoS y m d h n s), .bool true]) ∧ Below w.heap.size w w'
/-- A text that tells a time, as archives have it. -/
def IsIso (x : ByteArray) (t : Int) : Prop := 0 ≤ t ∧ t ≤ 253402300799 ∧ ∃ y m d h n s : Nat, CkN t y m d h n s ∧ x = isoS y m d h n s
theorem isIso_uniq {x : ByteArray} {t t' : Int} (a : IsIso x t) (b : IsIso x t') : t = t' := by
  obtain ⟨-, -, y, m, d, h, n, s, hc, hx⟩ := a
  obtain ⟨-, -, y', m', d', h', n', s', hc', hx'⟩ := b
  rw [hx] at hx'
  have hl := congrArg bs hx'
  have k : ∀ w : Nat, ∀ a b : Nat, a < 10 ^ w → b < 10 ^ w → fixL w a = fixL w b → a = b := fun w a b ha hb he => by
    have := congrArg decV he
    rw [fixL_val w a ha, fixL_val w b hb] at this
    omega
  have e := fun i j => congrArg (fun l : List UInt8 => (l.take j).drop i) hl
  obtain rfl := k 4 y y' hc.y1 hc'.y1 (e 0 4)
  obtain rfl := k 2 m m' (by have := hc.m1; omega) (by have := hc'.m1; omega) (e 5 7)
  obtain rfl := k 2 d d' hc.d1 hc'.d1 (e 8 10)
  obtain rfl := k 2 h h' hc.h1 hc'.h1 (e 11 13)
  obtain rfl := k 2 n n' hc.n1 hc'.n1 (e 14 16)
  obtain rfl := k 2 s s' hc.s1 hc'.s1 (e 17 19)
  exact hc.t.symm.trans hc'.t
theorem unf_fix (w n : Nat) (x : ByteArray) (h0 : 1 ≤ w) (h1 : w ≤ 18) (hn : n < 10 ^ w) (hx : bs x = fixL w n) : unfO x = some (n : Int) := by
  have hz : x.size = w := by rw [size_bs, hx, fixL_len]
  rw [unf_yes (by omega) (by omega) (by rw [hx]; exact fixL_dig w n), hx, fixL_val w n hn]
/-- The number at a place of a text; 0: there is none. -/
def numAt (x : ByteArray) (a b : Nat) : Int := (unfO (x.extract a b)).getD 0
theorem numAt_bd (x : ByteArray) (a b : Nat) : 0 ≤ numAt x a b ∧ numAt x a b < 1000000000000000000 := unfO_bd _
theorem iso_nums {x : ByteArray} {y m d h n s : Nat} (hy : y < 10000) (hm : m < 100) (hd : d < 100) (hh : h < 100) (hn : n < 100) (hs : s < 100) (hx : x = isoS y m d h n s) :
    numAt x 0 4 = y ∧ numAt x 5 7 = m ∧ numAt x 8 10 = d ∧ numAt x 11 13 = h ∧ numAt x 14 16 = n ∧ numAt x 17 19 = s := by
  subst hx
  unfold numAt
  refine ⟨?_, ?_, ?_, ?_, ?_, ?_⟩
  · rw [unf_fix 4 y _ (by decide) (by decide) hy (by rw [bs_extract]; rfl)]; rfl
  · rw [unf_fix 2 m _ (by decide) (by decide) hm (by rw [bs_extract]; rfl)]; rfl
  · rw [unf_fix 2 d _ (by decide) (by decide) hd (by rw [bs_extract]; rfl)]; rfl
  · rw [unf_fix 2 h _ (by decide) (by decide) hh (by rw [bs_extract]; rfl)]; rfl
  · rw [unf_fix 2 n _ (by decide) (by decide) hn (by rw [bs_extract]; rfl)]; rfl
  · rw [unf_fix 2 s _ (by decide) (by decide) hs (by rw [bs_extract]; rfl)]; rfl
end Go.Proofs.YtngamlikhgilhaaGreatDoor
/- Contract: Uniso. -/
namespace Go.Proofs.YtngamlikhgilhaaGreatDoor
open Go.RowKit

theorem isIso_nums {s : ByteArray} {t : Int} (h : IsIso s t) : vclk (numAt s 0 4) (numAt s 5 7) (numAt s 8 10) (numAt s 11 13) (numAt s 14 16) (numAt s 17 19) ∧ secs (numAt s 0 4) (numAt s 5 7) (numAt s 8 10) (numAt s 11 13) (numAt s 14 16) (numAt s 17 19) = t := by
  obtain ⟨-, -, y, m, d, hh, n, sc, hc, hx⟩ := h
  obtain ⟨e0, e1, e2, e3, e4, e5⟩ := iso_nums hc.y1 (by have := hc.m1; omega) hc.d1 hc.h1 hc.n1 hc.s1 hx
  rw [e0, e1, e2, e3, e4, e5]
  exact ⟨hc.v, hc.t⟩
theorem isIso_size {s : ByteArray} {t : Int} (h : IsIso s t) : s.size = 20 := by
  obtain ⟨-, -, y, m, d, hh, n, sc, hc, hx⟩ := h
  rw [hx, isoS_size]
def UnV (s : ByteArray) (v : Value) : Prop := (∃ t, IsIso s t ∧ v = .tuple #[.int .i64 t, .bool true]) ∨ ((∀ t, ¬ IsIso s t) ∧ v = .tuple #[.int .i64 0, .bool false])
theorem UnV.size {s : ByteArray} (h : s.size ≠ 20) : UnV s (.tuple #[.int .i64 0, .bool false]) := .inr ⟨fun _ ht => h (isIso_size ht), rfl⟩
theorem UnV.nov {s : ByteArray} (h : ¬ vclk (numAt s 0 4) (numAt s 5 7) (numAt s 8 10) (numAt s 11 13) (numAt s 14 16) (numAt s 17 19)) : UnV s (.tuple #[.int .i64 0, .bool false]) := .inr ⟨fun _ ht => h (isIso_nums ht).1, rfl⟩
theorem UnV.neg {s : ByteArray} (h : secs (numAt s 0 4) (numAt s 5 7) (numAt s 8 10) (numAt s 11 13) (numAt s 14 16) (numAt s 17 19) < 0) : UnV s (.tuple #[.int .i64 0, .bool false]) := .inr ⟨fun _ ht => by have h1 := (isIso_nums ht).2; have h2 := ht.1; omega, rfl⟩
theorem UnV.ne {s : ByteArray} {y m d h n sc : Nat} (hc : CkN (secs (numAt s 0 4) (numAt s 5 7) (numAt s 8 10) (numAt s 11 13) (numAt s 14 16) (numAt s 17 19)) y m d h n sc) (hne : isoS y m d h n sc ≠ s) : UnV s (.tuple #[.int .i64 0, .bool false]) := by
  refine .inr ⟨fun t ht => ?_, rfl⟩
  have h1 := (isIso_nums ht).2
  obtain ⟨-, -, y', m', d', h', n', sc', hc', hx⟩ := ht
  rw [← h1] at hc'
  obtain ⟨rfl, rfl, rfl, rfl, rfl, rfl⟩ := hc.uniq hc'
  exact hne hx.symm
theorem UnV.yes {s : ByteArray} {t : Int} {y m d h n sc : Nat} (h0 : 0 ≤ t) (h1 : t ≤ 253402300799) (hc : CkN t y m d h n sc) (he : isoS y m d h n sc = s) : UnV s (.tuple #[.int .i64 t, .bool true]) := .inl ⟨t, ⟨h0, h1, _, _, _, _, _, _, hc, he.symm⟩, rfl⟩
theorem str_ne (a b : ByteArray) : (a.toList == b.toList) = true ↔ a = b := by rw [toL, toL, beq_iff_eq]; exact ⟨bs_inj, fun h => by rw [h]⟩
end Go.Proofs.YtngamlikhgilhaaGreatDoor
/- Contract: Imf. -/
namespace Go.Proofs.YtngamlikhgilhaaGreatDoor
open Go.RowKit

def dayNames : ByteArray := ⟨#[83, 117, 110, 77, 111, 110, 84, 117, 101, 87, 101, 100, 84, 104, 117, 70, 114, 105, 83, 97, 116]⟩
def monNames : ByteArray := ⟨#[74, 97, 110, 70, 101, 98, 77, 97, 114, 65, 112, 114, 77, 97, 121, 74, 117, 110, 74, 117, 108, 65, 117, 103, 83, 101, 112, 79, 99, 116, 78, 111, 118, 68, 101, 99]⟩
def dayS (k : Nat) : ByteArray := dayNames.extract (3 * k) (3 * k + 3)
def monS (k : Nat) : ByteArray := monNames.extract (3 * k) (3 * k + 3)
theorem dayS_size (k : Nat) (h : k < 7) : (dayS k).size = 3 := by unfold dayS; rw [ByteArray.size_extract, show dayNames.size = 21 from rfl]; omega
theorem monS_size (k : Nat) (h : k < 12) : (monS k).size = 3 := by unfold monS; rw [ByteArray.size_extract, show monNames.size = 36 from rfl]; omega
/-- A time as headers have it: the day of the week, the day, the month (from 0 on), the year, the hands. -/
def imfS (k d m y h n s : Nat) : ByteArray := dayS k ++ (⟨#[44, 32]⟩ : ByteArray) ++ fixS 2 d ++ (⟨#[32]⟩ : ByteArray) ++ monS m ++ (⟨#[32]⟩ : ByteArray) ++ fixS 4 y ++ (⟨#[32]⟩ : ByteArray) ++ handS h n s ++ (⟨#[32, 71, 77, 84]⟩ : ByteArray)
theorem imfS_size (k d m y h n s : Nat) (hk : k < 7) (hm : m < 12) : (imfS k d m y h n s).size = 29 := by
  unfold imfS
  simp only [ByteArray.size_append, fixS_size, handS_size, dayS_size k hk, monS_size m hm]
  rfl
def ImfP (t : Int) (w : World) (e : Ending) (w' : World) : Prop := ∃ k y m d h n s : Nat, CkN t y (m + 1) d h n s ∧ m < 12 ∧ k < 7 ∧ wday (num y ((m : Int) + 1) d) = k ∧ e = .returned (.tuple #[.string (imfS k d m y h n s), .bool true]) ∧ Below w.heap.size w w'
set_option maxRecDepth 100000 in
theorem imf_no (t : Int) (w : World) (h : t < 0 ∨ 253402300799 < t) : Calls Tryz.prog 32 #[.int .i64 t] w fun e w' => e = .returned (.tuple #[.string ⟨#[]⟩, .bool false]) ∧ Below w.heap.size w w' := by
  have H := Lib.hid h
  clear h
  go_enter Tryz.func32, Tryz.ntmps32
  go_wp2_with fail
  refine (clock_no t _ H.out).mono ?_
  rintro e w1 ⟨rfl, hb⟩
  go_wp2_with fail
  go_ret2
  exact ⟨rfl, hb.alloc hb.size _⟩
theorem wday_nat (x : Int) : ∃ k : Nat, wday x = k ∧ k < 7 := by
  have h : 0 ≤ wday x ∧ wday x < 7 := by unfold wday; omega
  obtain ⟨k, hk⟩ := Int.eq_ofNat_of_zero_le h.1
  exact ⟨k, hk, by omega⟩
theorem wday_at (x : Int) (k : Int) (W : World) (h : wday x = k) : Calls Tryz.prog 69 #[.int .i64 x] W fun e w' => e = .returned (.int .i64 k) ∧ w' = W := by
  subst h
  exact (wday_any x W).mono fun _ _ ⟨a, b⟩ => ⟨a, b.symm⟩
theorem hands_at (y m d h n s : Nat) (w : World) (h1 : h < 100) (n1 : n < 100) (s1 : s < 100) : Calls Tryz.prog 71 #[.agg #[.int .i64 y, .int .i64 ((m : Int) + 1), .int .i64 d, .int .i64 h, .int .i64 n, .int .i64 s]] w fun e w' => e = .returned (.string (handS h n s)) ∧ Below w.heap.size w w' := hands_any y (m + 1) d h n s w h1 n1 s1
set_option maxHeartbeats 2000000 in
set_option maxRecDepth 100000 in
theorem imf_yes (t : Int) (w : World) (h1 : 0 ≤ t) (h2 : t ≤ 253402300799) : Calls Tryz.prog 32 #[.int .i64 t] w (ImfP t w) := by
  go_enter Tryz.func32, Tryz.ntmps32
  go_wp2_with fail
  refine (clock_yes t _ h1 h2).mono ?_
  rintro e w1 ⟨y, m, d, h, n, s, hc, rfl, hb⟩
  have hm0 := hc.m0
  obtain ⟨m, rfl⟩ : ∃ k, m = k + 1 := ⟨m - 1, by omega⟩
  have HC := Lib.hid hc
  have HB := Lib.hid hb
  have q1 := hc.y1
  have q2 : m < 12 := by have := hc.m1; omega
  have q3 := hc.d1
  have q4 := hc.h1
  have q5 := hc.n1
  have q6 := hc.s1
  have HV := Lib.hid (show vld (y : Int) ((m : Int) + 1) d from by have h9 := hc.v.1; rw [show ((m + 1 : Nat) : Int) = (m : Int) + 1 by omega] at h9; exact h9)
  clear hc hb hm0
  obtain ⟨k, hk, hk7⟩ := wday_nat (num y ((m : Int) + 1) d)
  have HK := Lib.hid hk
  clear hk
  have zy := fixS_size 4 y
  have zd := fixS_size 2 d
  have zh := handS_size h n s
  have zk := dayS_size k hk7
  have zm := monS_size m q2
  have HI := Lib.hid (show imfS k d m y h n s = dayS k ++ (⟨#[44, 32]⟩ : ByteArray) ++ fixS 2 d ++ (⟨#[32]⟩ : ByteArray) ++ monS m ++ (⟨#[32]⟩ : ByteArray) ++ fixS 4 y ++ (⟨#[32]⟩ : ByteArray) ++ handS h n s ++ (⟨#[32, 71, 77, 84]⟩ : ByteArray) from rfl)
  go_wp2_with fail
  refine (days_yes _ _ _ _ HV.out).mono ?_
  rintro e w2 ⟨rfl, rfl⟩
  go_wp2_with fail
  go_quiet ((go_at_call 69; exact Calls.quiet_of_same (wday_at _ _ _ HK.out)))
  go_wp2_with fail
  have c0 : ∀ x : BW ((w1.alloc (.cells #[.int .i64 y, .int .i64 ((m : Int) + 1), .int .i64 d, .int .i64 h, .int .i64 n, .int .i64 s] 74)).drewN nq), x.W.cell? ⟨w1.heap.size, 0, none⟩ = some (.int .i64 y) := fun x => (x.cell _ _ (by show w1.heap.size < (w1.alloc _).heap.size; simp)).trans (by show (w1.alloc _).cell? _ = _; rw [World.cell?_alloc_new]; rfl)
  have c2 : ∀ x : BW ((w1.alloc (.cells #[.int .i64 y, .int .i64 ((m : Int) + 1), .int .i64 d, .int .i64 h, .int .i64 n, .int .i64 s] 74)).drewN nq), x.W.cell? ⟨w1.heap.size, 2, none⟩ = some (.int .i64 d) := fun x => (x.cell _ _ (by show w1.heap.size < (w1.alloc _).heap.size; simp)).trans (by show (w1.alloc _).cell? _ = _; rw [World.cell?_alloc_new]; rfl)
  have c1 : ∀ x : BW ((w1.alloc (.cells #[.int .i64 y, .int .i64 ((m : Int) + 1), .int .i64 d, .int .i64 h, .int .i64 n, .int .i64 s] 74)).drewN nq), x.W.cell? ⟨w1.heap.size, 1, none⟩ = some (.int .i64 ((m : Int) + 1)) := fun x => (x.cell _ _ (by show w1.heap.size < (w1.alloc _).heap.size; simp)).trans (by show (w1.alloc _).cell? _ = _; rw [World.cell?_alloc_new]; rfl)
  have c3 : ∀ x : BW ((w1.alloc (.cells #[.int .i64 y, .int .i64 ((m : Int) + 1), .int .i64 d, .int .i64 h, .int .i64 n, .int .i64 s] 74)).drewN nq), x.W.cell? ⟨w1.heap.size, 3, none⟩ = some (.int .i64 h) := fun x => (x.cell _ _ (by show w1.heap.size < (w1.alloc _).heap.size; simp)).trans (by show (w1.alloc _).cell? _ = _; rw [World.cell?_alloc_new]; rfl)
  have c4 : ∀ x : BW ((w1.alloc (.cells #[.int .i64 y, .int .i64 ((m : Int) + 1), .int .i64 d, .int .i64 h, .int .i64 n, .int .i64 s] 74)).drewN nq), x.W.cell? ⟨w1.heap.size, 4, none⟩ = some (.int .i64 n) := fun x => (x.cell _ _ (by show w1.heap.size < (w1.alloc _).heap.size; simp)).trans (by show (w1.alloc _).cell? _ = _; rw [World.cell?_alloc_new]; rfl)
  have c5 : ∀ x : BW ((w1.alloc (.cells #[.int .i64 y, .int .i64 ((m : Int) + 1), .int .i64 d, .int .i64 h, .int .i64 n, .int .i64 s] 74)).drewN nq), x.W.cell? ⟨w1.heap.size, 5, none⟩ = some (.int .i64 s) := fun x => (x.cell _ _ (by show w1.heap.size < (w1.alloc _).heap.size; simp)).trans (by show (w1.alloc _).cell? _ = _; rw [World.cell?_alloc_new]; rfl)
  have hBW : Below w.heap.size w ((w1.alloc (.cells #[.int .i64 y, .int .i64 ((m : Int) + 1), .int .i64 d, .int .i64 h, .int .i64 n, .int .i64 s] 74)).drewN nq) := Bdrawn (HB.out.alloc HB.out.size _) nq
  have HBW := Lib.hid hBW
  clear hBW
  have i1 : IntKind.i64.wrap (3 * (k : Int) + 3) = 3 * (k : Int) + 3 := by rw [IntKind.wrap_i64]; omega
  have i2 : IntKind.i64.wrap (3 * (m : Int) + 3) = 3 * (m : Int) + 3 := by rw [IntKind.wrap_i64]; omega
  have i3 : (0 : Int) ≤ 3 * (k : Int) := by omega
  have i4 : (0 : Int) ≤ 3 * (m : Int) := by omega
  have i5 : 3 * (k : Int) ≤ 3 * (k : Int) + 3 := by omega
  have i6 : 3 * (m : Int) ≤ 3 * (m : Int) + 3 := by omega
  have i7 : 3 * (k : Int) + 3 ≤ 21 := by omega
  have i8 : 3 * (m : Int) + 3 ≤ 36 := by omega
  have i9 : (3 * (k : Int)).toNat = 3 * k := by omega
  have i10 : (3 * (m : Int)).toNat = 3 * m := by omega
  have i11 : (3 * (k : Int) + 3).toNat = 3 * k + 3 := by omega
  have i12 : (3 * (m : Int) + 3).toNat = 3 * m + 3 := by omega
  have zk2 : ((⟨#[83, 117, 110, 77, 111, 110, 84, 117, 101, 87, 101, 100, 84, 104, 117, 70, 114, 105, 83, 97, 116]⟩ : ByteArray).extract (3 * k) (3 * k + 3)).size = 3 := zk
  have zm2 : ((⟨#[74, 97, 110, 70, 101, 98, 77, 97, 114, 65, 112, 114, 77, 97, 121, 74, 117, 110, 74, 117, 108, 65, 117, 103, 83, 101, 112, 79, 99, 116, 78, 111, 118, 68, 101, 99]⟩ : ByteArray).extract (3 * m) (3 * m + 3)).size = 3 := zm
  clear zk zm
  refine wp_region_class (by kernel_rfl) (by kernel_rfl) ?_
  repeat (go_big_quiet_step (first
    | (go_at_call 70; first | with_reducible exact BW.call (fixed_4 y q1 _) | with_reducible exact BW.call (fixed_2 d q3 _))
    | (go_at_call 71; with_reducible exact BW.call (hands_at y m d h n s _ q4 q5 q6))))
  refine wpQuiet_nil ?_
  rintro Wx ⟨x, rfl⟩
  have HX := Lib.hid x.bel
  clear i1 i2 i3 i4 i5 i6 i7 i8 i9 i10 i11 i12 c0 c1 c2 c3 c4 c5
  go_wp2_with fail
  go_ret2
  exact ⟨k, y, m, d, h, n, s, HC.out, q2, hk7, HK.out, by rw [HI.out]; rfl, Below.trans HBW.out (HX.out.mono HBW.out.size)⟩
end Go.Proofs.YtngamlikhgilhaaGreatDoor
