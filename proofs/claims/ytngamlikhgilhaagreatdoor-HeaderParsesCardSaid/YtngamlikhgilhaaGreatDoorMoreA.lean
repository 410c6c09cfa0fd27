/- The reference's Cut and Known; an attribute of no known name. (printed by wip/genmorea.py) -/
import Derived.Test.YtngamlikhgilhaaGreatDoorZL
namespace Go.Proofs.YtngamlikhgilhaaGreatDoor
open Go.RowKit Go.Shelf

theorem rcut_any (s : ByteArray) (c : UInt8) (w : World) (hs : s.size ≤ 9223372036854775807) :
    Calls Tryz.prog 13 #[.string s, .int .u8 (c.toNat : Int)] w fun e w' => e = .returned (cutV3 c s) ∧ Below w.heap.size w w' := by
  rcases first_or (bs s) c with h | ⟨k, h⟩
  · refine (rcut_none s c w hs h).mono ?_
    rintro e w' ⟨rfl, rfl⟩
    refine ⟨?_, Below.refl _ _⟩
    unfold cutV3
    rw [cutL_none c _ h]
    rfl
  · refine (rcut_some s c k w hs h).mono ?_
    rintro e w' ⟨rfl, n, rfl⟩
    refine ⟨?_, Bdrawn (Below.refl _ _) n⟩
    unfold cutV3
    rw [cutL_some c _ k h]
    have e1 : s.extract 0 k = mk ((bs s).take k) := by apply bs_inj; rw [bs_extract, bs_mk, List.drop_zero]
    have e2 : s.extract (k + 1) s.size = mk ((bs s).drop (k + 1)) := by apply bs_inj; rw [bs_extract, bs_mk, List.take_of_length_le (by rw [← size_bs]; exact Nat.le_refl _)]
    rw [e1, e2]
theorem rcut61 (s : ByteArray) (w : World) (hs : s.size ≤ 9223372036854775807) : Calls Tryz.prog 13 #[.string s, .int .u8 61] w fun e w' => e = .returned (cutV3 61 s) ∧ Below w.heap.size w w' := rcut_any s 61 w hs
theorem rcut59 (s : ByteArray) (w : World) (hs : s.size ≤ 9223372036854775807) : Calls Tryz.prog 13 #[.string s, .int .u8 59] w fun e w' => e = .returned (cutV3 59 s) ∧ Below w.heap.size w w' := rcut_any s 59 w hs
/-- The attributes' names in memory. -/
structure KnAt (W : World) (N : Nat) : Prop where
  c0 : W.cell? ⟨N, 0, none⟩ = some (.string ⟨#[101, 120, 112, 105, 114, 101, 115]⟩)
  c1 : W.cell? ⟨N, 1, none⟩ = some (.string ⟨#[109, 97, 120, 45, 97, 103, 101]⟩)
  c2 : W.cell? ⟨N, 2, none⟩ = some (.string ⟨#[100, 111, 109, 97, 105, 110]⟩)
  c3 : W.cell? ⟨N, 3, none⟩ = some (.string ⟨#[112, 97, 116, 104]⟩)
  c4 : W.cell? ⟨N, 4, none⟩ = some (.string ⟨#[115, 101, 99, 117, 114, 101]⟩)
  c5 : W.cell? ⟨N, 5, none⟩ = some (.string ⟨#[104, 116, 116, 112, 111, 110, 108, 121]⟩)
  c6 : W.cell? ⟨N, 6, none⟩ = some (.string ⟨#[115, 97, 109, 101, 115, 105, 116, 101]⟩)
theorem KnAt.below {W W' : World} {N : Nat} (h : KnAt W N) (hN : N < W.heap.size) (b : Below W.heap.size W W') : KnAt W' N := by
  have hc : ∀ o, W'.cell? ⟨N, o, none⟩ = W.cell? ⟨N, o, none⟩ := fun o => b.cell (p := ⟨N, o, none⟩) hN
  exact ⟨by rw [hc]; exact h.c0, by rw [hc]; exact h.c1, by rw [hc]; exact h.c2, by rw [hc]; exact h.c3, by rw [hc]; exact h.c4, by rw [hc]; exact h.c5, by rw [hc]; exact h.c6⟩
theorem KnAt.new (w : World) (t : TypeId) : KnAt (w.alloc (.cells #[.string ⟨#[101, 120, 112, 105, 114, 101, 115]⟩, .string ⟨#[109, 97, 120, 45, 97, 103, 101]⟩, .string ⟨#[100, 111, 109, 97, 105, 110]⟩, .string ⟨#[112, 97, 116, 104]⟩, .string ⟨#[115, 101, 99, 117, 114, 101]⟩, .string ⟨#[104, 116, 116, 112, 111, 110, 108, 121]⟩, .string ⟨#[115, 97, 109, 101, 115, 105, 116, 101]⟩] t)) w.heap.size :=
  ⟨hcellNew w [.string ⟨#[101, 120, 112, 105, 114, 101, 115]⟩, .string ⟨#[109, 97, 120, 45, 97, 103, 101]⟩, .string ⟨#[100, 111, 109, 97, 105, 110]⟩, .string ⟨#[112, 97, 116, 104]⟩, .string ⟨#[115, 101, 99, 117, 114, 101]⟩, .string ⟨#[104, 116, 116, 112, 111, 110, 108, 121]⟩, .string ⟨#[115, 97, 109, 101, 115, 105, 116, 101]⟩] t 0, hcellNew w [.string ⟨#[101, 120, 112, 105, 114, 101, 115]⟩, .string ⟨#[109, 97, 120, 45, 97, 103, 101]⟩, .string ⟨#[100, 111, 109, 97, 105, 110]⟩, .string ⟨#[112, 97, 116, 104]⟩, .string ⟨#[115, 101, 99, 117, 114, 101]⟩, .string ⟨#[104, 116, 116, 112, 111, 110, 108, 121]⟩, .string ⟨#[115, 97, 109, 101, 115, 105, 116, 101]⟩] t 1, hcellNew w [.string ⟨#[101, 120, 112, 105, 114, 101, 115]⟩, .string ⟨#[109, 97, 120, 45, 97, 103, 101]⟩, .string ⟨#[100, 111, 109, 97, 105, 110]⟩, .string ⟨#[112, 97, 116, 104]⟩, .string ⟨#[115, 101, 99, 117, 114, 101]⟩, .string ⟨#[104, 116, 116, 112, 111, 110, 108, 121]⟩, .string ⟨#[115, 97, 109, 101, 115, 105, 116, 101]⟩] t 2, hcellNew w [.string ⟨#[101, 120, 112, 105, 114, 101, 115]⟩, .string ⟨#[109, 97, 120, 45, 97, 103, 101]⟩, .string ⟨#[100, 111, 109, 97, 105, 110]⟩, .string ⟨#[112, 97, 116, 104]⟩, .string ⟨#[115, 101, 99, 117, 114, 101]⟩, .string ⟨#[104, 116, 116, 112, 111, 110, 108, 121]⟩, .string ⟨#[115, 97, 109, 101, 115, 105, 116, 101]⟩] t 3, hcellNew w [.string ⟨#[101, 120, 112, 105, 114, 101, 115]⟩, .string ⟨#[109, 97, 120, 45, 97, 103, 101]⟩, .string ⟨#[100, 111, 109, 97, 105, 110]⟩, .string ⟨#[112, 97, 116, 104]⟩, .string ⟨#[115, 101, 99, 117, 114, 101]⟩, .string ⟨#[104, 116, 116, 112, 111, 110, 108, 121]⟩, .string ⟨#[115, 97, 109, 101, 115, 105, 116, 101]⟩] t 4, hcellNew w [.string ⟨#[101, 120, 112, 105, 114, 101, 115]⟩, .string ⟨#[109, 97, 120, 45, 97, 103, 101]⟩, .string ⟨#[100, 111, 109, 97, 105, 110]⟩, .string ⟨#[112, 97, 116, 104]⟩, .string ⟨#[115, 101, 99, 117, 114, 101]⟩, .string ⟨#[104, 116, 116, 112, 111, 110, 108, 121]⟩, .string ⟨#[115, 97, 109, 101, 115, 105, 116, 101]⟩] t 5, hcellNew w [.string ⟨#[101, 120, 112, 105, 114, 101, 115]⟩, .string ⟨#[109, 97, 120, 45, 97, 103, 101]⟩, .string ⟨#[100, 111, 109, 97, 105, 110]⟩, .string ⟨#[112, 97, 116, 104]⟩, .string ⟨#[115, 101, 99, 117, 114, 101]⟩, .string ⟨#[104, 116, 116, 112, 111, 110, 108, 121]⟩, .string ⟨#[115, 97, 109, 101, 115, 105, 116, 101]⟩] t 6⟩
theorem kn_yes0 {x : ByteArray} (h : kindN x = 1) : ((lowS x).toList == [101, 120, 112, 105, 114, 101, 115]) = true := by
  rw [show lowS x = eXP from (kind_low h).1 rfl, toLh]
  rfl
theorem kn_no0 {x : ByteArray} (h : kindN x ≠ 1) : ((lowS x).toList == [101, 120, 112, 105, 114, 101, 115]) = false := by
  refine str_neL (l := [101, 120, 112, 105, 114, 101, 115]) (fun e => h ?_)
  unfold kindN
  rw [show lowS x = eXP from e]
  decide
theorem kn_yes1 {x : ByteArray} (h : kindN x = 2) : ((lowS x).toList == [109, 97, 120, 45, 97, 103, 101]) = true := by
  rw [show lowS x = aGE from (kind_low h).2.1 rfl, toLh]
  rfl
theorem kn_no1 {x : ByteArray} (h : kindN x ≠ 2) : ((lowS x).toList == [109, 97, 120, 45, 97, 103, 101]) = false := by
  refine str_neL (l := [109, 97, 120, 45, 97, 103, 101]) (fun e => h ?_)
  unfold kindN
  rw [show lowS x = aGE from e]
  decide
theorem kn_yes2 {x : ByteArray} (h : kindN x = 3) : ((lowS x).toList == [100, 111, 109, 97, 105, 110]) = true := by
  rw [show lowS x = dOM from (kind_low h).2.2.1 rfl, toLh]
  rfl
theorem kn_no2 {x : ByteArray} (h : kindN x ≠ 3) : ((lowS x).toList == [100, 111, 109, 97, 105, 110]) = false := by
  refine str_neL (l := [100, 111, 109, 97, 105, 110]) (fun e => h ?_)
  unfold kindN
  rw [show lowS x = dOM from e]
  decide
theorem kn_yes3 {x : ByteArray} (h : kindN x = 4) : ((lowS x).toList == [112, 97, 116, 104]) = true := by
  rw [show lowS x = pTH from (kind_low h).2.2.2.1 rfl, toLh]
  rfl
theorem kn_no3 {x : ByteArray} (h : kindN x ≠ 4) : ((lowS x).toList == [112, 97, 116, 104]) = false := by
  refine str_neL (l := [112, 97, 116, 104]) (fun e => h ?_)
  unfold kindN
  rw [show lowS x = pTH from e]
  decide
theorem kn_yes4 {x : ByteArray} (h : kindN x = 5) : ((lowS x).toList == [115, 101, 99, 117, 114, 101]) = true := by
  rw [show lowS x = sEC from (kind_low h).2.2.2.2.1 rfl, toLh]
  rfl
theorem kn_no4 {x : ByteArray} (h : kindN x ≠ 5) : ((lowS x).toList == [115, 101, 99, 117, 114, 101]) = false := by
  refine str_neL (l := [115, 101, 99, 117, 114, 101]) (fun e => h ?_)
  unfold kindN
  rw [show lowS x = sEC from e]
  decide
theorem kn_yes5 {x : ByteArray} (h : kindN x = 6) : ((lowS x).toList == [104, 116, 116, 112, 111, 110, 108, 121]) = true := by
  rw [show lowS x = hTO from (kind_low h).2.2.2.2.2.1 rfl, toLh]
  rfl
theorem kn_no5 {x : ByteArray} (h : kindN x ≠ 6) : ((lowS x).toList == [104, 116, 116, 112, 111, 110, 108, 121]) = false := by
  refine str_neL (l := [104, 116, 116, 112, 111, 110, 108, 121]) (fun e => h ?_)
  unfold kindN
  rw [show lowS x = hTO from e]
  decide
theorem kn_yes6 {x : ByteArray} (h : kindN x = 7) : ((lowS x).toList == [115, 97, 109, 101, 115, 105, 116, 101]) = true := by
  rw [show lowS x = sST from (kind_low h).2.2.2.2.2.2.1 rfl, toLh]
  rfl
theorem kn_no6 {x : ByteArray} (h : kindN x ≠ 7) : ((lowS x).toList == [115, 97, 109, 101, 115, 105, 116, 101]) = false := by
  refine str_neL (l := [115, 97, 109, 101, 115, 105, 116, 101]) (fun e => h ?_)
  unfold kindN
  rw [show lowS x = sST from e]
  decide
set_option maxHeartbeats 4000000 in
set_option maxRecDepth 100000 in
theorem rknown_any (x : ByteArray) (W : World) (hs : x.size ≤ 9223372036854775807) : Calls Tryz.prog 14 #[.string x] W fun e W' => e = .returned (.bool (!(kindN (trimS x) == 0))) ∧ Below W.heap.size W W' := by
  have hB0 : Below W.heap.size W (W.alloc (.cells #[.string ⟨#[101, 120, 112, 105, 114, 101, 115]⟩, .string ⟨#[109, 97, 120, 45, 97, 103, 101]⟩, .string ⟨#[100, 111, 109, 97, 105, 110]⟩, .string ⟨#[112, 97, 116, 104]⟩, .string ⟨#[115, 101, 99, 117, 114, 101]⟩, .string ⟨#[104, 116, 116, 112, 111, 110, 108, 121]⟩, .string ⟨#[115, 97, 109, 101, 115, 105, 116, 101]⟩] 9)) := (Below.refl W.heap.size W).alloc (Nat.le_refl _) _
  have hsz : W.heap.size < (W.alloc (.cells #[.string ⟨#[101, 120, 112, 105, 114, 101, 115]⟩, .string ⟨#[109, 97, 120, 45, 97, 103, 101]⟩, .string ⟨#[100, 111, 109, 97, 105, 110]⟩, .string ⟨#[112, 97, 116, 104]⟩, .string ⟨#[115, 101, 99, 117, 114, 101]⟩, .string ⟨#[104, 116, 116, 112, 111, 110, 108, 121]⟩, .string ⟨#[115, 97, 109, 101, 115, 105, 116, 101]⟩] 9)).heap.size := by rw [World.size_alloc]; omega
  have hM := KnAt.new W 9
  obtain ⟨W1, hW1⟩ : ∃ W1, W1 = W.alloc (.cells #[.string ⟨#[101, 120, 112, 105, 114, 101, 115]⟩, .string ⟨#[109, 97, 120, 45, 97, 103, 101]⟩, .string ⟨#[100, 111, 109, 97, 105, 110]⟩, .string ⟨#[112, 97, 116, 104]⟩, .string ⟨#[115, 101, 99, 117, 114, 101]⟩, .string ⟨#[104, 116, 116, 112, 111, 110, 108, 121]⟩, .string ⟨#[115, 97, 109, 101, 115, 105, 116, 101]⟩] 9) := ⟨_, rfl⟩
  rw [← hW1] at hM hB0 hsz
  have HM := Lib.hid hM
  have HB0 := Lib.hid hB0
  have HW := Lib.hid hW1
  clear hM hB0 hW1
  have hz : (trimS x).size ≤ 9223372036854775807 := Nat.le_trans (trimS_len x) hs
  have HT := Lib.hid (fun w => rtrim_any x w hs)
  generalize trimS x = T at *
  have hle := (kind_low (x := T) (k := kindN T) rfl).2.2.2.2.2.2.2
  have HY0 := Lib.hid (fun h : kindN T = 1 => kn_yes0 h)
  have HN0 := Lib.hid (fun h : kindN T ≠ 1 => kn_no0 h)
  have HY1 := Lib.hid (fun h : kindN T = 2 => kn_yes1 h)
  have HN1 := Lib.hid (fun h : kindN T ≠ 2 => kn_no1 h)
  have HY2 := Lib.hid (fun h : kindN T = 3 => kn_yes2 h)
  have HN2 := Lib.hid (fun h : kindN T ≠ 3 => kn_no2 h)
  have HY3 := Lib.hid (fun h : kindN T = 4 => kn_yes3 h)
  have HN3 := Lib.hid (fun h : kindN T ≠ 4 => kn_no3 h)
  have HY4 := Lib.hid (fun h : kindN T = 5 => kn_yes4 h)
  have HN4 := Lib.hid (fun h : kindN T ≠ 5 => kn_no4 h)
  have HY5 := Lib.hid (fun h : kindN T = 6 => kn_yes5 h)
  have HN5 := Lib.hid (fun h : kindN T ≠ 6 => kn_no5 h)
  have HY6 := Lib.hid (fun h : kindN T = 7 => kn_yes6 h)
  have HN6 := Lib.hid (fun h : kindN T ≠ 7 => kn_no6 h)
  generalize kindN T = m at *
  go_enter Tryz.func14, Tryz.ntmps14
  go_wp2_with fail
  rw [← HW.out]
  go_loopw [4] (fun i wr => Below W1.heap.size W1 wr ∧ ((i = .int .i64 0 ∧ Hid (m = 0 ∨ 0 < m)) ∨ (i = .int .i64 1 ∧ Hid (m = 0 ∨ 1 < m)) ∨ (i = .int .i64 2 ∧ Hid (m = 0 ∨ 2 < m)) ∨ (i = .int .i64 3 ∧ Hid (m = 0 ∨ 3 < m)) ∨ (i = .int .i64 4 ∧ Hid (m = 0 ∨ 4 < m)) ∨ (i = .int .i64 5 ∧ Hid (m = 0 ∨ 5 < m)) ∨ (i = .int .i64 6 ∧ Hid (m = 0 ∨ 6 < m)) ∨ (i = .int .i64 7 ∧ Hid (m = 0 ∨ 7 < m)))) (fun i _ => (7 - intOf i).toNat)
  case atStart => exact ⟨Below.refl _ _, .inl ⟨rfl, Lib.hid (by omega)⟩⟩
  case round =>
    obtain ⟨hb, hrel⟩ := hrel
    have hwr : W.heap.size < wr.heap.size := Nat.lt_of_lt_of_le hsz hb.size
    obtain ⟨c0, c1, c2, c3, c4, c5, c6⟩ := HM.out.below hsz hb
    rcases hrel with ⟨rfl, hj⟩ | ⟨rfl, hj⟩ | ⟨rfl, hj⟩ | ⟨rfl, hj⟩ | ⟨rfl, hj⟩ | ⟨rfl, hj⟩ | ⟨rfl, hj⟩ | ⟨rfl, hj⟩
    · have hcj := fun x : BW wr => (x.cell W.heap.size 0 hwr).trans c0
      clear c0 c1 c2 c3 c4 c5 c6
      by_cases hm : m = 1
      · have hq := HY0.out hm
        have HV := Lib.hid (show (!(m == 0)) = true by rw [hm]; rfl)
        clear hm hj
        go_wp2_with fail
        refine wp_region_class (by kernel_rfl) (by kernel_rfl) ?_
        repeat (go_big_quiet_step (first | (go_at_call 39; exact BW.same (HT.out _)) | (go_at_call 26; exact BW.call (rlower_any T _ hz))))
        refine wpQuiet_nil ?_
        rintro Wx ⟨x, rfl⟩
        have HBX := Lib.hid (Below.trans hb (x.bel.mono hb.size))
        clear hcj
        go_wp2_with fail
        go_ret
        exact ⟨by rw [HV.out]; rfl, HB0.out.trans (HBX.out.mono HB0.out.size)⟩
      · have hq := HN0.out hm
        have HJ := Lib.hid (show m = 0 ∨ 1 < m by have := hj.out; omega)
        clear hm hj
        go_wp2_with fail
        refine wp_region_class (by kernel_rfl) (by kernel_rfl) ?_
        repeat (go_big_quiet_step (first | (go_at_call 39; exact BW.same (HT.out _)) | (go_at_call 26; exact BW.call (rlower_any T _ hz))))
        refine wpQuiet_nil ?_
        rintro Wx ⟨x, rfl⟩
        have HBX := Lib.hid (Below.trans hb (x.bel.mono hb.size))
        clear hcj
        go_wp2_with fail
        go_roundw
        case rel => exact ⟨HBX.out, .inr (.inl ⟨rfl, HJ⟩)⟩
        case measure => simp [intOf]
    · have hcj := fun x : BW wr => (x.cell W.heap.size 1 hwr).trans c1
      clear c0 c1 c2 c3 c4 c5 c6
      by_cases hm : m = 2
      · have hq := HY1.out hm
        have HV := Lib.hid (show (!(m == 0)) = true by rw [hm]; rfl)
        clear hm hj
        go_wp2_with fail
        refine wp_region_class (by kernel_rfl) (by kernel_rfl) ?_
        repeat (go_big_quiet_step (first | (go_at_call 39; exact BW.same (HT.out _)) | (go_at_call 26; exact BW.call (rlower_any T _ hz))))
        refine wpQuiet_nil ?_
        rintro Wx ⟨x, rfl⟩
        have HBX := Lib.hid (Below.trans hb (x.bel.mono hb.size))
        clear hcj
        go_wp2_with fail
        go_ret
        exact ⟨by rw [HV.out]; rfl, HB0.out.trans (HBX.out.mono HB0.out.size)⟩
      · have hq := HN1.out hm
        have HJ := Lib.hid (show m = 0 ∨ 2 < m by have := hj.out; omega)
        clear hm hj
        go_wp2_with fail
        refine wp_region_class (by kernel_rfl) (by kernel_rfl) ?_
        repeat (go_big_quiet_step (first | (go_at_call 39; exact BW.same (HT.out _)) | (go_at_call 26; exact BW.call (rlower_any T _ hz))))
        refine wpQuiet_nil ?_
        rintro Wx ⟨x, rfl⟩
        have HBX := Lib.hid (Below.trans hb (x.bel.mono hb.size))
        clear hcj
        go_wp2_with fail
        go_roundw
        case rel => exact ⟨HBX.out, .inr (.inr (.inl ⟨rfl, HJ⟩))⟩
        case measure => simp [intOf]
    · have hcj := fun x : BW wr => (x.cell W.heap.size 2 hwr).trans c2
      clear c0 c1 c2 c3 c4 c5 c6
      by_cases hm : m = 3
      · have hq := HY2.out hm
        have HV := Lib.hid (show (!(m == 0)) = true by rw [hm]; rfl)
        clear hm hj
        go_wp2_with fail
        refine wp_region_class (by kernel_rfl) (by kernel_rfl) ?_
        repeat (go_big_quiet_step (first | (go_at_call 39; exact BW.same (HT.out _)) | (go_at_call 26; exact BW.call (rlower_any T _ hz))))
        refine wpQuiet_nil ?_
        rintro Wx ⟨x, rfl⟩
        have HBX := Lib.hid (Below.trans hb (x.bel.mono hb.size))
        clear hcj
        go_wp2_with fail
        go_ret
        exact ⟨by rw [HV.out]; rfl, HB0.out.trans (HBX.out.mono HB0.out.size)⟩
      · have hq := HN2.out hm
        have HJ := Lib.hid (show m = 0 ∨ 3 < m by have := hj.out; omega)
        clear hm hj
        go_wp2_with fail
        refine wp_region_class (by kernel_rfl) (by kernel_rfl) ?_
        repeat (go_big_quiet_step (first | (go_at_call 39; exact BW.same (HT.out _)) | (go_at_call 26; exact BW.call (rlower_any T _ hz))))
        refine wpQuiet_nil ?_
        rintro Wx ⟨x, rfl⟩
        have HBX := Lib.hid (Below.trans hb (x.bel.mono hb.size))
        clear hcj
        go_wp2_with fail
        go_roundw
        case rel => exact ⟨HBX.out, .inr (.inr (.inr (.inl ⟨rfl, HJ⟩)))⟩
        case measure => simp [intOf]
    · have hcj := fun x : BW wr => (x.cell W.heap.size 3 hwr).trans c3
      clear c0 c1 c2 c3 c4 c5 c6
      by_cases hm : m = 4
      · have hq := HY3.out hm
        have HV := Lib.hid (show (!(m == 0)) = true by rw [hm]; rfl)
        clear hm hj
        go_wp2_with fail
        refine wp_region_class (by kernel_rfl) (by kernel_rfl) ?_
        repeat (go_big_quiet_step (first | (go_at_call 39; exact BW.same (HT.out _)) | (go_at_call 26; exact BW.call (rlower_any T _ hz))))
        refine wpQuiet_nil ?_
        rintro Wx ⟨x, rfl⟩
        have HBX := Lib.hid (Below.trans hb (x.bel.mono hb.size))
        clear hcj
        go_wp2_with fail
        go_ret
        exact ⟨by rw [HV.out]; rfl, HB0.out.trans (HBX.out.mono HB0.out.size)⟩
      · have hq := HN3.out hm
        have HJ := Lib.hid (show m = 0 ∨ 4 < m by have := hj.out; omega)
        clear hm hj
        go_wp2_with fail
        refine wp_region_class (by kernel_rfl) (by kernel_rfl) ?_
        repeat (go_big_quiet_step (first | (go_at_call 39; exact BW.same (HT.out _)) | (go_at_call 26; exact BW.call (rlower_any T _ hz))))
        refine wpQuiet_nil ?_
        rintro Wx ⟨x, rfl⟩
        have HBX := Lib.hid (Below.trans hb (x.bel.mono hb.size))
        clear hcj
        go_wp2_with fail
        go_roundw
        case rel => exact ⟨HBX.out, .inr (.inr (.inr (.inr (.inl ⟨rfl, HJ⟩))))⟩
        case measure => simp [intOf]
    · have hcj := fun x : BW wr => (x.cell W.heap.size 4 hwr).trans c4
      clear c0 c1 c2 c3 c4 c5 c6
      by_cases hm : m = 5
      · have hq := HY4.out hm
        have HV := Lib.hid (show (!(m == 0)) = true by rw [hm]; rfl)
        clear hm hj
        go_wp2_with fail
        refine wp_region_class (by kernel_rfl) (by kernel_rfl) ?_
        repeat (go_big_quiet_step (first | (go_at_call 39; exact BW.same (HT.out _)) | (go_at_call 26; exact BW.call (rlower_any T _ hz))))
        refine wpQuiet_nil ?_
        rintro Wx ⟨x, rfl⟩
        have HBX := Lib.hid (Below.trans hb (x.bel.mono hb.size))
        clear hcj
        go_wp2_with fail
        go_ret
        exact ⟨by rw [HV.out]; rfl, HB0.out.trans (HBX.out.mono HB0.out.size)⟩
      · have hq := HN4.out hm
        have HJ := Lib.hid (show m = 0 ∨ 5 < m by have := hj.out; omega)
        clear hm hj
        go_wp2_with fail
        refine wp_region_class (by kernel_rfl) (by kernel_rfl) ?_
        repeat (go_big_quiet_step (first | (go_at_call 39; exact BW.same (HT.out _)) | (go_at_call 26; exact BW.call (rlower_any T _ hz))))
        refine wpQuiet_nil ?_
        rintro Wx ⟨x, rfl⟩
        have HBX := Lib.hid (Below.trans hb (x.bel.mono hb.size))
        clear hcj
        go_wp2_with fail
        go_roundw
        case rel => exact ⟨HBX.out, .inr (.inr (.inr (.inr (.inr (.inl ⟨rfl, HJ⟩)))))⟩
        case measure => simp [intOf]
    · have hcj := fun x : BW wr => (x.cell W.heap.size 5 hwr).trans c5
      clear c0 c1 c2 c3 c4 c5 c6
      by_cases hm : m = 6
      · have hq := HY5.out hm
        have HV := Lib.hid (show (!(m == 0)) = true by rw [hm]; rfl)
        clear hm hj
        go_wp2_with fail
        refine wp_region_class (by kernel_rfl) (by kernel_rfl) ?_
        repeat (go_big_quiet_step (first | (go_at_call 39; exact BW.same (HT.out _)) | (go_at_call 26; exact BW.call (rlower_any T _ hz))))
        refine wpQuiet_nil ?_
        rintro Wx ⟨x, rfl⟩
        have HBX := Lib.hid (Below.trans hb (x.bel.mono hb.size))
        clear hcj
        go_wp2_with fail
        go_ret
        exact ⟨by rw [HV.out]; rfl, HB0.out.trans (HBX.out.mono HB0.out.size)⟩
      · have hq := HN5.out hm
        have HJ := Lib.hid (show m = 0 ∨ 6 < m by have := hj.out; omega)
        clear hm hj
        go_wp2_with fail
        refine wp_region_class (by kernel_rfl) (by kernel_rfl) ?_
        repeat (go_big_quiet_step (first | (go_at_call 39; exact BW.same (HT.out _)) | (go_at_call 26; exact BW.call (rlower_any T _ hz))))
        refine wpQuiet_nil ?_
        rintro Wx ⟨x, rfl⟩
        have HBX := Lib.hid (Below.trans hb (x.bel.mono hb.size))
        clear hcj
        go_wp2_with fail
        go_roundw
        case rel => exact ⟨HBX.out, .inr (.inr (.inr (.inr (.inr (.inr (.inl ⟨rfl, HJ⟩))))))⟩
        case measure => simp [intOf]
    · have hcj := fun x : BW wr => (x.cell W.heap.size 6 hwr).trans c6
      clear c0 c1 c2 c3 c4 c5 c6
      by_cases hm : m = 7
      · have hq := HY6.out hm
        have HV := Lib.hid (show (!(m == 0)) = true by rw [hm]; rfl)
        clear hm hj
        go_wp2_with fail
        refine wp_region_class (by kernel_rfl) (by kernel_rfl) ?_
        repeat (go_big_quiet_step (first | (go_at_call 39; exact BW.same (HT.out _)) | (go_at_call 26; exact BW.call (rlower_any T _ hz))))
        refine wpQuiet_nil ?_
        rintro Wx ⟨x, rfl⟩
        have HBX := Lib.hid (Below.trans hb (x.bel.mono hb.size))
        clear hcj
        go_wp2_with fail
        go_ret
        exact ⟨by rw [HV.out]; rfl, HB0.out.trans (HBX.out.mono HB0.out.size)⟩
      · have hq := HN6.out hm
        have HJ := Lib.hid (show m = 0 ∨ 7 < m by have := hj.out; omega)
        clear hm hj
        go_wp2_with fail
        refine wp_region_class (by kernel_rfl) (by kernel_rfl) ?_
        repeat (go_big_quiet_step (first | (go_at_call 39; exact BW.same (HT.out _)) | (go_at_call 26; exact BW.call (rlower_any T _ hz))))
        refine wpQuiet_nil ?_
        rintro Wx ⟨x, rfl⟩
        have HBX := Lib.hid (Below.trans hb (x.bel.mono hb.size))
        clear hcj
        go_wp2_with fail
        go_roundw
        case rel => exact ⟨HBX.out, .inr (.inr (.inr (.inr (.inr (.inr (.inr (⟨rfl, HJ⟩)))))))⟩
        case measure => simp [intOf]
    · have HV := Lib.hid (show (!(m == 0)) = false by have := hj.out; rw [show m = 0 by omega]; rfl)
      clear hj
      go_wp2_with fail
      go_ret
      exact ⟨by rw [HV.out]; rfl, HB0.out.trans (hb.mono HB0.out.size)⟩
theorem cut_has {c : UInt8} : ∀ {l : List UInt8}, (cutL c l).2.2 = false → ∀ x ∈ l, x ≠ c
  | [], _, x, hx => by cases hx
  | y :: l, h, x, hx => by
    rw [cutL] at h
    by_cases hy : y = c
    · rw [if_pos hy] at h; cases h
    · rw [if_neg hy] at h
      rcases List.mem_cons.1 hx with rfl | hx
      · exact hy
      · exact cut_has h x hx
theorem par_more0 (s m : ByteArray) (now : Int) (h1 : (cutL 59 (bs m)).2.2 = false) (h2 : kindN (nameS m) = 0) : parH (s ++ ⟨#[59]⟩ ++ m) now = parH s now := by
  rw [par_P, par_P, bs_append, bs_append, List.append_assoc, show bs (⟨#[59]⟩ : ByteArray) ++ bs m = 59 :: bs m from rfl, parP_more, segs_one (cut_has h1)]
  cases parP (bs s) now with
  | none => rfl
  | some p =>
    show some (endH (stepH now p (bs m))) = some (endH p)
    unfold stepH
    rw [show mk (bs m) = m from rfl, h2]
    rfl
end Go.Proofs.YtngamlikhgilhaaGreatDoor
