/- Contract: Uniso. -/
import Derived.Test.YtfbildneagjccaaDateJ
namespace Go.Proofs.Ytfbildneagjccaa
open Go.RowKit

theorem isIso_nums {s : ByteArray} {t : Int} (h : IsIso s t) : vclk (numAt s 0 4) (numAt s 5 7) (numAt s 8 10) (numAt s 11 13) (numAt s 14 16) (numAt s 17 19) ∧ secs (numAt s 0 4) (numAt s 5 7) (numAt s 8 10) (numAt s 11 13) (numAt s 14 16) (numAt s 17 19) = t := by
  obtain ⟨-, -, y, m, d, hh, n, sc, hc, hx⟩ := h
  obtain ⟨e0, e1, e2, e3, e4, e5⟩ := iso_nums hc.y1 (by have := hc.m1; omega) hc.d1 hc.h1 hc.n1 hc.s1 hx
  rw [e0, e1, e2, e3, e4, e5]
  exact ⟨hc.v, hc.t⟩
theorem isIso_size {s : ByteArray} {t : Int} (h : IsIso s t) : s.size = 20 := by
  obtain ⟨-, -, y, m, d, hh, n, sc, hc, hx⟩ := h
  rw [hx, isoS_size]
def UnV (s : ByteArray) (v : Value) : Prop := (∃ t, IsIso s t ∧ v = .tuple #[.int .i64 t, .bool true]) ∨ ((∀ t, ¬ IsIso s t) ∧ v = .tuple #[.int .i64 0, .bool false])
theorem UnV.size {s : ByteArray} (h : s.size ≠ 20) : UnV s (.tuple #[.int .i64 0, .bool false]) := .inr ⟨fun _ ht => h (isIso_size ht), rfl⟩
theorem UnV.nov {s : ByteArray} (h : ¬ vclk (numAt s 0 4) (numAt s 5 7) (numAt s 8 10) (numAt s 11 13) (numAt s 14 16) (numAt s 17 19)) : UnV s (.tuple #[.int .i64 0, .bool false]) := .inr ⟨fun _ ht => h (isIso_nums ht).1, rfl⟩
theorem UnV.neg {s : ByteArray} (h : secs (numAt s 0 4) (numAt s 5 7) (numAt s 8 10) (numAt s 11 13) (numAt s 14 16) (numAt s 17 19) < 0) : UnV s (.tuple #[.int .i64 0, .bool false]) := .inr ⟨fun _ ht => by have h1 := (isIso_nums ht).2; have h2 := ht.1; omega, rfl⟩
theorem UnV.ne {s : ByteArray} {y m d h n sc : Nat} (hc : CkN (secs (numAt s 0 4) (numAt s 5 7) (numAt s 8 10) (numAt s 11 13) (numAt s 14 16) (numAt s 17 19)) y m d h n sc) (hne : isoS y m d h n sc ≠ s) : UnV s (.tuple #[.int .i64 0, .bool false]) := by
  refine .inr ⟨fun t ht => ?_, rfl⟩
  have h1 := (isIso_nums ht).2
  obtain ⟨-, -, y', m', d', h', n', sc', hc', hx⟩ := ht
  rw [← h1] at hc'
  obtain ⟨rfl, rfl, rfl, rfl, rfl, rfl⟩ := hc.uniq hc'
  exact hne hx.symm
theorem UnV.yes {s : ByteArray} {t : Int} {y m d h n sc : Nat} (h0 : 0 ≤ t) (h1 : t ≤ 253402300799) (hc : CkN t y m d h n sc) (he : isoS y m d h n sc = s) : UnV s (.tuple #[.int .i64 t, .bool true]) := .inl ⟨t, ⟨h0, h1, _, _, _, _, _, _, hc, he.symm⟩, rfl⟩
theorem str_ne (a b : ByteArray) : (a.toList == b.toList) = true ↔ a = b := by rw [toL, toL, beq_iff_eq]; exact ⟨bs_inj, fun h => by rw [h]⟩
theorem place_0 (W : World) : (Instr.index 60 (.agg #[.int .i64 0, .int .i64 5, .int .i64 8, .int .i64 11, .int .i64 14, .int .i64 17]) (.int .i64 0)).run Try.prog W = .ok (.int .i64 0) W := by kernel_rfl
theorem place_1 (W : World) : (Instr.index 60 (.agg #[.int .i64 0, .int .i64 5, .int .i64 8, .int .i64 11, .int .i64 14, .int .i64 17]) (.int .i64 1)).run Try.prog W = .ok (.int .i64 5) W := by kernel_rfl
theorem place_2 (W : World) : (Instr.index 60 (.agg #[.int .i64 0, .int .i64 5, .int .i64 8, .int .i64 11, .int .i64 14, .int .i64 17]) (.int .i64 2)).run Try.prog W = .ok (.int .i64 8) W := by kernel_rfl
theorem place_3 (W : World) : (Instr.index 60 (.agg #[.int .i64 0, .int .i64 5, .int .i64 8, .int .i64 11, .int .i64 14, .int .i64 17]) (.int .i64 3)).run Try.prog W = .ok (.int .i64 11) W := by kernel_rfl
theorem place_4 (W : World) : (Instr.index 60 (.agg #[.int .i64 0, .int .i64 5, .int .i64 8, .int .i64 11, .int .i64 14, .int .i64 17]) (.int .i64 4)).run Try.prog W = .ok (.int .i64 14) W := by kernel_rfl
theorem place_5 (W : World) : (Instr.index 60 (.agg #[.int .i64 0, .int .i64 5, .int .i64 8, .int .i64 11, .int .i64 14, .int .i64 17]) (.int .i64 5)).run Try.prog W = .ok (.int .i64 17) W := by kernel_rfl
set_option maxHeartbeats 4000000 in
set_option maxRecDepth 100000 in
theorem uniso_any (s : ByteArray) (w : World) (hs : s.size ≤ 9223372036854775806) : Calls Try.prog 17 #[.string s] w fun e w' => (∃ v, e = .returned v ∧ UnV s v) ∧ Below w.heap.size w w' := by
  by_cases hz : s.size = 20
  case neg =>
    have HU := Lib.hid (UnV.size hz)
    have hz1 : ((s.size : Int) != 20) = true := by simp; omega
    have hz2 : (s.size != 20) = true := by simp; omega
    go_enter Try.func17, Try.ntmps17
    go_wp2_with fail
    go_ret2
    exact ⟨⟨_, rfl, HU.out⟩, Below.refl _ _⟩
  have HZ := Lib.hid hz
  have hz1 : ((s.size : Int) != 20) = false := by simp; omega
  have hz2 : (s.size != 20) = false := by simp; omega
  have hz3 : (20 : Int) ≤ (s.size : Int) := by omega
  have hzx : ∀ a b, (s.extract a b).size ≤ 9223372036854775807 := fun a b => by rw [ByteArray.size_extract]; omega
  have HX := Lib.hid hzx
  clear hz hzx
  have t0 : (4 : Int) ≤ (s.size : Int) := by omega
  have t1 : (7 : Int) ≤ (s.size : Int) := by omega
  have t2 : (10 : Int) ≤ (s.size : Int) := by omega
  have t3 : (13 : Int) ≤ (s.size : Int) := by omega
  have t4 : (16 : Int) ≤ (s.size : Int) := by omega
  have t5 : (19 : Int) ≤ (s.size : Int) := by omega
  go_enter Try.func17, Try.ntmps17
  go_wp2_with fail
  go_loopw [16] (fun i wr => Below w.heap.size w wr ∧ w.heap.size < wr.heap.size ∧ ((i = .int .i64 0 ∧ ClkAt wr w.heap.size 0 0 0 0 0 0) ∨ (i = .int .i64 1 ∧ ClkAt wr w.heap.size (numAt s 0 4) 0 0 0 0 0) ∨ (i = .int .i64 2 ∧ ClkAt wr w.heap.size (numAt s 0 4) (numAt s 5 7) 0 0 0 0) ∨ (i = .int .i64 3 ∧ ClkAt wr w.heap.size (numAt s 0 4) (numAt s 5 7) (numAt s 8 10) 0 0 0) ∨ (i = .int .i64 4 ∧ ClkAt wr w.heap.size (numAt s 0 4) (numAt s 5 7) (numAt s 8 10) (numAt s 11 13) 0 0) ∨ (i = .int .i64 5 ∧ ClkAt wr w.heap.size (numAt s 0 4) (numAt s 5 7) (numAt s 8 10) (numAt s 11 13) (numAt s 14 16) 0) ∨ (i = .int .i64 6 ∧ ClkAt wr w.heap.size (numAt s 0 4) (numAt s 5 7) (numAt s 8 10) (numAt s 11 13) (numAt s 14 16) (numAt s 17 19)))) (fun i _ => (6 - intOf i).toNat)
  case atStart => exact ⟨(Below.refl _ _).alloc (Nat.le_refl _) _, by simp, .inl ⟨rfl, ⟨by go_simp, by go_simp, by go_simp, by go_simp, by go_simp, by go_simp, fun o => by go_simp⟩⟩⟩
  case round =>
    obtain ⟨hb, hlt, hrel⟩ := hrel
    have HB := Lib.hid hb
    clear hb
    rcases hrel with ⟨rfl, hC⟩ | ⟨rfl, hC⟩ | ⟨rfl, hC⟩ | ⟨rfl, hC⟩ | ⟨rfl, hC⟩ | ⟨rfl, hC⟩ | ⟨rfl, hC⟩
    · have HC := Lib.hid hC
      obtain ⟨c0, c1, c2, c3, c4, c5, fz⟩ := hC
      have hpl := place_0 wr
      go_wp2_with fail
      refine (unfixed_any (s.extract 0 4) _ (HX.out _ _)).mono ?_
      rintro e w1 ⟨rfl, rfl⟩
      rw [show unfV (unfO (s.extract 0 4)) = .tuple #[.int .i64 (numAt s 0 4), .bool (unfO (s.extract 0 4)).isSome] from rfl]
      have HS := Lib.hid (HC.out.s0 (numAt s 0 4))
      go_wp2_with fail
      go_roundw
      case rel => exact ⟨HB.out.setCell (Nat.le_refl _) _, by rw [World.size_setCell]; exact hlt, .inr (.inl ⟨rfl, HS.out⟩)⟩
      case measure => simp [intOf]
    · have HC := Lib.hid hC
      obtain ⟨c0, c1, c2, c3, c4, c5, fz⟩ := hC
      have hpl := place_1 wr
      go_wp2_with fail
      refine (unfixed_any (s.extract 5 7) _ (HX.out _ _)).mono ?_
      rintro e w1 ⟨rfl, rfl⟩
      rw [show unfV (unfO (s.extract 5 7)) = .tuple #[.int .i64 (numAt s 5 7), .bool (unfO (s.extract 5 7)).isSome] from rfl]
      have HS := Lib.hid (HC.out.s1 (numAt s 5 7))
      go_wp2_with fail
      go_roundw
      case rel => exact ⟨HB.out.setCell (Nat.le_refl _) _, by rw [World.size_setCell]; exact hlt, .inr (.inr (.inl ⟨rfl, HS.out⟩))⟩
      case measure => simp [intOf]
    · have HC := Lib.hid hC
      obtain ⟨c0, c1, c2, c3, c4, c5, fz⟩ := hC
      have hpl := place_2 wr
      go_wp2_with fail
      refine (unfixed_any (s.extract 8 10) _ (HX.out _ _)).mono ?_
      rintro e w1 ⟨rfl, rfl⟩
      rw [show unfV (unfO (s.extract 8 10)) = .tuple #[.int .i64 (numAt s 8 10), .bool (unfO (s.extract 8 10)).isSome] from rfl]
      have HS := Lib.hid (HC.out.s2 (numAt s 8 10))
      go_wp2_with fail
      go_roundw
      case rel => exact ⟨HB.out.setCell (Nat.le_refl _) _, by rw [World.size_setCell]; exact hlt, .inr (.inr (.inr (.inl ⟨rfl, HS.out⟩)))⟩
      case measure => simp [intOf]
    · have HC := Lib.hid hC
      obtain ⟨c0, c1, c2, c3, c4, c5, fz⟩ := hC
      have hpl := place_3 wr
      go_wp2_with fail
      refine (unfixed_any (s.extract 11 13) _ (HX.out _ _)).mono ?_
      rintro e w1 ⟨rfl, rfl⟩
      rw [show unfV (unfO (s.extract 11 13)) = .tuple #[.int .i64 (numAt s 11 13), .bool (unfO (s.extract 11 13)).isSome] from rfl]
      have HS := Lib.hid (HC.out.s3 (numAt s 11 13))
      go_wp2_with fail
      go_roundw
      case rel => exact ⟨HB.out.setCell (Nat.le_refl _) _, by rw [World.size_setCell]; exact hlt, .inr (.inr (.inr (.inr (.inl ⟨rfl, HS.out⟩))))⟩
      case measure => simp [intOf]
    · have HC := Lib.hid hC
      obtain ⟨c0, c1, c2, c3, c4, c5, fz⟩ := hC
      have hpl := place_4 wr
      go_wp2_with fail
      refine (unfixed_any (s.extract 14 16) _ (HX.out _ _)).mono ?_
      rintro e w1 ⟨rfl, rfl⟩
      rw [show unfV (unfO (s.extract 14 16)) = .tuple #[.int .i64 (numAt s 14 16), .bool (unfO (s.extract 14 16)).isSome] from rfl]
      have HS := Lib.hid (HC.out.s4 (numAt s 14 16))
      go_wp2_with fail
      go_roundw
      case rel => exact ⟨HB.out.setCell (Nat.le_refl _) _, by rw [World.size_setCell]; exact hlt, .inr (.inr (.inr (.inr (.inr (.inl ⟨rfl, HS.out⟩)))))⟩
      case measure => simp [intOf]
    · have HC := Lib.hid hC
      obtain ⟨c0, c1, c2, c3, c4, c5, fz⟩ := hC
      have hpl := place_5 wr
      go_wp2_with fail
      refine (unfixed_any (s.extract 17 19) _ (HX.out _ _)).mono ?_
      rintro e w1 ⟨rfl, rfl⟩
      rw [show unfV (unfO (s.extract 17 19)) = .tuple #[.int .i64 (numAt s 17 19), .bool (unfO (s.extract 17 19)).isSome] from rfl]
      have HS := Lib.hid (HC.out.s5 (numAt s 17 19))
      go_wp2_with fail
      go_roundw
      case rel => exact ⟨HB.out.setCell (Nat.le_refl _) _, by rw [World.size_setCell]; exact hlt, .inr (.inr (.inr (.inr (.inr (.inr (⟨rfl, HS.out⟩))))))⟩
      case measure => simp [intOf]
    · obtain ⟨c0, c1, c2, c3, c4, c5, fz⟩ := hC
      by_cases hv : vclk (numAt s 0 4) (numAt s 5 7) (numAt s 8 10) (numAt s 11 13) (numAt s 14 16) (numAt s 17 19)
      · have HV := Lib.hid hv
        obtain ⟨p1, p2⟩ := secs_bd hv
        have HNE := Lib.hid (fun (y m d h n sc : Nat) => @UnV.ne s y m d h n sc)
        have HNG := Lib.hid (@UnV.neg s)
        have HYE := Lib.hid (fun h0 h1 (y m d h n sc : Nat) => @UnV.yes s (secs (numAt s 0 4) (numAt s 5 7) (numAt s 8 10) (numAt s 11 13) (numAt s 14 16) (numAt s 17 19)) y m d h n sc h0 h1)
        go_wp2_with fail
        refine (epoch_yes _ _ _ _ _ _ _ HV.out).mono ?_
        rintro e w1 ⟨rfl, hb1⟩
        have HB1 := Lib.hid (Bsnoc HB.out hb1)
        clear hb1 hv c0 c1 c2 c3 c4 c5 fz
        generalize secs (numAt s 0 4) (numAt s 5 7) (numAt s 8 10) (numAt s 11 13) (numAt s 14 16) (numAt s 17 19) = t at p1 p2 HNE HNG HYE ⊢
        by_cases hneg : t < 0
        · have HU := Lib.hid (HNG.out hneg)
          go_wp2_with fail
          refine (iso_no t _ (.inl hneg)).mono ?_
          rintro e w2 ⟨rfl, hb2⟩
          go_wp2_with fail
          go_ret2
          exact ⟨⟨_, rfl, HU.out⟩, Bsnoc HB1.out hb2⟩
        · have hpos : 0 ≤ t := by omega
          go_wp2_with fail
          refine (iso_yes t _ hpos p2).mono ?_
          rintro e w2 ⟨y, m, d, h, n, sc, hc, rfl, hb2⟩
          by_cases he : isoS y m d h n sc = s
          · have HU := Lib.hid (HYE.out hpos p2 _ _ _ _ _ _ hc he)
            have hq : ((isoS y m d h n sc).toList == s.toList) = true := (str_ne _ _).2 he
            have hq2 : ((isoS y m d h n sc).toList != s.toList) = false := by rw [bne, hq]; rfl
            clear he hc
            go_wp2_with fail
            go_ret2
            exact ⟨⟨_, rfl, HU.out⟩, Bsnoc HB1.out hb2⟩
          · have HU := Lib.hid (HNE.out _ _ _ _ _ _ hc he)
            have hq : ((isoS y m d h n sc).toList == s.toList) = false := by rw [← Bool.not_eq_true, str_ne]; exact he
            have hq2 : ((isoS y m d h n sc).toList != s.toList) = true := by rw [bne, hq]; rfl
            clear he hc
            go_wp2_with fail
            go_ret2
            exact ⟨⟨_, rfl, HU.out⟩, Bsnoc HB1.out hb2⟩
      · have HU := Lib.hid (UnV.nov hv)
        have HV := Lib.hid hv
        clear hv
        go_wp2_with fail
        refine (epoch_no _ _ _ _ _ _ _ HV.out).mono ?_
        rintro e w1 ⟨rfl, hb1⟩
        have HB1 := Lib.hid (Bsnoc HB.out hb1)
        clear hb1 c0 c1 c2 c3 c4 c5 fz
        go_wp2_with fail
        refine (iso_yes 0 _ (by decide) (by decide)).mono ?_
        rintro e w2 ⟨y, m, d, h, n, sc, hc, rfl, hb2⟩
        clear hc
        go_wp2_with fail
        go_ret2
        exact ⟨⟨_, rfl, HU.out⟩, Bsnoc HB1.out hb2⟩
end Go.Proofs.Ytfbildneagjccaa
