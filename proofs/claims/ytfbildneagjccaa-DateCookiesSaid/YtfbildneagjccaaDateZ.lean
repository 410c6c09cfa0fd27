/- Contract: the reference's next. -/
import Derived.Test.YtfbildneagjccaaDateY
import Derived.Test.YtfbildneagjccaaDateH
namespace Go.Proofs.Ytfbildneagjccaa
open Go.RowKit

theorem resF {w : World} {b : Nat} {f : Fd} {a : Act} (ha : a.tmps[4]?.getD undef = .pointer (some ⟨b, 0, none⟩)) (h : w.rangeAt b 0 (fdL f)) : (results Try.f31 a.tmps).run Try.prog w = .ok (fdA f) w := by
  have h1 := loadF h
  simp [results, Try.results31, asAddr, ha, h1]
/-- A bit, and what it says (kept from the walk's eyes). -/
def TB (v : Value) (b : Bool) : Prop := ∃ q : Bool, v = .bool q ∧ Hid (q = b)
set_option maxHeartbeats 2000000 in
set_option maxRecDepth 100000 in
theorem rnext_any (f : Fd) (x : ByteArray) (w : World) (hs : x.size ≤ 9223372036854775806) : Calls Try.prog 31 #[fdA f, .string x] w fun e w' => e = .returned (fdA (nextF f x)) ∧ Below w.heap.size w w' := by
  obtain ⟨ht, hd, hm, hy, y, m, d, h, n, s⟩ := f
  rw [show fdA ⟨ht, hd, hm, hy, y, m, d, h, n, s⟩ = .agg #[.bool ht, .bool hd, .bool hm, .bool hy, .int .i64 y, .int .i64 m, .int .i64 d, .int .i64 h, .int .i64 n, .int .i64 s] from rfl]
  go_enter Try.func31, Try.ntmps31
  go_upto_region 1 with fail
  have F0 : FF w ((w.alloc (.cells #[.bool ht, .bool hd, .bool hm, .bool hy, .int .i64 y, .int .i64 m, .int .i64 d, .int .i64 h, .int .i64 n, .int .i64 s] 46)).alloc (.cells #[.bool false, .bool false, .bool false, .bool false, .int .i64 0, .int .i64 0, .int .i64 0, .int .i64 0, .int .i64 0, .int .i64 0] 46)) ⟨ht, hd, hm, hy, y, m, d, h, n, s⟩ := FF.new w ⟨ht, hd, hm, hy, y, m, d, h, n, s⟩ ⟨false, false, false, false, 0, 0, 0, 0, 0, 0⟩ _
  generalize hW : (w.alloc (.cells #[.bool ht, .bool hd, .bool hm, .bool hy, .int .i64 y, .int .i64 m, .int .i64 d, .int .i64 h, .int .i64 n, .int .i64 s] 46)).alloc (.cells #[.bool false, .bool false, .bool false, .bool false, .int .i64 0, .int .i64 0, .int .i64 0, .int .i64 0, .int .i64 0, .int .i64 0] 46) = W0 at *
  clear hW
  have hnx := ndig_le x
  go_cut [5, 6] (fun s5 s6 wx => TB s6 (timeB x) ∧ (timeB x = true → ∃ b cp, s5 = .slice (some ⟨b, 0, none⟩) 3 cp ∧ 3 ≤ cp ∧ w.heap.size + 2 ≤ b ∧ wx.cell? ⟨b, 0, none⟩ = some (.int .i64 (numV x)) ∧ wx.cell? ⟨b, 1, none⟩ = some (.int .i64 (numV (time2 x))) ∧ wx.cell? ⟨b, 2, none⟩ = some (.int .i64 (numV (time2 (time2 x))))) ∧ FF w wx ⟨ht, hd, hm, hy, y, m, d, h, n, s⟩)
  case first =>
    go_wp2_with fail
    refine (rtime_any x _ hs).mono ?_
    have hz := F0.sz
    rintro e w1 (⟨htb, b, cp, rfl, hcp, hb0, hb1, q0, q1, q2, hB⟩ | ⟨htb, rfl, hB⟩)
    · go_wp2_with fail
      go_meet
      case rel => exact ⟨⟨true, rfl, Lib.hid htb.symm⟩, fun _ => ⟨b, cp, rfl, hcp, by omega, q0, q1, q2⟩, F0.keep hB⟩
    · go_wp2_with fail
      go_meet
      case rel => exact ⟨⟨false, rfl, Lib.hid htb.symm⟩, fun h9 => (by rw [htb] at h9; cases h9), F0.keep hB⟩
  case rest =>
    clear F0
    obtain ⟨⟨tb, rfl, htb⟩, HT, F1⟩ := hcut
    go_upto_region 2 with fail
    go_cut [18] (fun sx wz => TB sx (!ht && timeB x) ∧ wz = wc)
    case first =>
      obtain ⟨c0, -⟩ := range_at F1.rd
      dsimp only at c0
      cases ht <;> cases tb
      all_goals
        go_wp2_with fail
        go_meet
        case rel => exact ⟨⟨_, rfl, Lib.hid (by rw [← htb.out]; rfl)⟩, rfl⟩
    case rest =>
      obtain ⟨⟨q, rfl, hq⟩, rfl⟩ := hcut
      go_upto_if 18 with fail
      go_cut [] (fun wz => wz = wc ∧ Hid (¬ (ht = false ∧ timeB x = true)))
      case first =>
        cases q
        case' false =>
          go_wp2_with fail
          go_meet
          case rel => exact ⟨rfl, Lib.hid (fun h9 => by have h8 := hq.out; rw [h9.1, h9.2] at h8; cases h8)⟩
        case' true =>
          have hq' := hq.out
          obtain rfl : ht = false := by cases ht <;> first | rfl | cases hq'
          rw [Bool.not_false, Bool.true_and] at hq'
          have hv := hq'.symm
          clear hq hq'
          obtain ⟨f0, f1, f2, f3, f4, f5, f6, f7, f8, f9⟩ := there_at F1.wr
          obtain ⟨c0, c1, c2, c3, c4, c5, c6, c7, c8, c9⟩ := range_at F1.rd
          have HN : Hid (nextF ⟨false, hd, hm, hy, y, m, d, h, n, s⟩ x = ⟨true, hd, hm, hy, y, m, d, numV x, numV (time2 x), numV (time2 (time2 x))⟩) := Lib.hid (next_0 ⟨rfl, hv⟩)
          obtain ⟨b, cp, rfl, hcp, hb, q0, q1, q2⟩ := HT hv
          have hcp3 : (3 : Int) ≤ cp := by omega
          have n1 : b ≠ w.heap.size := by omega
          clear hv
          generalize numV x = a0 at *
          generalize numV (time2 x) = a1 at *
          generalize numV (time2 (time2 x)) = a2 at *
          go_upto_region 7 with fail
          have F2 := (((F1.set (g := ⟨true, hd, hm, hy, y, m, d, h, n, s⟩) 0 (.bool true) rfl).set (g := ⟨true, hd, hm, hy, y, m, d, a0, n, s⟩) 7 (.int .i64 a0) rfl).set (g := ⟨true, hd, hm, hy, y, m, d, a0, a1, s⟩) 8 (.int .i64 a1) rfl).set (g := ⟨true, hd, hm, hy, y, m, d, a0, a1, a2⟩) 9 (.int .i64 a2) rfl
          refine wp_region_lit ?_
          refine loadOpF F2.rd rfl _ rfl rfl ?_
          refine storeOpF F2.res rfl _ _ rfl rfl rfl ?_
          go_wp2_with fail
          rw [HN.out]
          refine bodyPost_ret (v := fdA ⟨true, hd, hm, hy, y, m, d, a0, a1, a2⟩) (resF rfl (World.rangeAt_setCells_same _ _ _ _ F2.res)) rfl ⟨rfl, Below.setCells (by omega) _ _ _ F2.bel⟩
      case rest =>
        obtain ⟨rfl, H0⟩ := hcut
        clear hq HT
        go_wp2_with fail
        refine (rdigs_any x _ (by omega)).mono ?_
        rintro e w2 ⟨rfl, rfl⟩
        go_upto_region 9 with fail
        go_cut [48] (fun sx wz => TB sx (!hd && oneTwo x) ∧ wz = wc)
        case first =>
          obtain ⟨-, c1, -⟩ := range_at F1.rd
          dsimp only at c1
          have e1 : oneTwo x = (decide ((1:Int) ≤ (ndig x : Int)) && decide ((ndig x : Int) ≤ 2)) := by unfold oneTwo; congr 1 <;> (rw [Bool.eq_iff_iff]; simp only [decide_eq_true_eq]; omega)
          cases hd
          case' false =>
            cases k1 : decide ((1:Int) ≤ (ndig x : Int))
            case' true => cases k2 : decide ((ndig x : Int) ≤ 2)
          all_goals
            go_wp2_with fail
            go_meet
            case rel => exact ⟨⟨_, rfl, Lib.hid (by (try rw [e1, k1]) <;> (try rw [k2]) <;> rfl)⟩, rfl⟩
        case rest =>
          obtain ⟨⟨q, rfl, hq⟩, rfl⟩ := hcut
          go_upto_if 48 with fail
          go_cut [] (fun wz => wz = wc ∧ Hid (¬ (hd = false ∧ oneTwo x = true)))
          case first =>
            cases q
            case' false =>
              go_wp2_with fail
              go_meet
              case rel => exact ⟨rfl, Lib.hid (fun h9 => by have h8 := hq.out; rw [h9.1, h9.2] at h8; cases h8)⟩
            case' true =>
              have hq' := hq.out
              obtain rfl : hd = false := by cases hd <;> first | rfl | cases hq'
              rw [Bool.not_false, Bool.true_and] at hq'
              have hv := hq'.symm
              clear hq hq'
              obtain ⟨f0, f1, f2, f3, f4, f5, f6, f7, f8, f9⟩ := there_at F1.wr
              obtain ⟨c0, c1, c2, c3, c4, c5, c6, c7, c8, c9⟩ := range_at F1.rd
              have HN : Hid (nextF ⟨ht, false, hm, hy, y, m, d, h, n, s⟩ x = ⟨ht, true, hm, hy, y, m, numV x, h, n, s⟩) := Lib.hid (next_1 H0.out ⟨rfl, hv⟩)
              have hr := (oneTwo_iff x).1 hv
              have HU := Lib.hid (unfV_some (unf_num x hr.1 (by omega)))
              have hez : (x.extract 0 (ndig x)).size ≤ 9223372036854775807 := by rw [ByteArray.size_extract]; omega
              clear hv H0
              generalize numV x = a0 at *
              go_wp2_with fail
              refine (runfixed_any (x.extract 0 (ndig x)) _ hez).mono ?_
              rintro e w2 ⟨rfl, rfl⟩
              rw [HU.out]
              go_upto_region 12 with fail
              have F2 := (F1.set (g := ⟨ht, true, hm, hy, y, m, d, h, n, s⟩) 1 (.bool true) rfl).set (g := ⟨ht, true, hm, hy, y, m, a0, h, n, s⟩) 6 (.int .i64 a0) rfl
              refine wp_region_lit ?_
              refine loadOpF F2.rd rfl _ rfl rfl ?_
              refine storeOpF F2.res rfl _ _ rfl rfl rfl ?_
              go_wp2_with fail
              rw [HN.out]
              refine bodyPost_ret (v := fdA ⟨ht, true, hm, hy, y, m, a0, h, n, s⟩) (resF rfl (World.rangeAt_setCells_same _ _ _ _ F2.res)) rfl ⟨rfl, Below.setCells (by omega) _ _ _ F2.bel⟩
          case rest =>
            obtain ⟨rfl, H1⟩ := hcut
            clear hq
            go_upto_region 13 with fail
            go_cut [67] (fun sx wz => TB sx (!hm && decide (0 < monthN x)) ∧ FF w wz ⟨ht, hd, hm, hy, y, m, d, h, n, s⟩)
            case first =>
              obtain ⟨-, -, c2, -⟩ := range_at F1.rd
              dsimp only at c2
              cases hm
              case' false =>
                go_wp2_with fail
                refine (rmonth_any x _ (by omega)).mono ?_
                rintro e w2 ⟨rfl, hb2⟩
                have F2 := F1.keep hb2
                have e1 : decide (0 < monthN x) = decide ((monthN x : Int) > 0) := by rw [Bool.eq_iff_iff]; simp only [decide_eq_true_eq]; omega
                cases k1 : decide ((monthN x : Int) > 0)
                all_goals
                  go_wp2_with fail
                  go_meet
                  case rel => exact ⟨⟨_, rfl, Lib.hid (by rw [e1, k1]; rfl)⟩, F2⟩
              case' true =>
                go_wp2_with fail
                go_meet
                case rel => exact ⟨⟨_, rfl, Lib.hid rfl⟩, F1⟩
            case rest =>
              clear F1
              obtain ⟨⟨q, rfl, hq⟩, F1⟩ := hcut
              go_upto_if 67 with fail
              go_cut [] (fun wz => wz = wc ∧ Hid (¬ (hm = false ∧ 0 < monthN x)))
              case first =>
                cases q
                case' false =>
                  go_wp2_with fail
                  go_meet
                  case rel => exact ⟨rfl, Lib.hid (fun h9 => by have h8 := hq.out; rw [h9.1, decide_eq_true h9.2] at h8; cases h8)⟩
                case' true =>
                  have hq' := hq.out
                  obtain rfl : hm = false := by cases hm <;> first | rfl | cases hq'
                  rw [Bool.not_false, Bool.true_and] at hq'
                  have hv := of_decide_eq_true hq'.symm
                  clear hq hq'
                  have HN : Hid (nextF ⟨ht, hd, false, hy, y, m, d, h, n, s⟩ x = ⟨ht, hd, true, hy, y, monthN x, d, h, n, s⟩) := Lib.hid (next_2 H0.out H1.out ⟨rfl, hv⟩)
                  clear hv H0 H1
                  obtain ⟨f0, f1, f2, f3, f4, f5, f6, f7, f8, f9⟩ := there_at F1.wr
                  obtain ⟨c0, c1, c2, c3, c4, c5, c6, c7, c8, c9⟩ := range_at F1.rd
                  go_upto_region 15 with fail
                  have F2 := F1.set (g := ⟨ht, hd, true, hy, y, m, d, h, n, s⟩) 2 (.bool true) rfl
                  generalize (wc.setCell ⟨w.heap.size, 2, none⟩ (.bool true)) = w3 at *
                  clear f0 f1 f2 f3 f4 f5 f6 f7 f8 f9 c0 c1 c2 c3 c4 c5 c6 c7 c8 c9
                  go_wp2_with fail
                  refine (rmonth_any x _ (by omega)).mono ?_
                  rintro e w2 ⟨rfl, hb2⟩
                  have F3 := F2.keep hb2
                  obtain ⟨f0, f1, f2, f3, f4, f5, f6, f7, f8, f9⟩ := there_at F3.wr
                  obtain ⟨c0, c1, c2, c3, c4, c5, c6, c7, c8, c9⟩ := range_at F3.rd
                  generalize monthN x = a0 at *
                  go_upto_region 16 with fail
                  have F2 := F3.set (g := ⟨ht, hd, true, hy, y, a0, d, h, n, s⟩) 5 (.int .i64 a0) rfl
                  refine wp_region_lit ?_
                  refine loadOpF F2.rd rfl _ rfl rfl ?_
                  refine storeOpF F2.res rfl _ _ rfl rfl rfl ?_
                  go_wp2_with fail
                  rw [HN.out]
                  refine bodyPost_ret (v := fdA ⟨ht, hd, true, hy, y, a0, d, h, n, s⟩) (resF rfl (World.rangeAt_setCells_same _ _ _ _ F2.res)) rfl ⟨rfl, Below.setCells (by omega) _ _ _ F2.bel⟩
              case rest =>
                obtain ⟨rfl, H2⟩ := hcut
                clear hq
                go_upto_region 17 with fail
                go_cut [84] (fun sx wz => TB sx (!hy && twoFour x) ∧ wz = wc)
                case first =>
                  obtain ⟨-, -, -, c3, -⟩ := range_at F1.rd
                  dsimp only at c3
                  have e1 : twoFour x = (decide ((2:Int) ≤ (ndig x : Int)) && decide ((ndig x : Int) ≤ 4)) := by unfold twoFour; congr 1 <;> (rw [Bool.eq_iff_iff]; simp only [decide_eq_true_eq]; omega)
                  cases hy
                  case' false =>
                    cases k1 : decide ((2:Int) ≤ (ndig x : Int))
                    case' true => cases k2 : decide ((ndig x : Int) ≤ 4)
                  all_goals
                    go_wp2_with fail
                    go_meet
                    case rel => exact ⟨⟨_, rfl, Lib.hid (by (try rw [e1, k1]) <;> (try rw [k2]) <;> rfl)⟩, rfl⟩
                case rest =>
                  obtain ⟨⟨q, rfl, hq⟩, rfl⟩ := hcut
                  cases q
                  case' false =>
                    have HN : Hid (nextF ⟨ht, hd, hm, hy, y, m, d, h, n, s⟩ x = ⟨ht, hd, hm, hy, y, m, d, h, n, s⟩) := Lib.hid (next_4 H0.out H1.out H2.out (fun h9 => by have h8 := hq.out; have h7 : hy = false := h9.1; have h6 : twoFour x = true := h9.2; rw [h7, h6] at h8; cases h8))
                    go_upto_region 20 with fail
                    have F2 := F1
                    refine wp_region_lit ?_
                    refine loadOpF F2.rd rfl _ rfl rfl ?_
                    refine storeOpF F2.res rfl _ _ rfl rfl rfl ?_
                    go_wp2_with fail
                    rw [HN.out]
                    refine bodyPost_ret (v := fdA ⟨ht, hd, hm, hy, y, m, d, h, n, s⟩) (resF rfl (World.rangeAt_setCells_same _ _ _ _ F2.res)) rfl ⟨rfl, Below.setCells (by omega) _ _ _ F2.bel⟩
                  case' true =>
                    have hq' := hq.out
                    obtain rfl : hy = false := by cases hy <;> first | rfl | cases hq'
                    rw [Bool.not_false, Bool.true_and] at hq'
                    have hv := hq'.symm
                    clear hq hq'
                    obtain ⟨f0, f1, f2, f3, f4, f5, f6, f7, f8, f9⟩ := there_at F1.wr
                    obtain ⟨c0, c1, c2, c3, c4, c5, c6, c7, c8, c9⟩ := range_at F1.rd
                    have HN : Hid (nextF ⟨ht, hd, hm, false, y, m, d, h, n, s⟩ x = ⟨ht, hd, hm, true, numV x, m, d, h, n, s⟩) := Lib.hid (next_3 H0.out H1.out H2.out ⟨rfl, hv⟩)
                    have hr := (twoFour_iff x).1 hv
                    have HU := Lib.hid (unfV_some (unf_num x (by omega) (by omega)))
                    have hez : (x.extract 0 (ndig x)).size ≤ 9223372036854775807 := by rw [ByteArray.size_extract]; omega
                    clear hv H0 H1 H2
                    generalize numV x = a0 at *
                    go_wp2_with fail
                    refine (runfixed_any (x.extract 0 (ndig x)) _ hez).mono ?_
                    rintro e w2 ⟨rfl, rfl⟩
                    rw [HU.out]
                    go_upto_region 20 with fail
                    have F2 := (F1.set (g := ⟨ht, hd, hm, true, y, m, d, h, n, s⟩) 3 (.bool true) rfl).set (g := ⟨ht, hd, hm, true, a0, m, d, h, n, s⟩) 4 (.int .i64 a0) rfl
                    refine wp_region_lit ?_
                    refine loadOpF F2.rd rfl _ rfl rfl ?_
                    refine storeOpF F2.res rfl _ _ rfl rfl rfl ?_
                    go_wp2_with fail
                    rw [HN.out]
                    refine bodyPost_ret (v := fdA ⟨ht, hd, hm, true, a0, m, d, h, n, s⟩) (resF rfl (World.rangeAt_setCells_same _ _ _ _ F2.res)) rfl ⟨rfl, Below.setCells (by omega) _ _ _ F2.bel⟩
end Go.Proofs.Ytfbildneagjccaa
