/- Contract: the reference's Cookie. -/
import Derived.Test.YtfbildneagjccaaDateZB
import Derived.Test.YtfbildneagjccaaCivilS
namespace Go.Proofs.Ytfbildneagjccaa
open Go.RowKit

set_option maxHeartbeats 2000000 in
set_option maxRecDepth 100000 in
theorem rcookie_any (s : ByteArray) (w : World) (hs : s.size ≤ 1000) : Calls Try.prog 12 #[.string s] w fun e w' => e = .returned (cookieV s) ∧ Below w.heap.size w w' := by
  obtain ⟨hl1, hl2⟩ := words_len s
  have HV := Lib.hid (show cookieV s = fdV (foundL (wordsS s)) from rfl)
  go_enter Try.func12, Try.ntmps12
  go_wp2_with fail
  refine (rwords_any s _ hs).mono ?_
  rintro e w1 ⟨v, rfl, hb1, hrow⟩
  have K0 : CK w w1 v (wordsS s) 0 := by
    have b0 := (Below.refl w.heap.size w).alloc (Nat.le_refl _) (.cells (fdL f0).toArray 46)
    rw [World.size_alloc] at hrow
    exact ⟨range_keep (range_new w (fdL f0) _) hb1 (by simp), there_keep (there_new w (fdL f0) _) hb1 (by simp), hrow, Bsnoc b0 hb1, by have := hb1.size; simp at this; exact this⟩
  generalize wordsS s = q at *
  clear hb1 hrow
  go_wp2_with fail
  go_loopw [6] (fun i wr => ∃ k : Nat, k ≤ q.length ∧ i = .int .i64 k ∧ CK w wr v q k) (fun i _ => q.length - (intOf i).toNat)
  case atStart => exact ⟨0, Nat.zero_le _, rfl, K0⟩
  case round =>
    obtain ⟨k, hk, rfl, HK⟩ := hrel
    clear K0
    by_cases hlt : k < q.length
    · obtain ⟨b, cp, rfl, hc, hB, hcell⟩ := HK.at hlt
      have hz := hl2 _ (List.getElem_mem hlt)
      go_upto_region 6 with fail
      refine wp_region_still_tail 5 (by kernel_rfl) (by kernel_rfl) ?_
      simp only [List.take_succ_cons, List.take_zero, List.drop_succ_cons, List.drop_zero]
      have HK2 : CK w { wr with drawn := wr.drawn + 1 } (.slice (some ⟨b, 0, none⟩) q.length cp) q k := ⟨HK.rd, HK.wr, HK.row, Below.drew HK.bel, HK.sz⟩
      refine still_load HK2.rd (fun _ => rfl) _ rfl rfl ?_
      repeat still_step
      refine wpStill_nil ?_
      generalize ({ heap := wr.heap, tape := wr.tape, drawn := wr.drawn + 1, os := wr.os, output := wr.output } : World) = wd at *
      refine wpList_plain rfl (fun K hK => ?_)
      go_simp
      go_at_call 31
      refine (rnext_any (foundL (q.take k)) q[k] _ (by omega)).mono ?_
      rintro e w2 ⟨rfl, hb2⟩
      refine hK _ _ ?_
      have HK3 := HK2.keep hb2
      refine storeOpF HK3.wr rfl _ _ rfl rfl rfl ?_
      have HK4 := HK3.next hlt
      go_wp2_with fail
      go_round
      case rel => exact ⟨k + 1, by omega, by go_num, HK4⟩
      case measure => simp [intOf]; omega
    · obtain rfl : k = q.length := by omega
      have hwalk : ∃ B cp, v = .slice B q.length cp ∧ q.length ≤ cp := by obtain ⟨a, cp, rfl, hc, -⟩ := HK.row; exact ⟨a, cp, rfl, hc⟩
      obtain ⟨B, cp, rfl, hc⟩ := hwalk
      have hrd := HK.rd
      have hwr := HK.wr
      have HB := Lib.hid HK.bel
      rw [List.take_length] at hrd
      clear HK hl2
      have hok := foundL_ok q
      generalize foundL q = f at *
      obtain ⟨ht, hd, hm, hy, y, m, d, h, n, x⟩ := f
      obtain ⟨c0, c1, c2, c3, c4, c5, c6, c7, c8, c9⟩ := range_at hrd
      dsimp only at c0 c1 c2 c3 c4 c5 c6 c7 c8 c9
      have f4 := (there_at hwr).2.2.2.2.1
      clear hrd hwr
      cases hall : Fd.allB ⟨ht, hd, hm, hy, y, m, d, h, n, x⟩
      · have HR := Lib.hid (show cookieV s = .tuple #[.int .i64 0, .bool false] by rw [HV.out]; unfold fdV; rw [if_neg (by rw [hall]; simp)])
        unfold Fd.allB at hall
        dsimp only at hall
        clear HV
        cases ht
        case' false =>
          clear hall
          go_wp2_with fail
          go_ret2
          exact ⟨by rw [HR.out]; rfl, HB.out⟩
        cases hd
        case' false =>
          clear hall
          go_wp2_with fail
          go_ret2
          exact ⟨by rw [HR.out]; rfl, HB.out⟩
        cases hm
        case' false =>
          clear hall
          go_wp2_with fail
          go_ret2
          exact ⟨by rw [HR.out]; rfl, HB.out⟩
        cases hy
        case' false => clear hall
        case' true => cases hall
        go_wp2_with fail
        go_ret2
        exact ⟨by rw [HR.out]; rfl, HB.out⟩
      · have hfl : ht = true ∧ hd = true ∧ hm = true ∧ hy = true := by
          unfold Fd.allB at hall
          dsimp only at hall
          cases ht <;> cases hd <;> cases hm <;> cases hy <;> first | exact ⟨rfl, rfl, rfl, rfl⟩ | cases hall
        obtain ⟨rfl, rfl, rfl, rfl⟩ := hfl
        obtain ⟨hy0, hy1, -, -⟩ := hok
        dsimp only at hy0 hy1
        by_cases h70 : 70 ≤ y
        · by_cases h99 : y ≤ 99
          · have HCE := Lib.hid (show cent y = y + 1900 from by unfold cent; rw [if_pos ⟨h70, h99⟩])
            have g6 : ¬ (y + 1900 ≤ 69) := by omega
            have hlow : ¬ (y + 1900 < 1601) := by omega
            · by_cases hv : vclk (y + 1900) m d h n x
              · have HR := Lib.hid (show cookieV s = .tuple #[.int .i64 (secs (y + 1900) m d h n x), .bool true] by rw [HV.out]; unfold fdV; rw [HCE.out, if_pos ⟨hall, by omega, hv⟩])
                have HVC := Lib.hid hv
                clear HV HCE hall hv
                go_wp2_with fail
                refine (repoch_yes (y + 1900) m d h n x _ HVC.out).mono ?_
                rintro e w3 ⟨rfl, hb3⟩
                go_wp2_with fail
                go_ret2
                exact ⟨by rw [HR.out]; rfl, Bsnoc (HB.out.setCell (Nat.le_refl _) (.int .i64 (y + 1900))) hb3⟩
              · have HR := Lib.hid (show cookieV s = .tuple #[.int .i64 0, .bool false] by rw [HV.out]; unfold fdV; rw [HCE.out, if_neg (fun h => hv h.2.2)])
                have HVC := Lib.hid hv
                clear HV HCE hall hv
                go_wp2_with fail
                refine (repoch_no (y + 1900) m d h n x _ HVC.out).mono ?_
                rintro e w3 ⟨rfl, hb3⟩
                go_wp2_with fail
                go_ret2
                exact ⟨by rw [HR.out]; rfl, Bsnoc (HB.out.setCell (Nat.le_refl _) (.int .i64 (y + 1900))) hb3⟩
          · have HCE := Lib.hid (show cent y = y from by unfold cent; rw [if_neg (by omega), if_neg (by omega)])
            have g6 : ¬ (y ≤ 69) := by omega
            by_cases hlow : y < 1601
            · have HR := Lib.hid (show cookieV s = .tuple #[.int .i64 0, .bool false] by rw [HV.out]; unfold fdV; rw [HCE.out, if_neg (fun h => by have := h.2.1; omega)])
              clear HV HCE hall
              go_wp2_with fail
              go_ret2
              exact ⟨by rw [HR.out]; rfl, HB.out⟩
            · by_cases hv : vclk (y) m d h n x
              · have HR := Lib.hid (show cookieV s = .tuple #[.int .i64 (secs (y) m d h n x), .bool true] by rw [HV.out]; unfold fdV; rw [HCE.out, if_pos ⟨hall, by omega, hv⟩])
                have HVC := Lib.hid hv
                clear HV HCE hall hv
                go_wp2_with fail
                refine (repoch_yes (y) m d h n x _ HVC.out).mono ?_
                rintro e w3 ⟨rfl, hb3⟩
                go_wp2_with fail
                go_ret2
                exact ⟨by rw [HR.out]; rfl, Bsnoc HB.out hb3⟩
              · have HR := Lib.hid (show cookieV s = .tuple #[.int .i64 0, .bool false] by rw [HV.out]; unfold fdV; rw [HCE.out, if_neg (fun h => hv h.2.2)])
                have HVC := Lib.hid hv
                clear HV HCE hall hv
                go_wp2_with fail
                refine (repoch_no (y) m d h n x _ HVC.out).mono ?_
                rintro e w3 ⟨rfl, hb3⟩
                go_wp2_with fail
                go_ret2
                exact ⟨by rw [HR.out]; rfl, Bsnoc HB.out hb3⟩
        · have HCE := Lib.hid (show cent y = y + 2000 from by unfold cent; rw [if_neg (by omega), if_pos (by omega)])
          have g6 : y ≤ 69 := by omega
          have hlow : ¬ (y + 2000 < 1601) := by omega
          · by_cases hv : vclk (y + 2000) m d h n x
            · have HR := Lib.hid (show cookieV s = .tuple #[.int .i64 (secs (y + 2000) m d h n x), .bool true] by rw [HV.out]; unfold fdV; rw [HCE.out, if_pos ⟨hall, by omega, hv⟩])
              have HVC := Lib.hid hv
              clear HV HCE hall hv
              go_wp2_with fail
              refine (repoch_yes (y + 2000) m d h n x _ HVC.out).mono ?_
              rintro e w3 ⟨rfl, hb3⟩
              go_wp2_with fail
              go_ret2
              exact ⟨by rw [HR.out]; rfl, Bsnoc (HB.out.setCell (Nat.le_refl _) (.int .i64 (y + 2000))) hb3⟩
            · have HR := Lib.hid (show cookieV s = .tuple #[.int .i64 0, .bool false] by rw [HV.out]; unfold fdV; rw [HCE.out, if_neg (fun h => hv h.2.2)])
              have HVC := Lib.hid hv
              clear HV HCE hall hv
              go_wp2_with fail
              refine (repoch_no (y + 2000) m d h n x _ HVC.out).mono ?_
              rintro e w3 ⟨rfl, hb3⟩
              go_wp2_with fail
              go_ret2
              exact ⟨by rw [HR.out]; rfl, Bsnoc (HB.out.setCell (Nat.le_refl _) (.int .i64 (y + 2000))) hb3⟩
end Go.Proofs.Ytfbildneagjccaa
