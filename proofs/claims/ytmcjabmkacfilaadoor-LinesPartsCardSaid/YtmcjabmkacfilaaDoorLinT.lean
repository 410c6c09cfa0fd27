/- Written by digits: the plain law; the walk of LinesPercents. -/
import Derived.Test.YtmcjabmkacfilaaDoorLinS
namespace Go.Proofs.YtmcjabmkacfilaaDoor
open Go.RowKit Go.Shelf

theorem comb_all : ∀ n : Fin 256, comb (hexB (n.val / 16)) (hexB (n.val % 16)) = UInt8.ofNat n.val := by decide +kernel
theorem comb_hex (c : UInt8) : comb (hexB (c.toNat / 16)) (hexB (c.toNat % 16)) = c := by
  rw [comb_all ⟨c.toNat, UInt8.toNat_lt c⟩]
  exact UInt8.ofNat_toNat
theorem unpA_pct (c : UInt8) (r : List UInt8) : unpA (pctB c ++ r) = (unpA r).map (c :: ·) := by
  unfold pctB
  by_cases h : safeB c = true
  · rw [if_pos h]
    refine unpA_plain (fun e => ?_)
    subst e
    exact absurd h (by decide +kernel)
  · rw [if_neg h]
    show unpA (37 :: hexB (c.toNat / 16) :: hexB (c.toNat % 16) :: r) = _
    rw [unpA_two, comb_hex]
theorem unpA_all : ∀ l : List UInt8, unpA (l.flatMap pctB) = some l
  | [] => by simp [unpA]
  | c :: l => by rw [List.flatMap_cons, unpA_pct, unpA_all l]; rfl
theorem unpct_pct (s : ByteArray) : unpctO (pctS s) = some s := by
  unfold unpctO
  rw [show bs (pctS s) = (bs s).flatMap pctB from rfl, unpA_all]
  simp only [mk_bs, if_true]
theorem pctS_app (s t : ByteArray) : pctS (s ++ t) = pctS s ++ pctS t := by
  unfold pctS
  rw [bs_append, List.flatMap_append, mk_append]
theorem pctS_size (s : ByteArray) : (pctS s).size ≤ 3 * s.size := by
  unfold pctS
  rw [size_mk, size_bs]
  exact flat_len pctB pctB_len (bs s)
set_option maxRecDepth 100000 in
set_option maxHeartbeats 4000000 in
theorem linesPercents_any (s t : ByteArray) (w : World) (_ : s.size ≤ 140737488351232) (_ : t.size ≤ 140737488351232) (hm : HasMax w) :
    Calls Tryd.prog 9 #[.string s, .string t] w fun e w' => e = .returned (.bool true) ∧ Below w.heap.size w w' := by
  have hal : ∀ W, HasMax W → Calls Tryd.prog 11 #[] W fun e w' => e = .returned (.bool true) ∧ Below W.heap.size W w' := alive_any
  by_cases hbig : 1000 < s.size
  · go_enter Tryd.func9, Tryd.ntmps9
    go_wp2_with fail
    refine (hal _ hm).mono ?_
    rintro e w1 ⟨rfl, hb1⟩
    go_wp2_with fail
    go_ret
    exact ⟨rfl, hb1⟩
  · by_cases hbig2 : 1000 < t.size
    · have d1 : decide ((1000 : Int) < s.size) = false := by simp; omega
      go_enter Tryd.func9, Tryd.ntmps9
      go_wp2_with fail
      refine (hal _ hm).mono ?_
      rintro e w1 ⟨rfl, hb1⟩
      go_wp2_with fail
      go_ret
      exact ⟨rfl, hb1⟩
    · have d1 : decide ((1000 : Int) < s.size) = false := by simp; omega
      have d2 : decide ((1000 : Int) < t.size) = false := by simp; omega
      have hz := pctS_size s
      have hz2 := pctS_size t
      have H1 := Lib.hid (show optV (unpctO (pctS s)) = .tuple #[.string s, .bool true] by rw [unpct_pct]; rfl)
      have H2 := Lib.hid (pctS_app s t)
      have hs1 : (s ++ t).size ≤ 9223372036854775807 := by rw [ByteArray.size_append]; omega
      have hs2 : s.size + t.size ≤ 9223372036854775807 := by omega
      have hs3 : (pctS s ++ pctS t).size ≤ 9223372036854775807 := by rw [ByteArray.size_append]; omega
      have hs4 : (pctS s).size + (pctS t).size ≤ 9223372036854775807 := by omega
      have hs5 : (s ++ t).size ≤ 1000000 := by rw [ByteArray.size_append]; omega
      go_enter Tryd.func9, Tryd.ntmps9
      go_wp2_with fail
      refine (percent_any s _ (by omega)).mono ?_
      rintro e w1 ⟨rfl, hb1⟩
      go_wp2_with fail
      refine (unpercent_any (pctS s) _ (by omega)).mono ?_
      rintro e w2 ⟨rfl, hb2⟩
      rw [H1.out]
      have hB2 := Lsnoc hb1 hb2
      clear hb1 hb2
      go_wp2_with fail
      refine (hal _ (max_keep hm hB2)).mono ?_
      rintro e w3 ⟨rfl, hb3⟩
      have hB3 := Lsnoc hB2 hb3
      clear hb3 hB2
      go_wp2_with fail
      refine (rpercent_any s _ (by omega)).mono ?_
      rintro e w4 ⟨rfl, hb4⟩
      have hB4 := Lsnoc hB3 hb4
      clear hb4 hB3
      go_wp2_with fail
      refine (percent_any (s ++ t) _ hs5).mono ?_
      rintro e w5 ⟨rfl, hb5⟩
      rw [H2.out]
      have hB5 := Lsnoc hB4 hb5
      clear hb5 hB4
      go_wp2_with fail
      refine (percent_any t _ (by omega)).mono ?_
      rintro e w6 ⟨rfl, hb6⟩
      have hB6 := Lsnoc hB5 hb6
      clear hb6 hB5
      go_wp2_with fail
      go_ret
      exact ⟨by simp, hB6⟩
end Go.Proofs.YtmcjabmkacfilaaDoor
