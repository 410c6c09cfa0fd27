/- The contract of the reference's Unpercent: the walk. -/
import Derived.Test.YtmcjabmkacfilaaDoorLinZE
namespace Go.Proofs.YtmcjabmkacfilaaDoor
open Go.RowKit Go.Shelf

set_option maxRecDepth 100000 in
set_option maxHeartbeats 1000000 in
theorem runpercent_any (s : ByteArray) (w : World) (hs : s.size ≤ 1000000) : Calls Tryd.prog 26 #[.string s] w fun e w' => e = .returned (optV (unpctO s)) ∧ Below w.heap.size w w' := by
  obtain ⟨i0, hi, hz0, hz1, hz2⟩ := info_parts info5
  have own0 : w.ownsRow w.heap.size 5 1 (.slice none 0 0) 0 [] := World.ownsRow_nil w _ _ _
  go_enter Tryd.func26, Tryd.ntmps26
  go_wp2_with fail
  go_loopw [4, 5, 6, 7, 8, 9] (fun v i _ _ _ _ wr => ∃ (k : Nat) (t : List UInt8), k ≤ s.size ∧ i = .int .i64 k ∧ Hid (PB s t k) ∧ t.length ≤ k ∧ wr.ownsRow w.heap.size 5 1 v t.length (cellsU t) ∧ Below w.heap.size w wr) (fun _ i _ _ _ _ _ => s.size - (intOf i).toNat)
  case atStart => exact ⟨0, [], Nat.zero_le _, rfl, Lib.hid (PB.start s), Nat.le_refl _, own0, Below.refl _ _⟩
  case round =>
    obtain ⟨k, t, hk, rfl, HU, ht, hown, hb⟩ := hrel
    clear own0
    have hz := hb.size
    by_cases hlt : k < s.size
    · cases hsf : safeB s[k]
      · have HS := Lib.hid hsf
        have HB := Lib.hid (HU.out.bad hlt hsf)
        by_cases hc : s[k] = 37
        · have e1 : (s[k].toNat : Int) = 37 := by rw [hc]; rfl
          have e2 : ((s[k].toNat : Int) != 37) = false := by rw [e1]; rfl
          have S37 : ∀ W, Calls Tryd.prog 43 #[.int .u8 37] W fun e w' => e = .returned (.bool (safeB 37)) ∧ W = w' := rsafe_any 37
          have H37 := Lib.hid (show safeB 37 = false by decide +kernel)
          by_cases hlt2 : k + 2 < s.size
          · have m1 : ¬ ((s.size : Int) - (k : Int) < 3) := by omega
            have m2 : decide ((s.size : Int) - (k : Int) < 3) = false := decide_eq_false m1
            cases ha : valO s[k + 1] with
            | none =>
              have HA := Lib.hid (show valV (valO s[k + 1]) = .tuple #[.int .u8 0, .bool false] by rw [ha]; rfl)
              have HN := Lib.hid (HB.out (fun _ _ a b ha2 => by rw [ha] at ha2; cases ha2))
              have HV : Hid (valV (valO s[k + 2]) = .tuple #[.int .u8 (((valO s[k + 2]).getD 0 : Nat) : Int), .bool (valO s[k + 2]).isSome]) := Lib.hid rfl
              clear ha HB HU hc hsf
              generalize (valO s[k + 2]).getD 0 = vb at *
              generalize (valO s[k + 2]).isSome = bb at *
              go_wp2_with fail
              refine (S37 _).mono ?_
              rintro e w1 ⟨rfl, rfl⟩
              rw [H37.out]
              go_wp2_with fail
              refine (rvalue_any s[k + 1] _).mono ?_
              rintro e w1 ⟨rfl, rfl⟩
              rw [HA.out]
              go_wp2_with fail
              refine (rvalue_any s[k + 2] _).mono ?_
              rintro e w1 ⟨rfl, rfl⟩
              rw [HV.out]
              go_wp2_with fail
              go_ret2
              exact ⟨by rw [HN.out]; rfl, hb⟩
            | some a =>
              obtain ⟨a16, -⟩ := val_some ha
              have HA : Hid (valV (valO s[k + 1]) = .tuple #[.int .u8 (a : Int), .bool true]) := Lib.hid (by rw [ha]; rfl)
              cases hb2 : valO s[k + 2] with
              | none =>
                have HV := Lib.hid (show valV (valO s[k + 2]) = .tuple #[.int .u8 0, .bool false] by rw [hb2]; rfl)
                have HN := Lib.hid (HB.out (fun _ _ a b _ hb3 => by rw [hb2] at hb3; cases hb3))
                clear ha hb2 HB HU hc hsf
                go_wp2_with fail
                refine (S37 _).mono ?_
                rintro e w1 ⟨rfl, rfl⟩
                rw [H37.out]
                go_wp2_with fail
                refine (rvalue_any s[k + 1] _).mono ?_
                rintro e w1 ⟨rfl, rfl⟩
                rw [HA.out]
                go_wp2_with fail
                refine (rvalue_any s[k + 2] _).mono ?_
                rintro e w1 ⟨rfl, rfl⟩
                rw [HV.out]
                go_wp2_with fail
                go_ret2
                exact ⟨by rw [HN.out]; rfl, hb⟩
              | some b =>
                obtain ⟨b16, -⟩ := val_some hb2
                have HV : Hid (valV (valO s[k + 2]) = .tuple #[.int .u8 (b : Int), .bool true]) := Lib.hid (by rw [hb2]; rfl)
                have hn : ((UInt8.ofNat (16 * a + b)).toNat : Int) = 16 * (a : Int) + (b : Int) := by rw [UInt8.toNat_ofNat_of_lt' (by show 16 * a + b < 256; omega)]; omega
                cases hs2 : safeB (UInt8.ofNat (16 * a + b))
                · have HQ := Lib.hid hs2
                  have HN := Lib.hid (HU.out.two hlt2 hc ha hb2 hs2)
                  have HC := Lib.hid hn
                  have own1 := hown.alloc (.cells #[.int .u8 (16 * (a : Int) + (b : Int))] 5)
                  clear ha hb2 HB HU hc hsf hs2 hown
                  go_wp2_with fail
                  refine (S37 _).mono ?_
                  rintro e w1 ⟨rfl, rfl⟩
                  rw [H37.out]
                  go_wp2_with fail
                  refine (rvalue_any s[k + 1] _).mono ?_
                  rintro e w1 ⟨rfl, rfl⟩
                  rw [HA.out]
                  go_wp2_with fail
                  refine (rvalue_any s[k + 2] _).mono ?_
                  rintro e w1 ⟨rfl, rfl⟩
                  rw [HV.out]
                  have HS2 : ∀ W, Calls Tryd.prog 43 #[.int .u8 (16 * (a : Int) + (b : Int))] W fun e w' => e = .returned (.bool (safeB (UInt8.ofNat (16 * a + b)))) ∧ W = w' := fun W => by rw [← hn]; exact rsafe_any _ W
                  go_wp2_with fail
                  refine (HS2 _).mono ?_
                  rintro e w1 ⟨rfl, rfl⟩
                  rw [HQ.out]
                  clear HS2
                  clear hn
                  go_wp2_with (at_builtin; refine wpList_append_own _ rfl (.tmp 66) (.tmp 71) 37 rfl w.heap.size 5 i0 (.int .u8 0) 1 1 Tryd.underlying37 hi hz0 hz1 hz2 rfl (by decide) u4 t.length (cellsU t) rfl own1 ⟨wr.heap.size, 0, none⟩ 1 1 [.int .u8 (16 * (a : Int) + (b : Int))] rfl ?b1 ?b2 ?b3 ?b4 ?b5 ?b6 ?_)
                  try (case b1 => simp)
                  try (case b2 => exact cell_one_new _ _ _)
                  case b3 => first | (intro u hu; simp at hu; subst hu; rfl) | rfl
                  case b4 => unfold maxLen; omega
                  case b5 => omega
                  case b6 => first | (simp; omega) | omega
                  intro v2 w2 hown2 hg2 hne2
                  have hb2 : Below w.heap.size w w2 := (hb.alloc hz _).grown hg2 (by simp; omega) (fun k hk => (own1.lt k hk).1)
                  clear hg2 hne2 own1
                  go_wp2_with fail
                  go_roundw
                  case rel => exact ⟨k + 3, t ++ [UInt8.ofNat (16 * a + b)], by omega, by go_num, HN, by rw [List.length_append, List.length_singleton]; omega, by rw [List.length_append, List.length_singleton]; exact (show cellsU (t ++ [UInt8.ofNat (16 * a + b)]) = cellsU t ++ [.int .u8 (16 * (a : Int) + (b : Int))] from by unfold cellsU; rw [List.map_append, List.map_singleton, HC.out]) ▸ hown2, hb2⟩
                  case measure => simp [intOf]; omega
                · have HQ := Lib.hid hs2
                  have HN := Lib.hid (HB.out (fun _ _ a' b' ha' hb' => by rw [ha] at ha'; rw [hb2] at hb'; injection ha' with ha'; injection hb' with hb'; subst ha' hb'; exact hs2))
                  clear ha hb2 HB HU hc hsf hs2
                  go_wp2_with fail
                  refine (S37 _).mono ?_
                  rintro e w1 ⟨rfl, rfl⟩
                  rw [H37.out]
                  go_wp2_with fail
                  refine (rvalue_any s[k + 1] _).mono ?_
                  rintro e w1 ⟨rfl, rfl⟩
                  rw [HA.out]
                  go_wp2_with fail
                  refine (rvalue_any s[k + 2] _).mono ?_
                  rintro e w1 ⟨rfl, rfl⟩
                  rw [HV.out]
                  have HS2 : ∀ W, Calls Tryd.prog 43 #[.int .u8 (16 * (a : Int) + (b : Int))] W fun e w' => e = .returned (.bool (safeB (UInt8.ofNat (16 * a + b)))) ∧ W = w' := fun W => by rw [← hn]; exact rsafe_any _ W
                  go_wp2_with fail
                  refine (HS2 _).mono ?_
                  rintro e w1 ⟨rfl, rfl⟩
                  rw [HQ.out]
                  clear HS2
                  go_wp2_with fail
                  go_ret2
                  exact ⟨by rw [HN.out]; rfl, hb⟩
          · have m1 : (s.size : Int) - (k : Int) < 3 := by omega
            have m2 : decide ((s.size : Int) - (k : Int) < 3) = true := decide_eq_true m1
            have HN := Lib.hid (HB.out (fun _ h => absurd h hlt2))
            clear HB HU hc hsf
            go_wp2_with fail
            refine (S37 _).mono ?_
            rintro e w1 ⟨rfl, rfl⟩
            rw [H37.out]
            go_wp2_with fail
            go_ret2
            exact ⟨by rw [HN.out]; rfl, hb⟩
        · obtain ⟨e1, e2⟩ := ne_int (n := 37) (by decide) hc
          have e3 : ((s[k].toNat : Int) != 37) = true := by rw [bne, show ((s[k].toNat : Int) == 37) = false from e1]; rfl
          have HN := Lib.hid (HB.out (fun h => absurd h hc))
          clear HB HU hc hsf
          go_wp2_with fail
          refine (rsafe_any s[k] _).mono ?_
          rintro e w1 ⟨rfl, rfl⟩
          rw [HS.out]
          go_wp2_with fail
          go_ret2
          exact ⟨by rw [HN.out]; rfl, hb⟩
      · have HS := Lib.hid hsf
        have HN := Lib.hid (HU.out.plain hlt hsf)
        have own1 := hown.alloc (.cells #[.int .u8 (s[k].toNat : Int)] 5)
        clear HU hsf hown
        go_wp2_with fail
        refine (rsafe_any s[k] _).mono ?_
        rintro e w1 ⟨rfl, rfl⟩
        rw [HS.out]
        go_wp2_with (at_builtin; refine wpList_append_own _ rfl (.tmp 20) (.tmp 24) 37 rfl w.heap.size 5 i0 (.int .u8 0) 1 1 Tryd.underlying37 hi hz0 hz1 hz2 rfl (by decide) u4 t.length (cellsU t) rfl own1 ⟨wr.heap.size, 0, none⟩ 1 1 [.int .u8 (s[k].toNat : Int)] rfl ?c1 ?c2 ?c3 ?c4 ?c5 ?c6 ?_)
        try (case c1 => simp)
        try (case c2 => exact cell_one_new _ _ _)
        case c3 => first | (intro u hu; simp at hu; subst hu; rfl) | rfl
        case c4 => unfold maxLen; omega
        case c5 => omega
        case c6 => first | (simp; omega) | omega
        intro v2 w2 hown2 hg2 hne2
        have hb2 : Below w.heap.size w w2 := (hb.alloc hz _).grown hg2 (by simp; omega) (fun k hk => (own1.lt k hk).1)
        clear hg2 hne2 own1
        go_wp2_with fail
        go_roundw
        case rel => exact ⟨k + 1, t ++ [s[k]], by omega, by go_num, HN, by rw [List.length_append, List.length_singleton]; omega, by rw [List.length_append, List.length_singleton]; exact (show cellsU (t ++ [s[k]]) = cellsU t ++ [.int .u8 (s[k].toNat : Int)] from by unfold cellsU; rw [List.map_append]; rfl) ▸ hown2, hb2⟩
        case measure => simp [intOf]; omega
    · obtain rfl : k = s.size := by omega
      have HN := Lib.hid (HU.out.done (Nat.le_refl _))
      have hcv := conv_own hown
      clear HU hown
      go_wp2_with fail
      go_ret2
      exact ⟨by rw [HN.out]; rfl, hb⟩
end Go.Proofs.YtmcjabmkacfilaaDoor
