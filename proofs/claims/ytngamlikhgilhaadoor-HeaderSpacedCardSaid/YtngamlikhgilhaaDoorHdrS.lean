/- The statement HeaderSpaced: the walk. -/
import Derived.Test.YtngamlikhgilhaaDoorHdrI
import Derived.Test.YtngamlikhgilhaaDoorHdrR
namespace Go.Proofs.YtngamlikhgilhaaDoor
open Go.RowKit Go.Shelf

theorem i64_of {n : Int} (h : (Lit.int .i64 n).wf = true) : -9223372036854775808 ≤ n ∧ n ≤ 9223372036854775807 := by
  simpa [Lit.wf, IntKind.min, IntKind.max, IntKind.bits, IntKind.signed] using h
theorem parV_open (o : Option Hd) : ∃ (h : Hd) (d : Bool), parV o = .tuple #[.agg #[.string h.nm, .string h.vl, .string h.dm, .string h.pt, .int .i64 h.ex, .bool h.se, .bool h.ho, .int .i64 h.st], .bool d] := ⟨o.getD zH, o.isSome, rfl⟩
def spS (s : ByteArray) (k : Nat) : ByteArray := mk (32 :: 9 :: spL ((bs s).take k))
theorem hone_bs (s : ByteArray) (k : Nat) (hk : k < s.size) : bs (s.extract k (k + 1)) = [s[k]] := by
  rw [bs_extract, take_snoc s k hk, List.drop_left' (by rw [List.length_take, ← size_bs]; omega)]
theorem spS_part (s : ByteArray) (k : Nat) (hk : k < s.size) (h : s[k].toNat = 59) : spS s k ++ ⟨#[9, 32, 59, 32]⟩ = spS s (k + 1) := by
  apply bs_inj
  unfold spS
  rw [bs_append, bs_mk, bs_mk, take_snoc s k hk, spL_snoc, sp1, if_pos (UInt8.toNat.inj h)]
  rfl
theorem spS_else (s : ByteArray) (k : Nat) (hk : k < s.size) (h : s[k].toNat ≠ 59) : spS s k ++ s.extract k (k + 1) = spS s (k + 1) := by
  apply bs_inj
  rw [bs_append, hone_bs s k hk]
  unfold spS
  rw [bs_mk, bs_mk, take_snoc s k hk, spL_snoc, sp1, if_neg (fun h9 => h (by rw [h9]; rfl))]
  rfl
theorem spS_par (s : ByteArray) (now : Int) : parH (spS s s.size ++ ⟨#[32]⟩) now = parH s now := by
  apply par_spaced
  unfold spS
  rw [bs_append, bs_mk, size_bs, List.take_length]
  rfl
theorem spS_size (s : ByteArray) (k : Nat) : (spS s k).size ≤ 2 + 4 * k := by
  unfold spS
  rw [size_mk, List.length_cons, List.length_cons]
  have := spL_len ((bs s).take k)
  rw [List.length_take] at this
  omega
set_option maxHeartbeats 1000000 in
set_option maxRecDepth 100000 in
theorem headerSpaced_any (s : ByteArray) (now : Int) (w : World) (_ : s.size ≤ 140737488351232) (hnow : (Lit.int .i64 now).wf = true) (hm : HasMax w) :
    Calls Tryd.prog 5 #[.string s, .int .i64 now] w fun e w' => e = .returned (.bool true) ∧ Below w.heap.size w w' := by
  obtain ⟨hn0, hn1⟩ := i64_of hnow
  clear hnow
  have HM := Lib.hid (fun w1 (h : Below w.heap.size w w1) => max_keep hm h)
  clear hm
  by_cases hbig : 500 < s.size
  · go_enter Tryd.func5, Tryd.ntmps5
    go_wp2_with fail
    refine (alive_any _ (HM.out _ (Below.refl _ _))).mono ?_
    rintro e w' ⟨rfl, hb⟩
    go_wp2_with fail
    go_ret
    exact ⟨rfl, hb⟩
  go_enter Tryd.func5, Tryd.ntmps5
  go_wp2_with fail
  go_loop [5, 17] (fun t i => ∃ (k : Nat) (T : ByteArray), k ≤ s.size ∧ i = .int .i64 k ∧ t = .string T ∧ T.size ≤ 2 + 4 * k ∧ Hid (T = spS s k)) (fun _ i => s.size - (intOf i).toNat)
  case atStart => exact ⟨0, ⟨#[32, 9]⟩, Nat.zero_le _, rfl, rfl, by decide, Lib.hid rfl⟩
  case round =>
    obtain ⟨j, T, hj, rfl, rfl, hT, HT⟩ := hrel
    by_cases hlj : j < s.size
    · by_cases hc : s[j].toNat = 59
      · have HN := Lib.hid (show T ++ ⟨#[9, 32, 59, 32]⟩ = spS s (j + 1) by rw [HT.out]; exact spS_part s j hlj hc)
        have e4 : (⟨#[9, 32, 59, 32]⟩ : ByteArray).size = 4 := rfl
        have hz : ¬ 9223372036854775807 < T.size + 4 := by omega
        go_wp2_with fail
        go_round
        case rel => exact ⟨j + 1, _, by omega, by go_num, rfl, by rw [ByteArray.size_append]; omega, HN⟩
        case measure => simp [intOf]; omega
      · have hez : (s.extract j (j + 1)).size = 1 := by rw [size_bs, hone_bs s j hlj]; rfl
        have HN := Lib.hid (show T ++ s.extract j (j + 1) = spS s (j + 1) by rw [HT.out]; exact spS_else s j hlj hc)
        go_wp2_with fail
        go_round
        case rel => exact ⟨j + 1, _, by omega, by go_num, rfl, by rw [ByteArray.size_append, hez]; omega, HN⟩
        case measure => simp [intOf]; omega
    · obtain rfl : j = s.size := by omega
      have e1 : (⟨#[32]⟩ : ByteArray).size = 1 := rfl
      have HX := Lib.hid (show parH (T ++ ⟨#[32]⟩) now = parH s now by rw [HT.out]; exact spS_par s now)
      have hz : (T ++ (⟨#[32]⟩ : ByteArray)).size ≤ 9223372036854775806 := by rw [ByteArray.size_append]; omega
      have HP := Lib.hid (fun W => par_any (T ++ (⟨#[32]⟩ : ByteArray)) now W hz hn0 hn1)
      obtain ⟨h, d, hv⟩ := parV_open (parH s now)
      have HV := Lib.hid hv
      clear hv
      go_wp2_with fail
      refine (par_any s now _ (by omega) hn0 hn1).mono ?_
      rintro e w1 ⟨rfl, hb1⟩
      rw [HV.out]
      have B1 := Lib.hid (BS.new w1 h 23)
      have k1 := hb1.size
      have HB1 := Lib.hid hb1
      clear hb1
      go_wp2_with fail
      refine (HP.out _).mono ?_
      rintro e w2 ⟨rfl, hb2⟩
      rw [HX.out, HV.out]
      have B2 := Lib.hid (B1.out.keep (hb2.mono (by rw [World.size_alloc]; exact Nat.le_refl _)))
      clear B1 hb2
      go_wp2_with fail
      have hb3 := (Below.refl w2.heap.size w2).alloc (Nat.le_refl _) (.cells (hdL h).toArray 23)
      have B3 := Lib.hid (B2.out.keep (hb3.mono B2.out.sz))
      have C3 := Lib.hid (BS.new w2 h 23)
      clear B2 hb3
      refine (alive_any _ (HM.out _ (Below.trans HB1.out (B3.out.bel.mono k1)))).mono ?_
      rintro e w3 ⟨rfl, hb4⟩
      have B4 := Lib.hid (B3.out.keep (hb4.mono B3.out.sz))
      have C4 := Lib.hid (C3.out.keep (hb4.mono C3.out.sz))
      clear B3 C3 hb4
      obtain ⟨c0, c1, c2, c3, c4, c5, c6, c7⟩ := B4.out.cells
      obtain ⟨d0, d1, d2, d3, d4, d5, d6, d7⟩ := C4.out.cells
      go_wp2_with fail
      go_ret
      exact ⟨by simp, Below.trans HB1.out (B4.out.bel.mono k1)⟩
end Go.Proofs.YtngamlikhgilhaaDoor
