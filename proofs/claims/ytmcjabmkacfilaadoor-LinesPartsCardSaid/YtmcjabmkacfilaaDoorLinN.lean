/- The contract of lines.Unpercent. -/
import Derived.Test.YtmcjabmkacfilaaDoorLinM
import Derived.StillTailTactics
namespace Go.Proofs.YtmcjabmkacfilaaDoor
open Go.RowKit Go.Shelf

theorem ixh_any (d : UInt8) (w : World) : Calls Tryd.prog 30 #[.string ⟨#[48, 49, 50, 51, 52, 53, 54, 55, 56, 57, 65, 66, 67, 68, 69, 70]⟩, .int .u8 (d.toNat : Int)] w fun e w' => e = .returned (.int .i64 (Lib.indexByte (bs ⟨#[48, 49, 50, 51, 52, 53, 54, 55, 56, 57, 65, 66, 67, 68, 69, 70]⟩) d)) ∧ w' = w :=
  (ixb_any ⟨#[48, 49, 50, 51, 52, 53, 54, 55, 56, 57, 65, 66, 67, 68, 69, 70]⟩ d w).mono (fun _ _ h => ⟨h.1, h.2.symm⟩)
/-- What Unpercent makes of two bytes. -/
def combI (d e : UInt8) : Int := IntKind.u8.wrap (bits BinOp.or IntKind.i64 (IntKind.i64.wrap (Lib.indexByte (bs ⟨#[48, 49, 50, 51, 52, 53, 54, 55, 56, 57, 65, 66, 67, 68, 69, 70]⟩) d * 16)) (Lib.indexByte (bs ⟨#[48, 49, 50, 51, 52, 53, 54, 55, 56, 57, 65, 66, 67, 68, 69, 70]⟩) e))
def comb (d e : UInt8) : UInt8 := UInt8.ofNat (combI d e).toNat
theorem comb_int (d e : UInt8) : combI d e = ((comb d e).toNat : Int) := by
  have h : 0 ≤ combI d e ∧ combI d e < 256 := by unfold combI; rw [IntKind.wrap_u8]; omega
  unfold comb
  rw [UInt8.toNat_ofNat_of_lt' (by show (combI d e).toNat < 256; omega)]
  omega
def unpA : List UInt8 → Option (List UInt8)
  | [] => some []
  | c :: l => if c = 37 then match l with
      | d :: e :: l' => (unpA l').map (comb d e :: ·)
      | _ => none
    else (unpA l).map (c :: ·)
def unpctO (s : ByteArray) : Option ByteArray := match unpA (bs s) with
  | none => none
  | some t => if pctS (mk t) = s then some (mk t) else none
theorem unpA_plain {c : UInt8} {l : List UInt8} (h : c ≠ 37) : unpA (c :: l) = (unpA l).map (c :: ·) := by
  conv => lhs; unfold unpA
  exact if_neg h
theorem unpA_two {d e : UInt8} {l : List UInt8} : unpA (37 :: d :: e :: l) = (unpA l).map (comb d e :: ·) := by
  conv => lhs; unfold unpA
  rfl
theorem unpA_end {l : List UInt8} (h : l.length < 2) : unpA (37 :: l) = none := by
  match l, h with
  | [], _ => unfold unpA; rfl
  | [d], _ => unfold unpA; rfl
def PA (s : ByteArray) (t : List UInt8) (k : Nat) : Prop := unpA (bs s) = (unpA ((bs s).drop k)).map (t ++ ·)
theorem PA.start (s : ByteArray) : PA s [] 0 := by unfold PA; rw [List.drop_zero]; cases unpA (bs s) <;> simp
theorem PA.plain {s : ByteArray} {t : List UInt8} {k : Nat} (h : PA s t k) (hk : k < s.size) (hc : s[k] ≠ 37) : PA s (t ++ [s[k]]) (k + 1) := by
  unfold PA at *
  rw [h, drop_at s k hk, unpA_plain hc, opt_step]
theorem PA.two {s : ByteArray} {t : List UInt8} {k : Nat} (h : PA s t k) (hk : k + 2 < s.size) (hc : s[k] = 37) : PA s (t ++ [comb s[k + 1] s[k + 2]]) (k + 3) := by
  unfold PA at *
  rw [h, drop_at s k (by omega), drop_at s (k + 1) (by omega), drop_at s (k + 2) hk, hc, unpA_two, opt_step]
theorem PA.last {s : ByteArray} {t : List UInt8} {k : Nat} (h : PA s t k) (hk : k < s.size) (hk2 : s.size ≤ k + 2) (hc : s[k] = 37) : unpctO s = none := by
  unfold PA at h
  unfold unpctO
  rw [h, drop_at s k hk, hc, unpA_end (by rw [List.length_drop, ← size_bs]; omega)]
  rfl
theorem PA.done {s : ByteArray} {t : List UInt8} {k : Nat} (h : PA s t k) (hk : s.size ≤ k) : unpctO s = if pctS (mk t) = s then some (mk t) else none := by
  unfold PA at h
  rw [drop_end s k hk] at h
  unfold unpctO
  rw [h]
  simp [unpA]
set_option maxRecDepth 100000 in
set_option maxHeartbeats 4000000 in
theorem unpercent_any (s : ByteArray) (w : World) (hs : s.size ≤ 1000000) : Calls Tryd.prog 25 #[.string s] w fun e w' => e = .returned (optV (unpctO s)) ∧ Below w.heap.size w w' := by
  obtain ⟨i0, hi, hz0, hz1, hz2⟩ := info_parts info5
  have own0 : w.ownsRow w.heap.size 5 1 (.slice none 0 0) 0 [] := World.ownsRow_nil w _ _ _
  go_enter Tryd.func25, Tryd.ntmps25
  go_wp2_with fail
  go_loopw [4, 5, 6] (fun v i _ wr => ∃ (k : Nat) (t : List UInt8), k ≤ s.size ∧ i = .int .i64 k ∧ Hid (PA s t k) ∧ t.length ≤ k ∧ wr.ownsRow w.heap.size 5 1 v t.length (cellsU t) ∧ Below w.heap.size w wr) (fun _ i _ _ => s.size - (intOf i).toNat)
  case atStart => exact ⟨0, [], Nat.zero_le _, rfl, Lib.hid (PA.start s), Nat.le_refl _, own0, Below.refl _ _⟩
  case round =>
    obtain ⟨k, t, hk, rfl, HU, ht, hown, hb⟩ := hrel
    clear own0
    have hz := hb.size
    by_cases hlt : k < s.size
    · by_cases hc : s[k] = 37
      · have e1 : (s[k].toNat : Int) = 37 := by rw [hc]; rfl
        have e2 : ((s[k].toNat : Int) == 37) = true := by rw [e1]; rfl
        by_cases hlt2 : k + 2 < s.size
        · have HN := Lib.hid (HU.out.two hlt2 hc)
          have hcb : IntKind.u8.wrap (bits BinOp.or IntKind.i64 (IntKind.i64.wrap (Lib.indexByte (bs ⟨#[48, 49, 50, 51, 52, 53, 54, 55, 56, 57, 65, 66, 67, 68, 69, 70]⟩) s[k + 1] * 16)) (Lib.indexByte (bs ⟨#[48, 49, 50, 51, 52, 53, 54, 55, 56, 57, 65, 66, 67, 68, 69, 70]⟩) s[k + 2])) = ((comb s[k + 1] s[k + 2]).toNat : Int) := comb_int s[k + 1] s[k + 2]
          have HCB := Lib.hid hcb
          have own1 := hown.alloc (.cells #[.int .u8 ((comb s[k + 1] s[k + 2]).toNat : Int)] 5)
          clear HU hc hcb
          have g1 : ¬ ((k : Int) + 2 ≥ s.size) := by omega
          have w1 : IntKind.i64.wrap ((k : Int) + 1) = (k : Int) + 1 := by rw [IntKind.wrap_i64]; omega
          have w2 : IntKind.i64.wrap ((k : Int) + 2) = (k : Int) + 2 := by rw [IntKind.wrap_i64]; omega
          have b1 : 0 ≤ (k : Int) + 1 := by omega
          have b2 : (k : Int) + 1 < s.size := by omega
          have b3 : 0 ≤ (k : Int) + 2 := by omega
          have b4 : (k : Int) + 2 < s.size := by omega
          go_upto_region 9 with fail
          refine wp_region_still_lit (by kernel_rfl) (by kernel_rfl) ?_
          still_step
          still_step
          still_step
          still_step
          still_call (ixh_any s[k + 1] _)
          still_step
          still_step
          still_step
          still_step
          still_step
          still_call (ixh_any s[k + 2] _)
          still_step
          still_step
          still_step
          refine wpStill_nil ?_
          rw [HCB.out]
          have own2 : ({ heap := wr.heap, tape := wr.tape, drawn := wr.drawn + 1, os := wr.os, output := wr.output } : World).ownsRow w.heap.size 5 1 u4 t.length (cellsU t) := hown
          have hb2 : Below w.heap.size w ({ heap := wr.heap, tape := wr.tape, drawn := wr.drawn + 1, os := wr.os, output := wr.output } : World) := Below.drew hb
          generalize ({ heap := wr.heap, tape := wr.tape, drawn := wr.drawn + 1, os := wr.os, output := wr.output } : World) = wd at *
          clear own1 hown hb HCB
          have hz := hb2.size
          have hb := hb2
          have own1 := own2.alloc (.cells #[.int .u8 ((comb s[k + 1] s[k + 2]).toNat : Int)] 5)
          clear hb2 own2
          generalize comb s[k + 1] s[k + 2] = cc at *
          go_wp2_with (at_builtin; refine wpList_append_own _ rfl (.tmp 39) (.tmp 41) 37 rfl w.heap.size 5 i0 (.int .u8 0) 1 1 Tryd.underlying37 hi hz0 hz1 hz2 rfl (by decide) u4 t.length (cellsU t) rfl own1 ⟨wd.heap.size, 0, none⟩ 1 1 [.int .u8 (cc.toNat : Int)] rfl ?c1 ?c2 ?c3 ?c4 ?c5 ?c6 ?_)
          try (case c1 => simp)
          try (case c2 => exact cell_one_new _ _ _)
          case c3 => first | (intro u hu; simp at hu; subst hu; rfl) | rfl
          case c4 => unfold maxLen; omega
          case c5 => omega
          case c6 => first | (simp; omega) | omega
          intro v2 w2 hown2 hg2 hne2
          have hb2 : Below w.heap.size w w2 := (hb.alloc hz _).grown hg2 (by simp; omega) (fun k hk => (own1.lt k hk).1)
          clear hg2 hne2 own1
          go_wp2_with fail
          go_roundw
          case rel => exact ⟨k + 3, t ++ [cc], by omega, by go_num, HN, by rw [List.length_append, List.length_singleton]; omega, by rw [List.length_append, List.length_singleton]; exact (show cellsU (t ++ [cc]) = cellsU t ++ [.int .u8 (cc.toNat : Int)] from by unfold cellsU; rw [List.map_append]; rfl) ▸ hown2, hb2⟩
          case measure => simp [intOf]; omega
        · have HN := Lib.hid (HU.out.last hlt (by omega) hc)
          have g1 : (k : Int) + 2 ≥ s.size := by omega
          clear HU hc
          go_wp2_with fail
          go_ret2
          exact ⟨by rw [HN.out]; rfl, hb⟩
      · obtain ⟨e1, e2⟩ := ne_int (n := 37) (by decide) hc
        have HN := Lib.hid (HU.out.plain hlt hc)
        have own1 := hown.alloc (.cells #[.int .u8 (s[k].toNat : Int)] 5)
        clear HU hc hown
        go_wp2_with (at_builtin; refine wpList_append_own _ rfl (.tmp 39) (.tmp 41) 37 rfl w.heap.size 5 i0 (.int .u8 0) 1 1 Tryd.underlying37 hi hz0 hz1 hz2 rfl (by decide) u4 t.length (cellsU t) rfl own1 ⟨wr.heap.size, 0, none⟩ 1 1 [.int .u8 (s[k].toNat : Int)] rfl ?d1 ?d2 ?d3 ?d4 ?d5 ?d6 ?_)
        try (case d1 => simp)
        try (case d2 => exact cell_one_new _ _ _)
        case d3 => first | (intro u hu; simp at hu; subst hu; rfl) | rfl
        case d4 => unfold maxLen; omega
        case d5 => omega
        case d6 => first | (simp; omega) | omega
        intro v2 w2 hown2 hg2 hne2
        have hb2 : Below w.heap.size w w2 := (hb.alloc hz _).grown hg2 (by simp; omega) (fun k hk => (own1.lt k hk).1)
        clear hg2 hne2 own1
        go_wp2_with fail
        go_roundw
        case rel => exact ⟨k + 1, t ++ [s[k]], by omega, by go_num, HN, by rw [List.length_append, List.length_singleton]; omega, by rw [List.length_append, List.length_singleton]; exact (show cellsU (t ++ [s[k]]) = cellsU t ++ [.int .u8 (s[k].toNat : Int)] from by unfold cellsU; rw [List.map_append]; rfl) ▸ hown2, hb2⟩
        case measure => simp [intOf]; omega
    · obtain rfl : k = s.size := by omega
      have HD := Lib.hid (HU.out.done (Nat.le_refl _))
      have hcv := conv_own hown
      have htz : (mk t).size ≤ 1000000 := by rw [size_mk]; omega
      clear HU hown
      by_cases he : pctS (mk t) = s
      · have HE := Lib.hid he
        have HN := Lib.hid (show unpctO s = some (mk t) by rw [HD.out, if_pos he])
        clear HD he
        go_wp2_with fail
        refine (percent_any (mk t) _ htz).mono ?_
        rintro e w1 ⟨rfl, hb1⟩
        rw [HE.out]
        go_wp2_with fail
        go_ret2
        exact ⟨by rw [HN.out]; rfl, Lsnoc hb hb1⟩
      · have HE := Lib.hid he
        have HN := Lib.hid (show unpctO s = none by rw [HD.out, if_neg he])
        clear HD he
        go_wp2_with fail
        refine (percent_any (mk t) _ htz).mono ?_
        rintro e w1 ⟨rfl, hb1⟩
        have he := str_ne HE.out
        go_wp2_with fail
        go_ret2
        exact ⟨by rw [HN.out]; rfl, Lsnoc hb hb1⟩
end Go.Proofs.YtmcjabmkacfilaaDoor
