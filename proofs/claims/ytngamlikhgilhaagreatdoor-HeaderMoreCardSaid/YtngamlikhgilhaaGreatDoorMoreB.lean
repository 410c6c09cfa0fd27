/- The statement HeaderMore: the walk. -/
import Derived.Test.YtngamlikhgilhaaGreatDoorMoreA
namespace Go.Proofs.YtngamlikhgilhaaGreatDoor
open Go.RowKit Go.Shelf

theorem i64_in {n : Int} (h : (Lit.int .i64 n).wf = true) : -9223372036854775808 ≤ n ∧ n ≤ 9223372036854775807 := by
  simpa [Lit.wf, IntKind.min, IntKind.max, IntKind.bits, IntKind.signed] using h
theorem parV_open (o : Option Hd) : ∃ (h : Hd) (d : Bool), parV o = .tuple #[.agg #[.string h.nm, .string h.vl, .string h.dm, .string h.pt, .int .i64 h.ex, .bool h.se, .bool h.ho, .int .i64 h.st], .bool d] := ⟨o.getD zH, o.isSome, rfl⟩
set_option maxHeartbeats 1000000 in
set_option maxRecDepth 100000 in
theorem headerMore_any (s more : ByteArray) (now : Int) (w : World) (_ : s.size ≤ 140737488351232) (_ : more.size ≤ 140737488351232) (hnow : (Lit.int .i64 now).wf = true) (hm : HasMax w) :
    Calls Tryz.prog 5 #[.string s, .string more, .int .i64 now] w fun e w' => e = .returned (.bool true) ∧ Below w.heap.size w w' := by
  obtain ⟨hn0, hn1⟩ := i64_in hnow
  clear hnow
  have HM := Lib.hid (fun w1 (h : Below w.heap.size w w1) => max_keep hm h)
  clear hm
  by_cases hbig : 500 < s.size
  · go_enter Tryz.func5, Tryz.ntmps5
    go_wp2_with fail
    refine (alive_any _ (HM.out _ (Below.refl _ _))).mono ?_
    rintro e w' ⟨rfl, hb⟩
    go_wp2_with fail
    go_ret
    exact ⟨rfl, hb⟩
  have hbig1 : s.size ≤ 500 := by omega
  by_cases hbig2 : 500 < more.size
  · go_enter Tryz.func5, Tryz.ntmps5
    go_wp2_with fail
    refine (alive_any _ (HM.out _ (Below.refl _ _))).mono ?_
    rintro e w' ⟨rfl, hb⟩
    go_wp2_with fail
    go_ret
    exact ⟨rfl, hb⟩
  have hbig3 : more.size ≤ 500 := by omega
  have hA : (mk (cutL 61 (bs more)).1).size ≤ 9223372036854775807 := by
    have h1 := (cutL_len 61 (bs more)).1
    rw [size_mk]
    rw [← size_bs] at h1
    omega
  have HK := Lib.hid (fun W => rknown_any _ W hA)
  have HL := Lib.hid (fun (h1 : (cutL 59 (bs more)).2.2 = false) (h2 : kindN (trimS (mk (cutL 61 (bs more)).1)) = 0) => par_more0 s more now h1 h2)
  have HC1 := Lib.hid (show cutV3 61 more = .tuple #[.string (mk (cutL 61 (bs more)).1), .string (mk (cutL 61 (bs more)).2.1), .bool (cutL 61 (bs more)).2.2] from rfl)
  have HC2 := Lib.hid (show cutV3 59 more = .tuple #[.string (mk (cutL 59 (bs more)).1), .string (mk (cutL 59 (bs more)).2.1), .bool (cutL 59 (bs more)).2.2] from rfl)
  generalize mk (cutL 61 (bs more)).1 = A at *
  generalize mk (cutL 61 (bs more)).2.1 = B1 at *
  generalize (cutL 61 (bs more)).2.2 = z1 at *
  generalize mk (cutL 59 (bs more)).1 = A2 at *
  generalize mk (cutL 59 (bs more)).2.1 = B2 at *
  generalize (cutL 59 (bs more)).2.2 = z2 at *
  generalize kindN (trimS A) = m at *
  cases z2
  · by_cases hk : m = 0
    · have HX := Lib.hid (HL.out rfl hk)
      have HK0 := Lib.hid (show (!(m == 0)) = false by rw [hk]; rfl)
      have e1 : (⟨#[59]⟩ : ByteArray).size = 1 := rfl
      have hz : (s ++ (⟨#[59]⟩ : ByteArray) ++ more).size ≤ 9223372036854775806 := by rw [ByteArray.size_append, ByteArray.size_append]; omega
      have HP := Lib.hid (fun W => par_any (s ++ (⟨#[59]⟩ : ByteArray) ++ more) now W hz hn0 hn1)
      have q1 : ¬ 9223372036854775807 < s.size + 1 := by omega
      have q2 : ¬ 9223372036854775807 < s.size + 1 + more.size := by omega
      obtain ⟨h, d, hv⟩ := parV_open (parH s now)
      have HV := Lib.hid hv
      clear hv e1 hz hk
      go_enter Tryz.func5, Tryz.ntmps5
      go_wp2_with fail
      refine (rcut61 more _ (by omega)).mono ?_
      rintro e v1 ⟨rfl, hb⟩
      rw [HC1.out]
      go_wp2_with fail
      refine (rcut59 more _ (by omega)).mono ?_
      rintro e v2 ⟨rfl, hu⟩
      rw [HC2.out]
      replace hb := hb.trans (hu.mono hb.size)
      clear hu
      go_wp2_with fail
      refine (HK.out _).mono ?_
      rintro e v3 ⟨rfl, hu⟩
      rw [HK0.out]
      replace hb := hb.trans (hu.mono hb.size)
      clear hu
      go_wp2_with fail
      refine (par_any s now _ (by omega) hn0 hn1).mono ?_
      rintro e w1 ⟨rfl, hu⟩
      rw [HV.out]
      have B1 := Lib.hid (BS.new w1 h 24)
      have HB1 := Lib.hid (hb.trans (hu.mono hb.size))
      have k1 := HB1.out.size
      clear hb hu
      go_wp2_with fail
      refine (HP.out _).mono ?_
      rintro e w2 ⟨rfl, hb2⟩
      rw [HX.out, HV.out]
      have B2 := Lib.hid (B1.out.keep (hb2.mono (by rw [World.size_alloc]; exact Nat.le_refl _)))
      clear B1 hb2
      go_wp2_with fail
      have hb3 := (Below.refl w2.heap.size w2).alloc (Nat.le_refl _) (.cells (hdL h).toArray 24)
      have B3 := Lib.hid (B2.out.keep (hb3.mono B2.out.sz))
      have C3 := Lib.hid (BS.new w2 h 24)
      clear B2 hb3
      refine (alive_any _ (HM.out _ (Below.trans HB1.out (B3.out.bel.mono k1)))).mono ?_
      rintro e w3 ⟨rfl, hb4⟩
      have B4 := Lib.hid (B3.out.keep (hb4.mono B3.out.sz))
      have C4 := Lib.hid (C3.out.keep (hb4.mono C3.out.sz))
      clear B3 C3 hb4
      obtain ⟨c0, c1, c2, c3, c4, c5, c6, c7⟩ := B4.out.cells
      obtain ⟨d0, d1, d2, d3, d4, d5, d6, d7⟩ := C4.out.cells
      go_wp2_with fail
      go_ret
      exact ⟨by simp, Below.trans HB1.out (B4.out.bel.mono k1)⟩
    · have HK0 := Lib.hid (show (!(m == 0)) = true by simp [hk])
      clear hk HL
      go_enter Tryz.func5, Tryz.ntmps5
      go_wp2_with fail
      refine (rcut61 more _ (by omega)).mono ?_
      rintro e v1 ⟨rfl, hb⟩
      rw [HC1.out]
      go_wp2_with fail
      refine (rcut59 more _ (by omega)).mono ?_
      rintro e v2 ⟨rfl, hu⟩
      rw [HC2.out]
      replace hb := hb.trans (hu.mono hb.size)
      clear hu
      go_wp2_with fail
      refine (HK.out _).mono ?_
      rintro e v3 ⟨rfl, hu⟩
      rw [HK0.out]
      replace hb := hb.trans (hu.mono hb.size)
      clear hu
      go_wp2_with fail
      refine (alive_any _ (HM.out _ hb)).mono ?_
      rintro e w3 ⟨rfl, hu⟩
      replace hb := hb.trans (hu.mono hb.size)
      clear hu
      go_wp2_with fail
      go_ret
      exact ⟨rfl, hb⟩
  · go_enter Tryz.func5, Tryz.ntmps5
    go_wp2_with fail
    refine (rcut61 more _ (by omega)).mono ?_
    rintro e v1 ⟨rfl, hb⟩
    rw [HC1.out]
    go_wp2_with fail
    refine (rcut59 more _ (by omega)).mono ?_
    rintro e v2 ⟨rfl, hu⟩
    rw [HC2.out]
    replace hb := hb.trans (hu.mono hb.size)
    clear hu
    go_wp2_with fail
    refine (alive_any _ (HM.out _ hb)).mono ?_
    rintro e w3 ⟨rfl, hu⟩
    replace hb := hb.trans (hu.mono hb.size)
    clear hu
    go_wp2_with fail
    go_ret
    exact ⟨rfl, hb⟩
end Go.Proofs.YtngamlikhgilhaaGreatDoor
