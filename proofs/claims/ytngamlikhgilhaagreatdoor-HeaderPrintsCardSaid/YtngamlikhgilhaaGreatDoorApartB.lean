/- The statement HeaderApart: the walk. -/
import Derived.Test.YtngamlikhgilhaaGreatDoorApartA
namespace Go.Proofs.YtngamlikhgilhaaGreatDoor
open Go.RowKit Go.Shelf

theorem two_hd (na va da pa : ByteArray) (xa : Int) (sa oa : Bool) (ta : Int) (nb vb db pb : ByteArray) (xb : Int) (sb ob : Bool) (tb : Int) (w : World) (t : TypeId) :
    ∃ v, v = (w.alloc (.cells #[.string na, .string va, .string da, .string pa, .int .i64 xa, .bool sa, .bool oa, .int .i64 ta] t)).alloc (.cells #[.string nb, .string vb, .string db, .string pb, .int .i64 xb, .bool sb, .bool ob, .int .i64 tb] t) ∧
      RB w.heap.size v ⟨na, va, da, pa, xa, sa, oa, ta⟩ ∧ RB (w.heap.size + 1) v ⟨nb, vb, db, pb, xb, sb, ob, tb⟩ ∧ Below w.heap.size w v := by
  obtain ⟨v, e, r1, _, hb, hz⟩ := box_hd na va da pa xa sa oa ta w w t (Below.refl _ _)
  obtain ⟨u, e2, r3, r4, hb2, _⟩ := box_hd nb vb db pb xb sb ob tb w v t hb
  exact ⟨u, by rw [e2, e], r4 _ _ r1, hz ▸ r3, hb2⟩
set_option maxHeartbeats 1000000 in
set_option maxRecDepth 100000 in
theorem apart_no (na va da pa : ByteArray) (xa : Int) (sa oa : Bool) (ta : Int) (nb vb db pb : ByteArray) (xb : Int) (sb ob : Bool) (tb : Int) (w : World)
    (hz : (na.size ≤ 140737488351232 ∧ va.size ≤ 140737488351232 ∧ da.size ≤ 140737488351232 ∧ pa.size ≤ 140737488351232) ∧ (nb.size ≤ 140737488351232 ∧ vb.size ≤ 140737488351232 ∧ db.size ≤ 140737488351232 ∧ pb.size ≤ 140737488351232)) (hm : HasMax w)
    (hno : 500 < na.size + va.size ∨ (na.size + va.size ≤ 500 ∧ 500 < nb.size + vb.size) ∨ (na.size + va.size ≤ 500 ∧ nb.size + vb.size ≤ 500 ∧ rightB ⟨na, va, da, pa, xa, sa, oa, ta⟩ = false) ∨
      (na.size + va.size ≤ 500 ∧ nb.size + vb.size ≤ 500 ∧ rightB ⟨na, va, da, pa, xa, sa, oa, ta⟩ = true ∧ rightB ⟨nb, vb, db, pb, xb, sb, ob, tb⟩ = false)) :
    Calls Tryz.prog 6 #[.agg #[.string na, .string va, .string da, .string pa, .int .i64 xa, .bool sa, .bool oa, .int .i64 ta], .agg #[.string nb, .string vb, .string db, .string pb, .int .i64 xb, .bool sb, .bool ob, .int .i64 tb]] w fun e w' => e = .returned (.bool true) ∧ Below w.heap.size w w' := by
  obtain ⟨⟨z1, z2, z3, z4⟩, z5, z6, z7, z8⟩ := hz
  have HM := Lib.hid (fun w1 (h : Below w.heap.size w w1) => max_keep hm h)
  clear hm
  have HA := Lib.hid (fun W => r16_all ⟨na, va, da, pa, xa, sa, oa, ta⟩ W (by dsimp only; omega) (by dsimp only; omega) (by dsimp only; omega) (by dsimp only; omega))
  have HB := Lib.hid (fun W => r16_all ⟨nb, vb, db, pb, xb, sb, ob, tb⟩ W (by dsimp only; omega) (by dsimp only; omega) (by dsimp only; omega) (by dsimp only; omega))
  rcases hno with h | ⟨g, h⟩ | ⟨g1, g2, h⟩ | ⟨g1, g2, h1, h⟩
  · go_enter Tryz.func6, Tryz.ntmps6
    go_wp2_with fail
    obtain ⟨v, ev, A1, A2, hb⟩ := two_hd na va da pa xa sa oa ta nb vb db pb xb sb ob tb w 27
    rw [← ev]
    refine (alive_any _ (HM.out _ hb)).mono ?_
    rintro e w' ⟨rfl, hu⟩
    go_wp2_with fail
    go_ret
    exact ⟨rfl, hb.trans (hu.mono hb.size)⟩
  · go_enter Tryz.func6, Tryz.ntmps6
    go_wp2_with fail
    obtain ⟨v, ev, A1, A2, hb⟩ := two_hd na va da pa xa sa oa ta nb vb db pb xb sb ob tb w 27
    rw [← ev]
    refine (alive_any _ (HM.out _ hb)).mono ?_
    rintro e w' ⟨rfl, hu⟩
    go_wp2_with fail
    go_ret
    exact ⟨rfl, hb.trans (hu.mono hb.size)⟩
  · have HR := Lib.hid h
    clear h
    go_enter Tryz.func6, Tryz.ntmps6
    go_wp2_with fail
    obtain ⟨v, ev, A1, A2, hb⟩ := two_hd na va da pa xa sa oa ta nb vb db pb xb sb ob tb w 27
    rw [← ev]
    refine (HA.out _).mono ?_
    rintro e w1 ⟨rfl, hu⟩
    rw [HR.out]
    replace hb := hb.trans (hu.mono hb.size)
    clear hu
    go_wp2_with fail
    refine (alive_any _ (HM.out _ hb)).mono ?_
    rintro e w' ⟨rfl, hu⟩
    go_wp2_with fail
    go_ret
    exact ⟨rfl, hb.trans (hu.mono hb.size)⟩
  · have HR := Lib.hid h
    have HR1 := Lib.hid h1
    clear h h1
    go_enter Tryz.func6, Tryz.ntmps6
    go_wp2_with fail
    obtain ⟨v, ev, A1, A2, hb⟩ := two_hd na va da pa xa sa oa ta nb vb db pb xb sb ob tb w 27
    rw [← ev]
    clear ev
    refine (HA.out _).mono ?_
    rintro e w1 ⟨rfl, hu⟩
    rw [HR1.out]
    replace hb := hb.trans (hu.mono hb.size)
    replace A2 := A2.keep hu
    clear hu
    obtain ⟨c0, c1, c2, c3, c4, c5, c6, c7⟩ := A2.cells
    dsimp only at c0 c1 c2 c3 c4 c5 c6 c7
    go_wp2_with fail
    refine (HB.out _).mono ?_
    rintro e w2 ⟨rfl, hu⟩
    rw [HR.out]
    replace hb := hb.trans (hu.mono hb.size)
    clear hu
    go_wp2_with fail
    refine (alive_any _ (HM.out _ hb)).mono ?_
    rintro e w' ⟨rfl, hu⟩
    go_wp2_with fail
    go_ret
    exact ⟨rfl, hb.trans (hu.mono hb.size)⟩
end Go.Proofs.YtngamlikhgilhaaGreatDoor
