/- The statement HeaderPrints: the walk. (printed by wip/genprints.py) -/
import Derived.Test.YtngamlikhgilhaaGreatDoorApartC
import Derived.Test.YtngamlikhgilhaaGreatDoorPrintR
namespace Go.Proofs.YtngamlikhgilhaaGreatDoor
open Go.RowKit Go.Shelf

theorem print_when {h : Hd} {x y : ByteArray} (hx : IsWhen h.ex x) (hy : h.ex = 0 ∨ IsWhen h.ex y) : printL h y = printL h x := by
  rcases hy with hy | hy
  · unfold printL
    rw [hy]
    rfl
  · rw [hx.uniq hy]
theorem par_nil (now : Int) : parH ⟨#[]⟩ now = none := by
  unfold parH
  dsimp only
  rw [if_neg (fun h => by have := h.2.2.1; revert this; decide)]
theorem par_out {s : ByteArray} {now : Int} (h : now < 0 ∨ 253402300799 < now) : parH s now = none := by
  unfold parH
  dsimp only
  rw [if_neg (by omega)]
theorem parV_is {o : Option Hd} {nm vl dm pt : ByteArray} {ex : Int} {se ho : Bool} {st : Int} (e : o = some ⟨nm, vl, dm, pt, ex, se, ho, st⟩) : parV o = .tuple #[.agg #[.string nm, .string vl, .string dm, .string pt, .int .i64 ex, .bool se, .bool ho, .int .i64 st], .bool true] := by rw [e]; rfl
theorem p16_call (h : Hd) (w : World) (hr : rightB h = true) (hl : h.nm.size + h.vl.size ≤ 1000) (hd : h.dm.size + h.pt.size ≤ 1000) :
    Calls Tryz.prog 11 #[hdA h] w fun e w' => (∃ x, (h.ex = 0 ∨ IsWhen h.ex x) ∧ e = .returned (.tuple #[.string (mk (printL h x)), .bool true])) ∧ Below w.heap.size w w' := by
  obtain ⟨nm, vl, dm, pt, ex, se, ho, st⟩ := h
  refine (p16_yes nm vl dm pt ex se ho st w hl hd hr).mono ?_
  rintro e w' ⟨hb, ⟨h, -⟩ | ⟨-, x, hx, rfl⟩⟩
  · exact absurd (hr.symm.trans h) (by decide)
  · exact ⟨⟨x, hx, rfl⟩, hb⟩
theorem p16_call0 (h : Hd) (w : World) (hr : rightB h = false) (hl : h.nm.size + h.vl.size ≤ 1000) (hd : h.dm.size + h.pt.size ≤ 1000) :
    Calls Tryz.prog 11 #[hdA h] w fun e w' => e = .returned (.tuple #[.string ⟨#[]⟩, .bool false]) ∧ Below w.heap.size w w' := by
  obtain ⟨nm, vl, dm, pt, ex, se, ho, st⟩ := h
  refine (p16_no nm vl dm pt ex se ho st w hl hd hr).mono ?_
  rintro e w' ⟨hb, ⟨-, rfl⟩ | ⟨h, -⟩⟩
  · exact ⟨rfl, hb⟩
  · exact absurd (hr.symm.trans h) (by decide)
theorem prt_call0 (h : Hd) (w : World) (hr : rightB h = false) (hl : h.nm.size + h.vl.size ≤ 1000) (hd : h.dm.size + h.pt.size ≤ 1000) (hm : HasMax w) :
    Calls Tryz.prog 10 #[hdA h] w fun e w' => e = .returned (.tuple #[.string ⟨#[]⟩, .bool false]) ∧ Below w.heap.size w w' := by
  obtain ⟨nm, vl, dm, pt, ex, se, ho, st⟩ := h
  refine (print_no nm vl dm pt ex se ho st w hl hd hm hr).mono ?_
  rintro e w' ⟨hb, ⟨-, rfl⟩ | ⟨h, -⟩⟩
  · exact ⟨rfl, hb⟩
  · exact absurd (hr.symm.trans h) (by decide)
set_option maxHeartbeats 1000000 in
set_option maxRecDepth 100000 in
theorem prints_big (nm vl dm pt : ByteArray) (ex : Int) (se ho : Bool) (st now : Int) (w : World) (hz : nm.size ≤ 140737488351232 ∧ vl.size ≤ 140737488351232 ∧ dm.size ≤ 140737488351232 ∧ pt.size ≤ 140737488351232) (_ : -9223372036854775808 ≤ now) (_ : now ≤ 9223372036854775807) (hm : HasMax w) (hno : 1000 < nm.size + vl.size ∨ (nm.size + vl.size ≤ 1000 ∧ 1000 < dm.size + pt.size)) :
    Calls Tryz.prog 4 #[.agg #[.string nm, .string vl, .string dm, .string pt, .int .i64 ex, .bool se, .bool ho, .int .i64 st], .int .i64 now] w fun e w' => e = .returned (.bool true) ∧ Below w.heap.size w w' := by
  obtain ⟨z1, z2, z3, z4⟩ := hz
  rcases hno with h | ⟨g, h⟩
  all_goals
    go_enter Tryz.func4, Tryz.ntmps4
    go_wp2_with fail
    obtain ⟨v, ev, A1, -, hb, -⟩ := box_hd nm vl dm pt ex se ho st w w 27 (Below.refl _ _)
    rw [← ev]
    refine (alive_any _ (max_keep hm hb)).mono ?_
    rintro e w' ⟨rfl, hu⟩
    go_wp2_with fail
    go_ret
    exact ⟨rfl, hb.trans (hu.mono hb.size)⟩
set_option maxHeartbeats 2000000 in
set_option maxRecDepth 100000 in
theorem prints_noin (nm vl dm pt : ByteArray) (ex : Int) (se ho : Bool) (st now : Int) (w : World) (hz : nm.size ≤ 140737488351232 ∧ vl.size ≤ 140737488351232 ∧ dm.size ≤ 140737488351232 ∧ pt.size ≤ 140737488351232) (hn0 : -9223372036854775808 ≤ now) (hn1 : now ≤ 9223372036854775807) (hm : HasMax w) (h1 : nm.size + vl.size ≤ 1000) (h2 : dm.size + pt.size ≤ 1000) (hr : rightB (⟨nm, vl, dm, pt, ex, se, ho, st⟩ : Hd) = false) (k0 : 0 ≤ now) (k1 : now ≤ 253402300799) :
    Calls Tryz.prog 4 #[.agg #[.string nm, .string vl, .string dm, .string pt, .int .i64 ex, .bool se, .bool ho, .int .i64 st], .int .i64 now] w fun e w' => e = .returned (.bool true) ∧ Below w.heap.size w w' := by
  obtain ⟨z1, z2, z3, z4⟩ := hz
  have HM := Lib.hid (fun w1 (h : Below w.heap.size w w1) => max_keep hm h)
  clear hm
  have HR := Lib.hid hr
  have HG := Lib.hid (fun W hm => right_all (⟨nm, vl, dm, pt, ex, se, ho, st⟩ : Hd) W (by dsimp only; omega) (by dsimp only; omega) (by dsimp only; omega) (by dsimp only; omega) hm)
  have HP := Lib.hid (fun W hm => prt_call0 (⟨nm, vl, dm, pt, ex, se, ho, st⟩ : Hd) W hr (by dsimp only; omega) (by dsimp only; omega) hm)
  have HQ := Lib.hid (fun W => p16_call0 (⟨nm, vl, dm, pt, ex, se, ho, st⟩ : Hd) W hr (by dsimp only; omega) (by dsimp only; omega))
  clear hr
  go_enter Tryz.func4, Tryz.ntmps4
  go_wp2_with fail
  obtain ⟨v, ev, A, -, hb, -⟩ := box_hd nm vl dm pt ex se ho st w w 27 (Below.refl _ _)
  rw [← ev]
  clear ev
  refine (HP.out _ (HM.out _ hb)).mono ?_
  rintro e u1 ⟨rfl, hu⟩
  replace hb := hb.trans (hu.mono hb.size)
  replace A := A.keep hu
  clear hu
  obtain ⟨c0, c1, c2, c3, c4, c5, c6, c7⟩ := A.cells
  dsimp only at c0 c1 c2 c3 c4 c5 c6 c7
  go_wp2_with fail
  clear c0 c1 c2 c3 c4 c5 c6 c7
  refine (HQ.out _).mono ?_
  rintro e u2 ⟨rfl, hu⟩
  replace hb := hb.trans (hu.mono hb.size)
  replace A := A.keep hu
  clear hu
  have HV := Lib.hid (parV_none (par_nil now))
  have hlen : (⟨#[]⟩ : ByteArray).size ≤ 3000 := by decide
  have HPA := Lib.hid (fun W => par_any ⟨#[]⟩ now W (by omega) hn0 hn1)
  go_wp2_with fail
  refine (HPA.out _).mono ?_
  rintro e u3 ⟨rfl, hu⟩
  rw [HV.out]
  replace hb := hb.trans (hu.mono hb.size)
  replace A := A.keep hu
  clear hu
  go_wp2_with fail
  obtain ⟨v4, ev, B, hk, hb4, -⟩ := box_hd ⟨#[]⟩ ⟨#[]⟩ ⟨#[]⟩ ⟨#[]⟩ 0 false false 0 w u3 24 hb
  rw [← ev]
  replace A := hk _ _ A
  replace hb := hb4
  generalize u3.heap.size = b9 at *
  clear ev hk hb4
  refine (alive_any _ (HM.out _ hb)).mono ?_
  rintro e u5 ⟨rfl, hu⟩
  replace B := B.keep hu
  replace hb := hb.trans (hu.mono hb.size)
  replace A := A.keep hu
  clear hu
  obtain ⟨c0, c1, c2, c3, c4, c5, c6, c7⟩ := A.cells
  dsimp only at c0 c1 c2 c3 c4 c5 c6 c7
  go_wp2_with fail
  clear c0 c1 c2 c3 c4 c5 c6 c7
  refine (HG.out _ (HM.out _ hb)).mono ?_
  rintro e u6 ⟨rfl, hu⟩
  rw [HR.out]
  replace B := B.keep hu
  replace hb := hb.trans (hu.mono hb.size)
  replace A := A.keep hu
  clear hu
  obtain ⟨c0, c1, c2, c3, c4, c5, c6, c7⟩ := A.cells
  dsimp only at c0 c1 c2 c3 c4 c5 c6 c7
  obtain ⟨d0, d1, d2, d3, d4, d5, d6, d7⟩ := B.cells
  dsimp only at d0 d1 d2 d3 d4 d5 d6 d7
  go_wp2_with fail
  go_ret
  exact ⟨by simp, hb⟩
set_option maxHeartbeats 2000000 in
set_option maxRecDepth 100000 in
theorem prints_nolow (nm vl dm pt : ByteArray) (ex : Int) (se ho : Bool) (st now : Int) (w : World) (hz : nm.size ≤ 140737488351232 ∧ vl.size ≤ 140737488351232 ∧ dm.size ≤ 140737488351232 ∧ pt.size ≤ 140737488351232) (hn0 : -9223372036854775808 ≤ now) (hn1 : now ≤ 9223372036854775807) (hm : HasMax w) (h1 : nm.size + vl.size ≤ 1000) (h2 : dm.size + pt.size ≤ 1000) (hr : rightB (⟨nm, vl, dm, pt, ex, se, ho, st⟩ : Hd) = false) (k0 : now < 0) :
    Calls Tryz.prog 4 #[.agg #[.string nm, .string vl, .string dm, .string pt, .int .i64 ex, .bool se, .bool ho, .int .i64 st], .int .i64 now] w fun e w' => e = .returned (.bool true) ∧ Below w.heap.size w w' := by
  obtain ⟨z1, z2, z3, z4⟩ := hz
  have HM := Lib.hid (fun w1 (h : Below w.heap.size w w1) => max_keep hm h)
  clear hm
  have HR := Lib.hid hr
  have HG := Lib.hid (fun W hm => right_all (⟨nm, vl, dm, pt, ex, se, ho, st⟩ : Hd) W (by dsimp only; omega) (by dsimp only; omega) (by dsimp only; omega) (by dsimp only; omega) hm)
  have HP := Lib.hid (fun W hm => prt_call0 (⟨nm, vl, dm, pt, ex, se, ho, st⟩ : Hd) W hr (by dsimp only; omega) (by dsimp only; omega) hm)
  have HQ := Lib.hid (fun W => p16_call0 (⟨nm, vl, dm, pt, ex, se, ho, st⟩ : Hd) W hr (by dsimp only; omega) (by dsimp only; omega))
  clear hr
  go_enter Tryz.func4, Tryz.ntmps4
  go_wp2_with fail
  obtain ⟨v, ev, A, -, hb, -⟩ := box_hd nm vl dm pt ex se ho st w w 27 (Below.refl _ _)
  rw [← ev]
  clear ev
  refine (HP.out _ (HM.out _ hb)).mono ?_
  rintro e u1 ⟨rfl, hu⟩
  replace hb := hb.trans (hu.mono hb.size)
  replace A := A.keep hu
  clear hu
  obtain ⟨c0, c1, c2, c3, c4, c5, c6, c7⟩ := A.cells
  dsimp only at c0 c1 c2 c3 c4 c5 c6 c7
  go_wp2_with fail
  clear c0 c1 c2 c3 c4 c5 c6 c7
  refine (HQ.out _).mono ?_
  rintro e u2 ⟨rfl, hu⟩
  replace hb := hb.trans (hu.mono hb.size)
  replace A := A.keep hu
  clear hu
  have HV := Lib.hid (parV_none (par_nil now))
  have hlen : (⟨#[]⟩ : ByteArray).size ≤ 3000 := by decide
  have HPA := Lib.hid (fun W => par_any ⟨#[]⟩ now W (by omega) hn0 hn1)
  go_wp2_with fail
  refine (HPA.out _).mono ?_
  rintro e u3 ⟨rfl, hu⟩
  rw [HV.out]
  replace hb := hb.trans (hu.mono hb.size)
  replace A := A.keep hu
  clear hu
  go_wp2_with fail
  obtain ⟨v4, ev, B, hk, hb4, -⟩ := box_hd ⟨#[]⟩ ⟨#[]⟩ ⟨#[]⟩ ⟨#[]⟩ 0 false false 0 w u3 24 hb
  rw [← ev]
  replace A := hk _ _ A
  replace hb := hb4
  generalize u3.heap.size = b9 at *
  clear ev hk hb4
  refine (alive_any _ (HM.out _ hb)).mono ?_
  rintro e u5 ⟨rfl, hu⟩
  replace B := B.keep hu
  replace hb := hb.trans (hu.mono hb.size)
  replace A := A.keep hu
  clear hu
  obtain ⟨c0, c1, c2, c3, c4, c5, c6, c7⟩ := A.cells
  dsimp only at c0 c1 c2 c3 c4 c5 c6 c7
  go_wp2_with fail
  clear c0 c1 c2 c3 c4 c5 c6 c7
  refine (HG.out _ (HM.out _ hb)).mono ?_
  rintro e u6 ⟨rfl, hu⟩
  rw [HR.out]
  replace B := B.keep hu
  replace hb := hb.trans (hu.mono hb.size)
  replace A := A.keep hu
  clear hu
  obtain ⟨c0, c1, c2, c3, c4, c5, c6, c7⟩ := A.cells
  dsimp only at c0 c1 c2 c3 c4 c5 c6 c7
  obtain ⟨d0, d1, d2, d3, d4, d5, d6, d7⟩ := B.cells
  dsimp only at d0 d1 d2 d3 d4 d5 d6 d7
  go_wp2_with fail
  go_ret
  exact ⟨by simp, hb⟩
set_option maxHeartbeats 2000000 in
set_option maxRecDepth 100000 in
theorem prints_nohigh (nm vl dm pt : ByteArray) (ex : Int) (se ho : Bool) (st now : Int) (w : World) (hz : nm.size ≤ 140737488351232 ∧ vl.size ≤ 140737488351232 ∧ dm.size ≤ 140737488351232 ∧ pt.size ≤ 140737488351232) (hn0 : -9223372036854775808 ≤ now) (hn1 : now ≤ 9223372036854775807) (hm : HasMax w) (h1 : nm.size + vl.size ≤ 1000) (h2 : dm.size + pt.size ≤ 1000) (hr : rightB (⟨nm, vl, dm, pt, ex, se, ho, st⟩ : Hd) = false) (k0 : 253402300799 < now) :
    Calls Tryz.prog 4 #[.agg #[.string nm, .string vl, .string dm, .string pt, .int .i64 ex, .bool se, .bool ho, .int .i64 st], .int .i64 now] w fun e w' => e = .returned (.bool true) ∧ Below w.heap.size w w' := by
  obtain ⟨z1, z2, z3, z4⟩ := hz
  have HM := Lib.hid (fun w1 (h : Below w.heap.size w w1) => max_keep hm h)
  clear hm
  have HR := Lib.hid hr
  have HG := Lib.hid (fun W hm => right_all (⟨nm, vl, dm, pt, ex, se, ho, st⟩ : Hd) W (by dsimp only; omega) (by dsimp only; omega) (by dsimp only; omega) (by dsimp only; omega) hm)
  have HP := Lib.hid (fun W hm => prt_call0 (⟨nm, vl, dm, pt, ex, se, ho, st⟩ : Hd) W hr (by dsimp only; omega) (by dsimp only; omega) hm)
  have HQ := Lib.hid (fun W => p16_call0 (⟨nm, vl, dm, pt, ex, se, ho, st⟩ : Hd) W hr (by dsimp only; omega) (by dsimp only; omega))
  clear hr
  go_enter Tryz.func4, Tryz.ntmps4
  go_wp2_with fail
  obtain ⟨v, ev, A, -, hb, -⟩ := box_hd nm vl dm pt ex se ho st w w 27 (Below.refl _ _)
  rw [← ev]
  clear ev
  refine (HP.out _ (HM.out _ hb)).mono ?_
  rintro e u1 ⟨rfl, hu⟩
  replace hb := hb.trans (hu.mono hb.size)
  replace A := A.keep hu
  clear hu
  obtain ⟨c0, c1, c2, c3, c4, c5, c6, c7⟩ := A.cells
  dsimp only at c0 c1 c2 c3 c4 c5 c6 c7
  go_wp2_with fail
  clear c0 c1 c2 c3 c4 c5 c6 c7
  refine (HQ.out _).mono ?_
  rintro e u2 ⟨rfl, hu⟩
  replace hb := hb.trans (hu.mono hb.size)
  replace A := A.keep hu
  clear hu
  have HV := Lib.hid (parV_none (par_nil now))
  have hlen : (⟨#[]⟩ : ByteArray).size ≤ 3000 := by decide
  have HPA := Lib.hid (fun W => par_any ⟨#[]⟩ now W (by omega) hn0 hn1)
  go_wp2_with fail
  refine (HPA.out _).mono ?_
  rintro e u3 ⟨rfl, hu⟩
  rw [HV.out]
  replace hb := hb.trans (hu.mono hb.size)
  replace A := A.keep hu
  clear hu
  go_wp2_with fail
  obtain ⟨v4, ev, B, hk, hb4, -⟩ := box_hd ⟨#[]⟩ ⟨#[]⟩ ⟨#[]⟩ ⟨#[]⟩ 0 false false 0 w u3 24 hb
  rw [← ev]
  replace A := hk _ _ A
  replace hb := hb4
  generalize u3.heap.size = b9 at *
  clear ev hk hb4
  refine (alive_any _ (HM.out _ hb)).mono ?_
  rintro e u5 ⟨rfl, hu⟩
  replace B := B.keep hu
  replace hb := hb.trans (hu.mono hb.size)
  replace A := A.keep hu
  clear hu
  obtain ⟨c0, c1, c2, c3, c4, c5, c6, c7⟩ := A.cells
  dsimp only at c0 c1 c2 c3 c4 c5 c6 c7
  go_wp2_with fail
  clear c0 c1 c2 c3 c4 c5 c6 c7
  refine (HG.out _ (HM.out _ hb)).mono ?_
  rintro e u6 ⟨rfl, hu⟩
  rw [HR.out]
  replace B := B.keep hu
  replace hb := hb.trans (hu.mono hb.size)
  replace A := A.keep hu
  clear hu
  obtain ⟨c0, c1, c2, c3, c4, c5, c6, c7⟩ := A.cells
  dsimp only at c0 c1 c2 c3 c4 c5 c6 c7
  obtain ⟨d0, d1, d2, d3, d4, d5, d6, d7⟩ := B.cells
  dsimp only at d0 d1 d2 d3 d4 d5 d6 d7
  go_wp2_with fail
  go_ret
  exact ⟨by simp, hb⟩
set_option maxHeartbeats 2000000 in
set_option maxRecDepth 100000 in
theorem prints_in (nm vl dm pt : ByteArray) (ex : Int) (se ho : Bool) (st now : Int) (w : World) (hz : nm.size ≤ 140737488351232 ∧ vl.size ≤ 140737488351232 ∧ dm.size ≤ 140737488351232 ∧ pt.size ≤ 140737488351232) (hn0 : -9223372036854775808 ≤ now) (hn1 : now ≤ 9223372036854775807) (hm : HasMax w) (h1 : nm.size + vl.size ≤ 1000) (h2 : dm.size + pt.size ≤ 1000) (hr : rightB (⟨nm, vl, dm, pt, ex, se, ho, st⟩ : Hd) = true) (k0 : 0 ≤ now) (k1 : now ≤ 253402300799) :
    Calls Tryz.prog 4 #[.agg #[.string nm, .string vl, .string dm, .string pt, .int .i64 ex, .bool se, .bool ho, .int .i64 st], .int .i64 now] w fun e w' => e = .returned (.bool true) ∧ Below w.heap.size w w' := by
  obtain ⟨z1, z2, z3, z4⟩ := hz
  have HM := Lib.hid (fun w1 (h : Below w.heap.size w w1) => max_keep hm h)
  clear hm
  have HR := Lib.hid hr
  have HG := Lib.hid (fun W hm => right_all (⟨nm, vl, dm, pt, ex, se, ho, st⟩ : Hd) W (by dsimp only; omega) (by dsimp only; omega) (by dsimp only; omega) (by dsimp only; omega) hm)
  have HP := Lib.hid (fun W hm => prt_call (⟨nm, vl, dm, pt, ex, se, ho, st⟩ : Hd) W hr (by dsimp only; omega) hm)
  have HQ := Lib.hid (fun W => p16_call (⟨nm, vl, dm, pt, ex, se, ho, st⟩ : Hd) W hr (by dsimp only; omega) (by dsimp only; omega))
  clear hr
  go_enter Tryz.func4, Tryz.ntmps4
  go_wp2_with fail
  obtain ⟨v, ev, A, -, hb, -⟩ := box_hd nm vl dm pt ex se ho st w w 27 (Below.refl _ _)
  rw [← ev]
  clear ev
  refine (HP.out _ (HM.out _ hb)).mono ?_
  rintro e u1 ⟨⟨x, hx, rfl⟩, hu⟩
  replace hb := hb.trans (hu.mono hb.size)
  replace A := A.keep hu
  clear hu
  obtain ⟨c0, c1, c2, c3, c4, c5, c6, c7⟩ := A.cells
  dsimp only at c0 c1 c2 c3 c4 c5 c6 c7
  go_wp2_with fail
  clear c0 c1 c2 c3 c4 c5 c6 c7
  refine (HQ.out _).mono ?_
  rintro e u2 ⟨⟨y, hy, rfl⟩, hu⟩
  replace hb := hb.trans (hu.mono hb.size)
  replace A := A.keep hu
  clear hu
  rw [print_when hx hy]
  have hlen := print_len HR.out hx (by dsimp only; omega)
  have HV := Lib.hid (parV_is (round_trip HR.out hx ⟨k0, k1⟩))
  clear hx hy
  generalize mk (printL (⟨nm, vl, dm, pt, ex, se, ho, st⟩ : Hd) x) = S at *
  have HPA := Lib.hid (fun W => par_any S now W (by omega) hn0 hn1)
  go_wp2_with fail
  refine (HPA.out _).mono ?_
  rintro e u3 ⟨rfl, hu⟩
  rw [HV.out]
  replace hb := hb.trans (hu.mono hb.size)
  replace A := A.keep hu
  clear hu
  go_wp2_with fail
  obtain ⟨v4, ev, B, hk, hb4, -⟩ := box_hd nm vl dm pt ex se ho st w u3 24 hb
  rw [← ev]
  replace A := hk _ _ A
  replace hb := hb4
  generalize u3.heap.size = b9 at *
  clear ev hk hb4
  refine (alive_any _ (HM.out _ hb)).mono ?_
  rintro e u5 ⟨rfl, hu⟩
  replace B := B.keep hu
  replace hb := hb.trans (hu.mono hb.size)
  replace A := A.keep hu
  clear hu
  obtain ⟨c0, c1, c2, c3, c4, c5, c6, c7⟩ := A.cells
  dsimp only at c0 c1 c2 c3 c4 c5 c6 c7
  go_wp2_with fail
  clear c0 c1 c2 c3 c4 c5 c6 c7
  refine (HG.out _ (HM.out _ hb)).mono ?_
  rintro e u6 ⟨rfl, hu⟩
  rw [HR.out]
  replace B := B.keep hu
  replace hb := hb.trans (hu.mono hb.size)
  replace A := A.keep hu
  clear hu
  obtain ⟨c0, c1, c2, c3, c4, c5, c6, c7⟩ := A.cells
  dsimp only at c0 c1 c2 c3 c4 c5 c6 c7
  obtain ⟨d0, d1, d2, d3, d4, d5, d6, d7⟩ := B.cells
  dsimp only at d0 d1 d2 d3 d4 d5 d6 d7
  go_wp2_with fail
  go_ret
  exact ⟨by simp, hb⟩
set_option maxHeartbeats 2000000 in
set_option maxRecDepth 100000 in
theorem prints_low (nm vl dm pt : ByteArray) (ex : Int) (se ho : Bool) (st now : Int) (w : World) (hz : nm.size ≤ 140737488351232 ∧ vl.size ≤ 140737488351232 ∧ dm.size ≤ 140737488351232 ∧ pt.size ≤ 140737488351232) (hn0 : -9223372036854775808 ≤ now) (hn1 : now ≤ 9223372036854775807) (hm : HasMax w) (h1 : nm.size + vl.size ≤ 1000) (h2 : dm.size + pt.size ≤ 1000) (hr : rightB (⟨nm, vl, dm, pt, ex, se, ho, st⟩ : Hd) = true) (k0 : now < 0) :
    Calls Tryz.prog 4 #[.agg #[.string nm, .string vl, .string dm, .string pt, .int .i64 ex, .bool se, .bool ho, .int .i64 st], .int .i64 now] w fun e w' => e = .returned (.bool true) ∧ Below w.heap.size w w' := by
  obtain ⟨z1, z2, z3, z4⟩ := hz
  have HM := Lib.hid (fun w1 (h : Below w.heap.size w w1) => max_keep hm h)
  clear hm
  have HR := Lib.hid hr
  have HG := Lib.hid (fun W hm => right_all (⟨nm, vl, dm, pt, ex, se, ho, st⟩ : Hd) W (by dsimp only; omega) (by dsimp only; omega) (by dsimp only; omega) (by dsimp only; omega) hm)
  have HP := Lib.hid (fun W hm => prt_call (⟨nm, vl, dm, pt, ex, se, ho, st⟩ : Hd) W hr (by dsimp only; omega) hm)
  have HQ := Lib.hid (fun W => p16_call (⟨nm, vl, dm, pt, ex, se, ho, st⟩ : Hd) W hr (by dsimp only; omega) (by dsimp only; omega))
  clear hr
  go_enter Tryz.func4, Tryz.ntmps4
  go_wp2_with fail
  obtain ⟨v, ev, A, -, hb, -⟩ := box_hd nm vl dm pt ex se ho st w w 27 (Below.refl _ _)
  rw [← ev]
  clear ev
  refine (HP.out _ (HM.out _ hb)).mono ?_
  rintro e u1 ⟨⟨x, hx, rfl⟩, hu⟩
  replace hb := hb.trans (hu.mono hb.size)
  replace A := A.keep hu
  clear hu
  obtain ⟨c0, c1, c2, c3, c4, c5, c6, c7⟩ := A.cells
  dsimp only at c0 c1 c2 c3 c4 c5 c6 c7
  go_wp2_with fail
  clear c0 c1 c2 c3 c4 c5 c6 c7
  refine (HQ.out _).mono ?_
  rintro e u2 ⟨⟨y, hy, rfl⟩, hu⟩
  replace hb := hb.trans (hu.mono hb.size)
  replace A := A.keep hu
  clear hu
  rw [print_when hx hy]
  have hlen := print_len HR.out hx (by dsimp only; omega)
  have HV := Lib.hid (parV_none (par_out (s := mk (printL (⟨nm, vl, dm, pt, ex, se, ho, st⟩ : Hd) x)) (.inl k0)))
  clear hx hy
  generalize mk (printL (⟨nm, vl, dm, pt, ex, se, ho, st⟩ : Hd) x) = S at *
  have HPA := Lib.hid (fun W => par_any S now W (by omega) hn0 hn1)
  go_wp2_with fail
  refine (HPA.out _).mono ?_
  rintro e u3 ⟨rfl, hu⟩
  rw [HV.out]
  replace hb := hb.trans (hu.mono hb.size)
  replace A := A.keep hu
  clear hu
  go_wp2_with fail
  obtain ⟨v4, ev, B, hk, hb4, -⟩ := box_hd ⟨#[]⟩ ⟨#[]⟩ ⟨#[]⟩ ⟨#[]⟩ 0 false false 0 w u3 24 hb
  rw [← ev]
  replace A := hk _ _ A
  replace hb := hb4
  generalize u3.heap.size = b9 at *
  clear ev hk hb4
  refine (alive_any _ (HM.out _ hb)).mono ?_
  rintro e u5 ⟨rfl, hu⟩
  replace B := B.keep hu
  replace hb := hb.trans (hu.mono hb.size)
  replace A := A.keep hu
  clear hu
  obtain ⟨c0, c1, c2, c3, c4, c5, c6, c7⟩ := A.cells
  dsimp only at c0 c1 c2 c3 c4 c5 c6 c7
  go_wp2_with fail
  clear c0 c1 c2 c3 c4 c5 c6 c7
  refine (HG.out _ (HM.out _ hb)).mono ?_
  rintro e u6 ⟨rfl, hu⟩
  rw [HR.out]
  replace B := B.keep hu
  replace hb := hb.trans (hu.mono hb.size)
  replace A := A.keep hu
  clear hu
  obtain ⟨c0, c1, c2, c3, c4, c5, c6, c7⟩ := A.cells
  dsimp only at c0 c1 c2 c3 c4 c5 c6 c7
  obtain ⟨d0, d1, d2, d3, d4, d5, d6, d7⟩ := B.cells
  dsimp only at d0 d1 d2 d3 d4 d5 d6 d7
  go_wp2_with fail
  go_ret
  exact ⟨by simp, hb⟩
set_option maxHeartbeats 2000000 in
set_option maxRecDepth 100000 in
theorem prints_high (nm vl dm pt : ByteArray) (ex : Int) (se ho : Bool) (st now : Int) (w : World) (hz : nm.size ≤ 140737488351232 ∧ vl.size ≤ 140737488351232 ∧ dm.size ≤ 140737488351232 ∧ pt.size ≤ 140737488351232) (hn0 : -9223372036854775808 ≤ now) (hn1 : now ≤ 9223372036854775807) (hm : HasMax w) (h1 : nm.size + vl.size ≤ 1000) (h2 : dm.size + pt.size ≤ 1000) (hr : rightB (⟨nm, vl, dm, pt, ex, se, ho, st⟩ : Hd) = true) (k0 : 253402300799 < now) :
    Calls Tryz.prog 4 #[.agg #[.string nm, .string vl, .string dm, .string pt, .int .i64 ex, .bool se, .bool ho, .int .i64 st], .int .i64 now] w fun e w' => e = .returned (.bool true) ∧ Below w.heap.size w w' := by
  obtain ⟨z1, z2, z3, z4⟩ := hz
  have HM := Lib.hid (fun w1 (h : Below w.heap.size w w1) => max_keep hm h)
  clear hm
  have HR := Lib.hid hr
  have HG := Lib.hid (fun W hm => right_all (⟨nm, vl, dm, pt, ex, se, ho, st⟩ : Hd) W (by dsimp only; omega) (by dsimp only; omega) (by dsimp only; omega) (by dsimp only; omega) hm)
  have HP := Lib.hid (fun W hm => prt_call (⟨nm, vl, dm, pt, ex, se, ho, st⟩ : Hd) W hr (by dsimp only; omega) hm)
  have HQ := Lib.hid (fun W => p16_call (⟨nm, vl, dm, pt, ex, se, ho, st⟩ : Hd) W hr (by dsimp only; omega) (by dsimp only; omega))
  clear hr
  go_enter Tryz.func4, Tryz.ntmps4
  go_wp2_with fail
  obtain ⟨v, ev, A, -, hb, -⟩ := box_hd nm vl dm pt ex se ho st w w 27 (Below.refl _ _)
  rw [← ev]
  clear ev
  refine (HP.out _ (HM.out _ hb)).mono ?_
  rintro e u1 ⟨⟨x, hx, rfl⟩, hu⟩
  replace hb := hb.trans (hu.mono hb.size)
  replace A := A.keep hu
  clear hu
  obtain ⟨c0, c1, c2, c3, c4, c5, c6, c7⟩ := A.cells
  dsimp only at c0 c1 c2 c3 c4 c5 c6 c7
  go_wp2_with fail
  clear c0 c1 c2 c3 c4 c5 c6 c7
  refine (HQ.out _).mono ?_
  rintro e u2 ⟨⟨y, hy, rfl⟩, hu⟩
  replace hb := hb.trans (hu.mono hb.size)
  replace A := A.keep hu
  clear hu
  rw [print_when hx hy]
  have hlen := print_len HR.out hx (by dsimp only; omega)
  have HV := Lib.hid (parV_none (par_out (s := mk (printL (⟨nm, vl, dm, pt, ex, se, ho, st⟩ : Hd) x)) (.inr k0)))
  clear hx hy
  generalize mk (printL (⟨nm, vl, dm, pt, ex, se, ho, st⟩ : Hd) x) = S at *
  have HPA := Lib.hid (fun W => par_any S now W (by omega) hn0 hn1)
  go_wp2_with fail
  refine (HPA.out _).mono ?_
  rintro e u3 ⟨rfl, hu⟩
  rw [HV.out]
  replace hb := hb.trans (hu.mono hb.size)
  replace A := A.keep hu
  clear hu
  go_wp2_with fail
  obtain ⟨v4, ev, B, hk, hb4, -⟩ := box_hd ⟨#[]⟩ ⟨#[]⟩ ⟨#[]⟩ ⟨#[]⟩ 0 false false 0 w u3 24 hb
  rw [← ev]
  replace A := hk _ _ A
  replace hb := hb4
  generalize u3.heap.size = b9 at *
  clear ev hk hb4
  refine (alive_any _ (HM.out _ hb)).mono ?_
  rintro e u5 ⟨rfl, hu⟩
  replace B := B.keep hu
  replace hb := hb.trans (hu.mono hb.size)
  replace A := A.keep hu
  clear hu
  obtain ⟨c0, c1, c2, c3, c4, c5, c6, c7⟩ := A.cells
  dsimp only at c0 c1 c2 c3 c4 c5 c6 c7
  go_wp2_with fail
  clear c0 c1 c2 c3 c4 c5 c6 c7
  refine (HG.out _ (HM.out _ hb)).mono ?_
  rintro e u6 ⟨rfl, hu⟩
  rw [HR.out]
  replace B := B.keep hu
  replace hb := hb.trans (hu.mono hb.size)
  replace A := A.keep hu
  clear hu
  obtain ⟨c0, c1, c2, c3, c4, c5, c6, c7⟩ := A.cells
  dsimp only at c0 c1 c2 c3 c4 c5 c6 c7
  obtain ⟨d0, d1, d2, d3, d4, d5, d6, d7⟩ := B.cells
  dsimp only at d0 d1 d2 d3 d4 d5 d6 d7
  go_wp2_with fail
  go_ret
  exact ⟨by simp, hb⟩
theorem headerPrints_any (h : Hd) (now : Int) (w : World) (hz : h.nm.size ≤ 140737488351232 ∧ h.vl.size ≤ 140737488351232 ∧ h.dm.size ≤ 140737488351232 ∧ h.pt.size ≤ 140737488351232) (hnow : (Lit.int .i64 now).wf = true) (hm : HasMax w) :
    Calls Tryz.prog 4 #[hdV h, .int .i64 now] w fun e w' => e = .returned (.bool true) ∧ Below w.heap.size w w' := by
  obtain ⟨hn0, hn1⟩ := i64_in hnow
  obtain ⟨nm, vl, dm, pt, ex, se, ho, st⟩ := h
  dsimp only at hz
  by_cases g1 : 1000 < nm.size + vl.size
  · exact prints_big nm vl dm pt ex se ho st now w hz hn0 hn1 hm (.inl g1)
  by_cases g2 : 1000 < dm.size + pt.size
  · exact prints_big nm vl dm pt ex se ho st now w hz hn0 hn1 hm (.inr ⟨by omega, g2⟩)
  cases h3 : rightB ⟨nm, vl, dm, pt, ex, se, ho, st⟩
  · by_cases k0 : now < 0
    · exact prints_nolow nm vl dm pt ex se ho st now w hz hn0 hn1 hm (by omega) (by omega) h3 k0
    by_cases k1 : 253402300799 < now
    · exact prints_nohigh nm vl dm pt ex se ho st now w hz hn0 hn1 hm (by omega) (by omega) h3 k1
    · exact prints_noin nm vl dm pt ex se ho st now w hz hn0 hn1 hm (by omega) (by omega) h3 (by omega) (by omega)
  by_cases k0 : now < 0
  · exact prints_low nm vl dm pt ex se ho st now w hz hn0 hn1 hm (by omega) (by omega) h3 k0
  by_cases k1 : 253402300799 < now
  · exact prints_high nm vl dm pt ex se ho st now w hz hn0 hn1 hm (by omega) (by omega) h3 k1
  · exact prints_in nm vl dm pt ex se ho st now w hz hn0 hn1 hm (by omega) (by omega) h3 (by omega) (by omega)
end Go.Proofs.YtngamlikhgilhaaGreatDoor
