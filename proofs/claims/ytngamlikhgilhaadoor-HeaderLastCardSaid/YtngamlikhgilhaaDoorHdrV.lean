/- The statement HeaderLast: the walk. (printed by wip/genhdrv.py) -/
import Derived.Test.YtngamlikhgilhaaDoorHdrT
import Derived.Deep.RegionHeld
import Derived.Deep.DeepCutAuto
import Derived.Deep.MidRow
namespace Go.Proofs.YtngamlikhgilhaaDoor
open Go.RowKit Go.Shelf

theorem fresh_hd (nm vl dm pt : ByteArray) (ex : Int) (se ho : Bool) (st : Int) (w W : World) (h : Below w.heap.size w W) : ∃ v, v = W.alloc (.cells #[.string nm, .string vl, .string dm, .string pt, .int .i64 ex, .bool se, .bool ho, .int .i64 st] 23) ∧ RB W.heap.size v ⟨nm, vl, dm, pt, ex, se, ho, st⟩ ∧ (∀ b g, RB b W g → RB b v g) ∧ Below w.heap.size w v :=
  ⟨_, rfl, RB.new W ⟨nm, vl, dm, pt, ex, se, ho, st⟩ _, fun _ _ H => H.alloc _, h.alloc h.size _⟩
theorem parV_eq {o : Option Hd} {nm vl dm pt : ByteArray} {ex : Int} {se ho : Bool} {st : Int} (e : o = some ⟨nm, vl, dm, pt, ex, se, ho, st⟩) : parV o = .tuple #[.agg #[.string nm, .string vl, .string dm, .string pt, .int .i64 ex, .bool se, .bool ho, .int .i64 st], .bool true] := by rw [e]; rfl
theorem RB.stored {b : Nat} {W : World} {g : Hd} (H : RB b W g) (h : Hd) (n : Nat) (w : World) (hn : n ≤ b) (hb : Below n w W) : ∃ z, z = W.setCells b 0 (hdL h).toArray.toList ∧ RB b z h ∧ (∀ b' g, b' ≠ b → RB b' W g → RB b' z g) ∧ Below n w z := by
  have hz : W.heap.size ≤ (W.setCells b 0 (hdL h).toArray.toList).heap.size := (Below.hsetCells (Nat.zero_le b) (hdL h).toArray.toList 0 W (Below.refl 0 W)).size
  exact ⟨_, rfl, ⟨World.rangeAt_setCells_same _ _ _ _ H.wr, World.there_setCells H.wr _ _ _, Nat.lt_of_lt_of_le H.lt hz⟩,
    fun b' g hne H' => ⟨World.rangeAt_setCells_apart H'.rd _ _ _ (Or.inl hne), World.there_setCells H'.wr _ _ _, Nat.lt_of_lt_of_le H'.lt hz⟩, Below.hsetCells hn _ _ _ hb⟩
/-- Four headers, apart from one another and from what lay in v. -/
structure L4 (v W : World) (i j k l : Nat) (gi gj gk gl : Hd) : Prop where
  bel : Below v.heap.size v W
  low : v.heap.size ≤ i ∧ v.heap.size ≤ j ∧ v.heap.size ≤ k ∧ v.heap.size ≤ l
  ne : i ≠ j ∧ i ≠ k ∧ i ≠ l ∧ j ≠ k ∧ j ≠ l ∧ k ≠ l
  ri : RB i W gi
  rj : RB j W gj
  rk : RB k W gk
  rl : RB l W gl
theorem L4.set {v W : World} {i j k l : Nat} {nm vl dm pt : ByteArray} {ex : Int} {se ho : Bool} {st : Int} (H : L4 v W i j k l ⟨nm, vl, dm, pt, ex, se, ho, st⟩ ⟨nm, vl, dm, pt, ex, se, ho, st⟩ ⟨nm, vl, dm, pt, ex, se, ho, st⟩ ⟨nm, vl, dm, pt, ex, se, ho, st⟩) :
    ∃ z, z = (((W.setCell ⟨i, 3, none⟩ (.string ⟨#[47, 122]⟩)).setCell ⟨j, 3, none⟩ (.string ⟨#[]⟩)).setCell ⟨k, 7, none⟩ (.int .i64 2)).setCell ⟨l, 7, none⟩ (.int .i64 0) ∧
      L4 v z i j k l ⟨nm, vl, dm, ⟨#[47, 122]⟩, ex, se, ho, st⟩ ⟨nm, vl, dm, ⟨#[]⟩, ex, se, ho, st⟩ ⟨nm, vl, dm, pt, ex, se, ho, 2⟩ ⟨nm, vl, dm, pt, ex, se, ho, 0⟩ := by
  obtain ⟨hb, ⟨n1, n2, n3, n4⟩, ⟨h1, h2, h3, h4, h5, h6⟩, ri, rj, rk, rl⟩ := H
  have w1 := hb.setCell (p := ⟨i, 3, none⟩) n1 (.string ⟨#[47, 122]⟩)
  have a1 : RB i (W.setCell ⟨i, 3, none⟩ (.string ⟨#[47, 122]⟩)) ⟨nm, vl, dm, ⟨#[47, 122]⟩, ex, se, ho, st⟩ := ri.set 3 _ rfl
  have a2 := rj.far h1 3 (.string ⟨#[47, 122]⟩)
  have a3 := rk.far h2 3 (.string ⟨#[47, 122]⟩)
  have a4 := rl.far h3 3 (.string ⟨#[47, 122]⟩)
  generalize W.setCell ⟨i, 3, none⟩ (.string ⟨#[47, 122]⟩) = W1 at *
  have w2 := w1.setCell (p := ⟨j, 3, none⟩) n2 (.string ⟨#[]⟩)
  have b1 := a1.far h1.symm 3 (.string ⟨#[]⟩)
  have b2 : RB j (W1.setCell ⟨j, 3, none⟩ (.string ⟨#[]⟩)) ⟨nm, vl, dm, ⟨#[]⟩, ex, se, ho, st⟩ := a2.set 3 _ rfl
  have b3 := a3.far h4 3 (.string ⟨#[]⟩)
  have b4 := a4.far h5 3 (.string ⟨#[]⟩)
  generalize W1.setCell ⟨j, 3, none⟩ (.string ⟨#[]⟩) = W2 at *
  have w3 := w2.setCell (p := ⟨k, 7, none⟩) n3 (.int .i64 2)
  have c1 := b1.far h2.symm 7 (.int .i64 2)
  have c2 := b2.far h4.symm 7 (.int .i64 2)
  have c3 : RB k (W2.setCell ⟨k, 7, none⟩ (.int .i64 2)) ⟨nm, vl, dm, pt, ex, se, ho, 2⟩ := b3.set 7 _ rfl
  have c4 := b4.far h6 7 (.int .i64 2)
  generalize W2.setCell ⟨k, 7, none⟩ (.int .i64 2) = W3 at *
  have w4 := w3.setCell (p := ⟨l, 7, none⟩) n4 (.int .i64 0)
  have d1 := c1.far h3.symm 7 (.int .i64 0)
  have d2 := c2.far h5.symm 7 (.int .i64 0)
  have d3 := c3.far h6.symm 7 (.int .i64 0)
  have d4 : RB l (W3.setCell ⟨l, 7, none⟩ (.int .i64 0)) ⟨nm, vl, dm, pt, ex, se, ho, 0⟩ := c4.set 7 _ rfl
  exact ⟨_, rfl, w4, ⟨n1, n2, n3, n4⟩, ⟨h1, h2, h3, h4, h5, h6⟩, d1, d2, d3, d4⟩
set_option maxHeartbeats 4000000 in
set_option maxRecDepth 100000 in
theorem last_main (s : ByteArray) (now : Int) (w : World) (nm vl dm pt : ByteArray) (ex : Int) (se ho : Bool) (st : Int) (hp : parH s now = some ⟨nm, vl, dm, pt, ex, se, ho, st⟩) (hs : s.size ≤ 500) (hm : HasMax w) :
    Calls Tryd.prog 3 #[.string s, .int .i64 now] w fun e w' => e = .returned (.bool true) ∧ Below w.heap.size w w' := by
  have HM := Lib.hid (fun w1 (h : Below w.heap.size w w1) => max_keep hm h)
  clear hm
  obtain ⟨hn0, hn1⟩ := par_now hp
  have HV := Lib.hid (parV_eq hp)
  obtain ⟨p, hp1, hp2⟩ := par_some hp
  have HVa := Lib.hid (parV_eq (show parH (s ++ (⟨#[59, 32, 80, 97, 116, 104, 61, 47, 122]⟩ : ByteArray)) now = some ⟨nm, vl, dm, ⟨#[47, 122]⟩, ex, se, ho, st⟩ by rw [par_more1 [32, 80, 97, 116, 104, 61, 47, 122] (by decide) hp1 (s ++ (⟨#[59, 32, 80, 97, 116, 104, 61, 47, 122]⟩ : ByteArray)) (by rw [bs_append]; rfl), lit_path, endH_pt, hp2]))
  have HCa := Lib.hid (fun W => par_any (s ++ (⟨#[59, 32, 80, 97, 116, 104, 61, 47, 122]⟩ : ByteArray)) now W (by rw [ByteArray.size_append, show (⟨#[59, 32, 80, 97, 116, 104, 61, 47, 122]⟩ : ByteArray).size = 9 from rfl]; omega) (by omega) (by omega))
  have qa : ¬ 9223372036854775807 < s.size + 9 := by omega
  have HVb := Lib.hid (parV_eq (show parH (s ++ (⟨#[59, 112, 97, 116, 104, 61, 122]⟩ : ByteArray)) now = some ⟨nm, vl, dm, ⟨#[]⟩, ex, se, ho, st⟩ by rw [par_more1 [112, 97, 116, 104, 61, 122] (by decide) hp1 (s ++ (⟨#[59, 112, 97, 116, 104, 61, 122]⟩ : ByteArray)) (by rw [bs_append]; rfl), lit_path0, endH_pt, hp2]))
  have HCb := Lib.hid (fun W => par_any (s ++ (⟨#[59, 112, 97, 116, 104, 61, 122]⟩ : ByteArray)) now W (by rw [ByteArray.size_append, show (⟨#[59, 112, 97, 116, 104, 61, 122]⟩ : ByteArray).size = 7 from rfl]; omega) (by omega) (by omega))
  have qb : ¬ 9223372036854775807 < s.size + 7 := by omega
  have HVc := Lib.hid (parV_eq (show parH (s ++ (⟨#[59, 32, 83, 97, 109, 101, 83, 105, 116, 101, 61, 115, 116, 114, 105, 99, 116]⟩ : ByteArray)) now = some ⟨nm, vl, dm, pt, ex, se, ho, 2⟩ by rw [par_more1 [32, 83, 97, 109, 101, 83, 105, 116, 101, 61, 115, 116, 114, 105, 99, 116] (by decide) hp1 (s ++ (⟨#[59, 32, 83, 97, 109, 101, 83, 105, 116, 101, 61, 115, 116, 114, 105, 99, 116]⟩ : ByteArray)) (by rw [bs_append]; rfl), lit_site, endH_st, hp2]))
  have HCc := Lib.hid (fun W => par_any (s ++ (⟨#[59, 32, 83, 97, 109, 101, 83, 105, 116, 101, 61, 115, 116, 114, 105, 99, 116]⟩ : ByteArray)) now W (by rw [ByteArray.size_append, show (⟨#[59, 32, 83, 97, 109, 101, 83, 105, 116, 101, 61, 115, 116, 114, 105, 99, 116]⟩ : ByteArray).size = 17 from rfl]; omega) (by omega) (by omega))
  have qc : ¬ 9223372036854775807 < s.size + 17 := by omega
  have HVd := Lib.hid (parV_eq (show parH (s ++ (⟨#[59, 115, 97, 109, 101, 115, 105, 116, 101]⟩ : ByteArray)) now = some ⟨nm, vl, dm, pt, ex, se, ho, 0⟩ by rw [par_more1 [115, 97, 109, 101, 115, 105, 116, 101] (by decide) hp1 (s ++ (⟨#[59, 115, 97, 109, 101, 115, 105, 116, 101]⟩ : ByteArray)) (by rw [bs_append]; rfl), lit_site0, endH_st, hp2]))
  have HCd := Lib.hid (fun W => par_any (s ++ (⟨#[59, 115, 97, 109, 101, 115, 105, 116, 101]⟩ : ByteArray)) now W (by rw [ByteArray.size_append, show (⟨#[59, 115, 97, 109, 101, 115, 105, 116, 101]⟩ : ByteArray).size = 9 from rfl]; omega) (by omega) (by omega))
  have qd : ¬ 9223372036854775807 < s.size + 9 := by omega
  have HVe := Lib.hid (parV_eq (show parH (s ++ (⟨#[59, 32, 68, 79, 77, 65, 73, 78, 61, 46, 90]⟩ : ByteArray)) now = some ⟨nm, vl, ⟨#[122]⟩, pt, ex, se, ho, st⟩ by rw [par_more1 [32, 68, 79, 77, 65, 73, 78, 61, 46, 90] (by decide) hp1 (s ++ (⟨#[59, 32, 68, 79, 77, 65, 73, 78, 61, 46, 90]⟩ : ByteArray)) (by rw [bs_append]; rfl), lit_dom, endH_dm, hp2]))
  have HCe := Lib.hid (fun W => par_any (s ++ (⟨#[59, 32, 68, 79, 77, 65, 73, 78, 61, 46, 90]⟩ : ByteArray)) now W (by rw [ByteArray.size_append, show (⟨#[59, 32, 68, 79, 77, 65, 73, 78, 61, 46, 90]⟩ : ByteArray).size = 11 from rfl]; omega) (by omega) (by omega))
  have qe : ¬ 9223372036854775807 < s.size + 11 := by omega
  have HVf := Lib.hid (parV_eq (show parH (s ++ (⟨#[59, 32, 100, 111, 109, 97, 105, 110, 61, 46]⟩ : ByteArray)) now = some ⟨nm, vl, dm, pt, ex, se, ho, st⟩ by rw [par_more1 [32, 100, 111, 109, 97, 105, 110, 61, 46] (by decide) hp1 (s ++ (⟨#[59, 32, 100, 111, 109, 97, 105, 110, 61, 46]⟩ : ByteArray)) (by rw [bs_append]; rfl), lit_dom0, hp2]))
  have HCf := Lib.hid (fun W => par_any (s ++ (⟨#[59, 32, 100, 111, 109, 97, 105, 110, 61, 46]⟩ : ByteArray)) now W (by rw [ByteArray.size_append, show (⟨#[59, 32, 100, 111, 109, 97, 105, 110, 61, 46]⟩ : ByteArray).size = 10 from rfl]; omega) (by omega) (by omega))
  have qf : ¬ 9223372036854775807 < s.size + 10 := by omega
  clear hp hp1 hp2
  go_enter Tryd.func3, Tryd.ntmps3
  go_wp2_with fail
  refine (par_any s now _ (by omega) (by omega) (by omega)).mono ?_
  rintro e w1 ⟨rfl, hb⟩
  rw [HV.out]
  go_wp2_with fail
  obtain ⟨v0, ev, R0, hk, hb'⟩ := fresh_hd nm vl dm pt ex se ho st w w1 hb
  rw [← ev]
  generalize w1.heap.size = b0 at *
  replace hb := hb'
  clear ev hk hb'
  refine (HCa.out _).mono ?_
  rintro e t0 ⟨rfl, hu⟩
  rw [HVa.out]
  replace R0 := R0.keep hu
  replace hb := hb.trans (hu.mono hb.size)
  clear hu
  go_wp2_with fail
  obtain ⟨v1, ev, Ra, hk, hb'⟩ := fresh_hd nm vl dm ⟨#[47, 122]⟩ ex se ho st w t0 hb
  rw [← ev]
  replace R0 := hk _ _ R0
  replace hb := hb'
  generalize t0.heap.size = ba at *
  clear ev hk hb'
  refine (HCb.out _).mono ?_
  rintro e t1 ⟨rfl, hu⟩
  rw [HVb.out]
  replace R0 := R0.keep hu
  replace Ra := Ra.keep hu
  replace hb := hb.trans (hu.mono hb.size)
  clear hu
  go_wp2_with fail
  obtain ⟨v2, ev, Rb, hk, hb'⟩ := fresh_hd nm vl dm ⟨#[]⟩ ex se ho st w t1 hb
  rw [← ev]
  replace R0 := hk _ _ R0
  replace Ra := hk _ _ Ra
  replace hb := hb'
  generalize t1.heap.size = bb at *
  clear ev hk hb'
  refine (HCc.out _).mono ?_
  rintro e t2 ⟨rfl, hu⟩
  rw [HVc.out]
  replace R0 := R0.keep hu
  replace Ra := Ra.keep hu
  replace Rb := Rb.keep hu
  replace hb := hb.trans (hu.mono hb.size)
  clear hu
  go_wp2_with fail
  obtain ⟨v3, ev, Rc, hk, hb'⟩ := fresh_hd nm vl dm pt ex se ho 2 w t2 hb
  rw [← ev]
  replace R0 := hk _ _ R0
  replace Ra := hk _ _ Ra
  replace Rb := hk _ _ Rb
  replace hb := hb'
  generalize t2.heap.size = bc at *
  clear ev hk hb'
  refine (HCd.out _).mono ?_
  rintro e t3 ⟨rfl, hu⟩
  rw [HVd.out]
  replace R0 := R0.keep hu
  replace Ra := Ra.keep hu
  replace Rb := Rb.keep hu
  replace Rc := Rc.keep hu
  replace hb := hb.trans (hu.mono hb.size)
  clear hu
  go_wp2_with fail
  obtain ⟨v4, ev, Rd, hk, hb'⟩ := fresh_hd nm vl dm pt ex se ho 0 w t3 hb
  rw [← ev]
  replace R0 := hk _ _ R0
  replace Ra := hk _ _ Ra
  replace Rb := hk _ _ Rb
  replace Rc := hk _ _ Rc
  replace hb := hb'
  generalize t3.heap.size = bd at *
  clear ev hk hb'
  refine (HCe.out _).mono ?_
  rintro e t4 ⟨rfl, hu⟩
  rw [HVe.out]
  replace R0 := R0.keep hu
  replace Ra := Ra.keep hu
  replace Rb := Rb.keep hu
  replace Rc := Rc.keep hu
  replace Rd := Rd.keep hu
  replace hb := hb.trans (hu.mono hb.size)
  clear hu
  go_wp2_with fail
  obtain ⟨v5, ev, Re, hk, hb'⟩ := fresh_hd nm vl ⟨#[122]⟩ pt ex se ho st w t4 hb
  rw [← ev]
  replace R0 := hk _ _ R0
  replace Ra := hk _ _ Ra
  replace Rb := hk _ _ Rb
  replace Rc := hk _ _ Rc
  replace Rd := hk _ _ Rd
  replace hb := hb'
  generalize t4.heap.size = be at *
  clear ev hk hb'
  refine (HCf.out _).mono ?_
  rintro e t5 ⟨rfl, hu⟩
  rw [HVf.out]
  replace R0 := R0.keep hu
  replace Ra := Ra.keep hu
  replace Rb := Rb.keep hu
  replace Rc := Rc.keep hu
  replace Rd := Rd.keep hu
  replace Re := Re.keep hu
  replace hb := hb.trans (hu.mono hb.size)
  clear hu
  go_upto_region 10 with fail
  obtain ⟨v6, ev, Rf, hk, hb'⟩ := fresh_hd nm vl dm pt ex se ho st w t5 hb
  rw [← ev]
  replace R0 := hk _ _ R0
  replace Ra := hk _ _ Ra
  replace Rb := hk _ _ Rb
  replace Rc := hk _ _ Rc
  replace Rd := hk _ _ Rd
  replace Re := hk _ _ Re
  replace hb := hb'
  generalize t5.heap.size = bf at *
  clear ev hk hb'
  go_cut [19, 20, 21, 22, 80, 81, 82, 83] (fun x19 x20 x21 x22 x80 x81 x82 x83 wx => x80 = .agg #[.string nm, .string vl, .string dm, .string pt, .int .i64 ex, .bool se, .bool ho, .int .i64 st] ∧ x81 = .agg #[.string nm, .string vl, .string dm, .string pt, .int .i64 ex, .bool se, .bool ho, .int .i64 st] ∧ x82 = .agg #[.string nm, .string vl, .string dm, .string pt, .int .i64 ex, .bool se, .bool ho, .int .i64 st] ∧ x83 = .agg #[.string nm, .string vl, .string dm, .string pt, .int .i64 ex, .bool se, .bool ho, .int .i64 st] ∧ ∃ i j k l : Nat, x19 = .pointer (some ⟨i, 0, none⟩) ∧ x20 = .pointer (some ⟨j, 0, none⟩) ∧ x21 = .pointer (some ⟨k, 0, none⟩) ∧ x22 = .pointer (some ⟨l, 0, none⟩) ∧ L4 v6 wx i j k l (⟨nm, vl, dm, pt, ex, se, ho, st⟩ : Hd) (⟨nm, vl, dm, pt, ex, se, ho, st⟩ : Hd) (⟨nm, vl, dm, pt, ex, se, ho, st⟩ : Hd) (⟨nm, vl, dm, pt, ex, se, ho, st⟩ : Hd))
  case first =>
    obtain ⟨yd, ey⟩ : ∃ yd, yd = v6.drew := ⟨_, rfl⟩
    have y0b : Below v6.heap.size v6 yd := by rw [ey]; exact Below.drew (Below.refl _ _)
    refine wp_region_held_drew (S := fun W => RB b0 W (⟨nm, vl, dm, pt, ex, se, ho, st⟩ : Hd)) (by kernel_rfl) (R0.keep (Below.drew (Below.refl _ _))) (fun hHeld => ?_)
    refine wpAnyH_take (i := 0) (v := .agg #[.string nm, .string vl, .string dm, .string pt, .int .i64 ex, .bool se, .bool ho, .int .i64 st]) rfl (by kernel_rfl) (by kernel_rfl) (by kernel_rfl) (fun _ _ _ h => h) (Or.inl ⟨by rfl, fun W hSw => ?_⟩) hHeld ?_
    · obtain ⟨c0, c1, c2, c3, c4, c5, c6, c7⟩ := hSw.cells
      go_simp
    try simp only [List.getElem_toArray, List.getElem_cons_zero, Act.put, List.setIfInBounds_toArray, List.set_cons_zero, List.set_cons_succ]
    refine wpAnyH_take (i := 1) (v := .agg #[.string nm, .string vl, .string dm, .string pt, .int .i64 ex, .bool se, .bool ho, .int .i64 st]) rfl (by kernel_rfl) (by kernel_rfl) (by kernel_rfl) (fun _ _ _ h => h) (Or.inl ⟨by rfl, fun W hSw => ?_⟩) hHeld ?_
    · obtain ⟨c0, c1, c2, c3, c4, c5, c6, c7⟩ := hSw.cells
      go_simp
    try simp only [List.getElem_toArray, List.getElem_cons_succ, List.getElem_cons_zero, Act.put, List.setIfInBounds_toArray, List.set_cons_zero, List.set_cons_succ]
    refine wpAnyH_take (i := 2) (v := .agg #[.string nm, .string vl, .string dm, .string pt, .int .i64 ex, .bool se, .bool ho, .int .i64 st]) rfl (by kernel_rfl) (by kernel_rfl) (by kernel_rfl) (fun _ _ _ h => h) (Or.inl ⟨by rfl, fun W hSw => ?_⟩) hHeld ?_
    · obtain ⟨c0, c1, c2, c3, c4, c5, c6, c7⟩ := hSw.cells
      go_simp
    try simp only [List.getElem_toArray, List.getElem_cons_succ, List.getElem_cons_zero, Act.put, List.setIfInBounds_toArray, List.set_cons_zero, List.set_cons_succ]
    refine wpAnyH_take (i := 3) (v := .agg #[.string nm, .string vl, .string dm, .string pt, .int .i64 ex, .bool se, .bool ho, .int .i64 st]) rfl (by kernel_rfl) (by kernel_rfl) (by kernel_rfl) (fun _ _ _ h => h) (Or.inl ⟨by rfl, fun W hSw => ?_⟩) hHeld ?_
    · obtain ⟨c0, c1, c2, c3, c4, c5, c6, c7⟩ := hSw.cells
      go_simp
    try simp only [List.getElem_toArray, List.getElem_cons_succ, List.getElem_cons_zero, Act.put, List.setIfInBounds_toArray, List.set_cons_zero, List.set_cons_succ]
    rw [← ey]
    clear hHeld
    have yb := y0b
    clear y0b ey
    refine wpAnyH_ready (rs := [4, 5, 6, 7]) (by kernel_rfl) (by simp) ?_
    refine AllReadyH.cons rfl (fun K hK => ?_) ?_
    · go_simp
      refine hK.out _ _ ((R0.keep yb).alloc _) (fun _ => ?_)
      clear hK K
      try simp only [List.getElem_toArray, List.getElem_cons_succ, List.getElem_cons_zero, Act.put, List.setIfInBounds_toArray, List.set_cons_zero, List.set_cons_succ]
      obtain ⟨y1, ev, P4, hk, hb'⟩ := fresh_hd ⟨#[]⟩ ⟨#[]⟩ ⟨#[]⟩ ⟨#[]⟩ 0 false false 0 v6 yd yb
      rw [← ev]
      have g1 : v6.heap.size ≤ yd.heap.size := yb.size
      generalize yd.heap.size = n1 at *
      replace yb := hb'
      clear ev hk hb'
      refine wpAnyH_ready (rs := [5, 6, 7]) (by kernel_rfl) (by simp) ?_
      refine AllReadyH.cons rfl (fun K hK => ?_) ?_
      · go_simp
        refine hK.out _ _ ((R0.keep yb).alloc _) (fun _ => ?_)
        clear hK K
        try simp only [List.getElem_toArray, List.getElem_cons_succ, List.getElem_cons_zero, Act.put, List.setIfInBounds_toArray, List.set_cons_zero, List.set_cons_succ]
        obtain ⟨y2, ev, P5, hk, hb'⟩ := fresh_hd ⟨#[]⟩ ⟨#[]⟩ ⟨#[]⟩ ⟨#[]⟩ 0 false false 0 v6 y1 yb
        rw [← ev]
        have g2 : v6.heap.size ≤ y1.heap.size := yb.size
        have l12 : n1 < y1.heap.size := P4.lt
        replace P4 := hk _ _ P4
        generalize y1.heap.size = n2 at *
        replace yb := hb'
        clear ev hk hb'
        refine wpAnyH_ready (rs := [6, 7]) (by kernel_rfl) (by simp) ?_
        refine AllReadyH.cons rfl (fun K hK => ?_) ?_
        · go_simp
          refine hK.out _ _ ((R0.keep yb).alloc _) (fun _ => ?_)
          clear hK K
          try simp only [List.getElem_toArray, List.getElem_cons_succ, List.getElem_cons_zero, Act.put, List.setIfInBounds_toArray, List.set_cons_zero, List.set_cons_succ]
          obtain ⟨y3, ev, P6, hk, hb'⟩ := fresh_hd ⟨#[]⟩ ⟨#[]⟩ ⟨#[]⟩ ⟨#[]⟩ 0 false false 0 v6 y2 yb
          rw [← ev]
          have g3 : v6.heap.size ≤ y2.heap.size := yb.size
          have l13 : n1 < y2.heap.size := P4.lt
          replace P4 := hk _ _ P4
          have l23 : n2 < y2.heap.size := P5.lt
          replace P5 := hk _ _ P5
          generalize y2.heap.size = n3 at *
          replace yb := hb'
          clear ev hk hb'
          refine wpAnyH_ready (rs := [7]) (by kernel_rfl) (by simp) ?_
          refine AllReadyH.cons rfl (fun K hK => ?_) ?_
          · go_simp
            refine hK.out _ _ ((R0.keep yb).alloc _) (fun _ => ?_)
            clear hK K
            try simp only [List.getElem_toArray, List.getElem_cons_succ, List.getElem_cons_zero, Act.put, List.setIfInBounds_toArray, List.set_cons_zero, List.set_cons_succ]
            obtain ⟨y4, ev, P7, hk, hb'⟩ := fresh_hd ⟨#[]⟩ ⟨#[]⟩ ⟨#[]⟩ ⟨#[]⟩ 0 false false 0 v6 y3 yb
            rw [← ev]
            have g4 : v6.heap.size ≤ y3.heap.size := yb.size
            have l14 : n1 < y3.heap.size := P4.lt
            replace P4 := hk _ _ P4
            have l24 : n2 < y3.heap.size := P5.lt
            replace P5 := hk _ _ P5
            have l34 : n3 < y3.heap.size := P6.lt
            replace P6 := hk _ _ P6
            generalize y3.heap.size = n4 at *
            replace yb := hb'
            clear ev hk hb'
            refine wpAnyH_ready (rs := [8]) (by kernel_rfl) (by simp) ?_
            refine AllReadyH.cons rfl (fun K hK => ?_) AllReadyH.nil
            rw [if_pos (by rfl)]
            refine wp_store_mid 23 (.tmp 19) (.tmp 80) rfl n1 0 (hdL (⟨nm, vl, dm, pt, ex, se, ho, st⟩ : Hd)).toArray rfl rfl P4.wr (by kernel_rfl) (hdL_one _) ?_
            obtain ⟨z0, ev, Q4, hk, hz⟩ := P4.stored (⟨nm, vl, dm, pt, ex, se, ho, st⟩ : Hd) v6.heap.size v6 (by omega) yb
            rw [← ev]
            refine hK.out _ _ (R0.keep hz) (fun _ => ?_)
            clear hK K ev
            try simp only [List.getElem_toArray, List.getElem_cons_succ, List.getElem_cons_zero, Act.put]
            replace yb := hz
            replace P5 := hk _ _ (by omega) P5
            replace P6 := hk _ _ (by omega) P6
            replace P7 := hk _ _ (by omega) P7
            clear hk hz P4
            refine wpAnyH_ready (rs := [9]) (by kernel_rfl) (by simp) ?_
            refine AllReadyH.cons rfl (fun K hK => ?_) AllReadyH.nil
            rw [if_pos (by rfl)]
            refine wp_store_mid 23 (.tmp 20) (.tmp 81) rfl n2 0 (hdL (⟨nm, vl, dm, pt, ex, se, ho, st⟩ : Hd)).toArray rfl rfl P5.wr (by kernel_rfl) (hdL_one _) ?_
            obtain ⟨z1, ev, Q5, hk, hz⟩ := P5.stored (⟨nm, vl, dm, pt, ex, se, ho, st⟩ : Hd) v6.heap.size v6 (by omega) yb
            rw [← ev]
            refine hK.out _ _ (R0.keep hz) (fun _ => ?_)
            clear hK K ev
            try simp only [List.getElem_toArray, List.getElem_cons_succ, List.getElem_cons_zero, Act.put]
            replace yb := hz
            replace Q4 := hk _ _ (by omega) Q4
            replace P6 := hk _ _ (by omega) P6
            replace P7 := hk _ _ (by omega) P7
            clear hk hz P5
            refine wpAnyH_ready (rs := [10]) (by kernel_rfl) (by simp) ?_
            refine AllReadyH.cons rfl (fun K hK => ?_) AllReadyH.nil
            rw [if_pos (by rfl)]
            refine wp_store_mid 23 (.tmp 21) (.tmp 82) rfl n3 0 (hdL (⟨nm, vl, dm, pt, ex, se, ho, st⟩ : Hd)).toArray rfl rfl P6.wr (by kernel_rfl) (hdL_one _) ?_
            obtain ⟨z2, ev, Q6, hk, hz⟩ := P6.stored (⟨nm, vl, dm, pt, ex, se, ho, st⟩ : Hd) v6.heap.size v6 (by omega) yb
            rw [← ev]
            refine hK.out _ _ (R0.keep hz) (fun _ => ?_)
            clear hK K ev
            try simp only [List.getElem_toArray, List.getElem_cons_succ, List.getElem_cons_zero, Act.put]
            replace yb := hz
            replace Q4 := hk _ _ (by omega) Q4
            replace Q5 := hk _ _ (by omega) Q5
            replace P7 := hk _ _ (by omega) P7
            clear hk hz P6
            refine wpAnyH_ready (rs := [11]) (by kernel_rfl) (by simp) ?_
            refine AllReadyH.cons rfl (fun K hK => ?_) AllReadyH.nil
            rw [if_pos (by rfl)]
            refine wp_store_mid 23 (.tmp 22) (.tmp 83) rfl n4 0 (hdL (⟨nm, vl, dm, pt, ex, se, ho, st⟩ : Hd)).toArray rfl rfl P7.wr (by kernel_rfl) (hdL_one _) ?_
            obtain ⟨z3, ev, Q7, hk, hz⟩ := P7.stored (⟨nm, vl, dm, pt, ex, se, ho, st⟩ : Hd) v6.heap.size v6 (by omega) yb
            rw [← ev]
            refine hK.out _ _ (R0.keep hz) (fun _ => ?_)
            clear hK K ev
            try simp only [List.getElem_toArray, List.getElem_cons_succ, List.getElem_cons_zero, Act.put]
            replace yb := hz
            replace Q4 := hk _ _ (by omega) Q4
            replace Q5 := hk _ _ (by omega) Q5
            replace Q6 := hk _ _ (by omega) Q6
            clear hk hz P7
            refine wpAnyH_done (by kernel_rfl) ?_ _
            go_wp2_with fail
            go_meet
            case rel => exact ⟨rfl, rfl, rfl, rfl, n1, n2, n3, n4, rfl, rfl, rfl, rfl, ⟨yb, ⟨by omega, by omega, by omega, by omega⟩, ⟨by omega, by omega, by omega, by omega, by omega, by omega⟩, Q4, Q5, Q6, Q7⟩⟩
          exact AllReadyH.nil
        refine AllReadyH.cons rfl (fun K hK => ?_) ?_
        · go_simp
          refine hK.out _ _ ((R0.keep yb).alloc _) (fun _ => ?_)
          clear hK K
          try simp only [List.getElem_toArray, List.getElem_cons_succ, List.getElem_cons_zero, Act.put, List.setIfInBounds_toArray, List.set_cons_zero, List.set_cons_succ]
          obtain ⟨y3, ev, P7, hk, hb'⟩ := fresh_hd ⟨#[]⟩ ⟨#[]⟩ ⟨#[]⟩ ⟨#[]⟩ 0 false false 0 v6 y2 yb
          rw [← ev]
          have g3 : v6.heap.size ≤ y2.heap.size := yb.size
          have l13 : n1 < y2.heap.size := P4.lt
          replace P4 := hk _ _ P4
          have l23 : n2 < y2.heap.size := P5.lt
          replace P5 := hk _ _ P5
          generalize y2.heap.size = n3 at *
          replace yb := hb'
          clear ev hk hb'
          refine wpAnyH_ready (rs := [6]) (by kernel_rfl) (by simp) ?_
          refine AllReadyH.cons rfl (fun K hK => ?_) ?_
          · go_simp
            refine hK.out _ _ ((R0.keep yb).alloc _) (fun _ => ?_)
            clear hK K
            try simp only [List.getElem_toArray, List.getElem_cons_succ, List.getElem_cons_zero, Act.put, List.setIfInBounds_toArray, List.set_cons_zero, List.set_cons_succ]
            obtain ⟨y4, ev, P6, hk, hb'⟩ := fresh_hd ⟨#[]⟩ ⟨#[]⟩ ⟨#[]⟩ ⟨#[]⟩ 0 false false 0 v6 y3 yb
            rw [← ev]
            have g4 : v6.heap.size ≤ y3.heap.size := yb.size
            have l14 : n1 < y3.heap.size := P4.lt
            replace P4 := hk _ _ P4
            have l24 : n2 < y3.heap.size := P5.lt
            replace P5 := hk _ _ P5
            have l34 : n3 < y3.heap.size := P7.lt
            replace P7 := hk _ _ P7
            generalize y3.heap.size = n4 at *
            replace yb := hb'
            clear ev hk hb'
            refine wpAnyH_ready (rs := [8]) (by kernel_rfl) (by simp) ?_
            refine AllReadyH.cons rfl (fun K hK => ?_) AllReadyH.nil
            rw [if_pos (by rfl)]
            refine wp_store_mid 23 (.tmp 19) (.tmp 80) rfl n1 0 (hdL (⟨nm, vl, dm, pt, ex, se, ho, st⟩ : Hd)).toArray rfl rfl P4.wr (by kernel_rfl) (hdL_one _) ?_
            obtain ⟨z0, ev, Q4, hk, hz⟩ := P4.stored (⟨nm, vl, dm, pt, ex, se, ho, st⟩ : Hd) v6.heap.size v6 (by omega) yb
            rw [← ev]
            refine hK.out _ _ (R0.keep hz) (fun _ => ?_)
            clear hK K ev
            try simp only [List.getElem_toArray, List.getElem_cons_succ, List.getElem_cons_zero, Act.put]
            replace yb := hz
            replace P5 := hk _ _ (by omega) P5
            replace P6 := hk _ _ (by omega) P6
            replace P7 := hk _ _ (by omega) P7
            clear hk hz P4
            refine wpAnyH_ready (rs := [9]) (by kernel_rfl) (by simp) ?_
            refine AllReadyH.cons rfl (fun K hK => ?_) AllReadyH.nil
            rw [if_pos (by rfl)]
            refine wp_store_mid 23 (.tmp 20) (.tmp 81) rfl n2 0 (hdL (⟨nm, vl, dm, pt, ex, se, ho, st⟩ : Hd)).toArray rfl rfl P5.wr (by kernel_rfl) (hdL_one _) ?_
            obtain ⟨z1, ev, Q5, hk, hz⟩ := P5.stored (⟨nm, vl, dm, pt, ex, se, ho, st⟩ : Hd) v6.heap.size v6 (by omega) yb
            rw [← ev]
            refine hK.out _ _ (R0.keep hz) (fun _ => ?_)
            clear hK K ev
            try simp only [List.getElem_toArray, List.getElem_cons_succ, List.getElem_cons_zero, Act.put]
            replace yb := hz
            replace Q4 := hk _ _ (by omega) Q4
            replace P6 := hk _ _ (by omega) P6
            replace P7 := hk _ _ (by omega) P7
            clear hk hz P5
            refine wpAnyH_ready (rs := [10]) (by kernel_rfl) (by simp) ?_
            refine AllReadyH.cons rfl (fun K hK => ?_) AllReadyH.nil
            rw [if_pos (by rfl)]
            refine wp_store_mid 23 (.tmp 21) (.tmp 82) rfl n4 0 (hdL (⟨nm, vl, dm, pt, ex, se, ho, st⟩ : Hd)).toArray rfl rfl P6.wr (by kernel_rfl) (hdL_one _) ?_
            obtain ⟨z2, ev, Q6, hk, hz⟩ := P6.stored (⟨nm, vl, dm, pt, ex, se, ho, st⟩ : Hd) v6.heap.size v6 (by omega) yb
            rw [← ev]
            refine hK.out _ _ (R0.keep hz) (fun _ => ?_)
            clear hK K ev
            try simp only [List.getElem_toArray, List.getElem_cons_succ, List.getElem_cons_zero, Act.put]
            replace yb := hz
            replace Q4 := hk _ _ (by omega) Q4
            replace Q5 := hk _ _ (by omega) Q5
            replace P7 := hk _ _ (by omega) P7
            clear hk hz P6
            refine wpAnyH_ready (rs := [11]) (by kernel_rfl) (by simp) ?_
            refine AllReadyH.cons rfl (fun K hK => ?_) AllReadyH.nil
            rw [if_pos (by rfl)]
            refine wp_store_mid 23 (.tmp 22) (.tmp 83) rfl n3 0 (hdL (⟨nm, vl, dm, pt, ex, se, ho, st⟩ : Hd)).toArray rfl rfl P7.wr (by kernel_rfl) (hdL_one _) ?_
            obtain ⟨z3, ev, Q7, hk, hz⟩ := P7.stored (⟨nm, vl, dm, pt, ex, se, ho, st⟩ : Hd) v6.heap.size v6 (by omega) yb
            rw [← ev]
            refine hK.out _ _ (R0.keep hz) (fun _ => ?_)
            clear hK K ev
            try simp only [List.getElem_toArray, List.getElem_cons_succ, List.getElem_cons_zero, Act.put]
            replace yb := hz
            replace Q4 := hk _ _ (by omega) Q4
            replace Q5 := hk _ _ (by omega) Q5
            replace Q6 := hk _ _ (by omega) Q6
            clear hk hz P7
            refine wpAnyH_done (by kernel_rfl) ?_ _
            go_wp2_with fail
            go_meet
            case rel => exact ⟨rfl, rfl, rfl, rfl, n1, n2, n4, n3, rfl, rfl, rfl, rfl, ⟨yb, ⟨by omega, by omega, by omega, by omega⟩, ⟨by omega, by omega, by omega, by omega, by omega, by omega⟩, Q4, Q5, Q6, Q7⟩⟩
          exact AllReadyH.nil
        exact AllReadyH.nil
      refine AllReadyH.cons rfl (fun K hK => ?_) ?_
      · go_simp
        refine hK.out _ _ ((R0.keep yb).alloc _) (fun _ => ?_)
        clear hK K
        try simp only [List.getElem_toArray, List.getElem_cons_succ, List.getElem_cons_zero, Act.put, List.setIfInBounds_toArray, List.set_cons_zero, List.set_cons_succ]
        obtain ⟨y2, ev, P6, hk, hb'⟩ := fresh_hd ⟨#[]⟩ ⟨#[]⟩ ⟨#[]⟩ ⟨#[]⟩ 0 false false 0 v6 y1 yb
        rw [← ev]
        have g2 : v6.heap.size ≤ y1.heap.size := yb.size
        have l12 : n1 < y1.heap.size := P4.lt
        replace P4 := hk _ _ P4
        generalize y1.heap.size = n2 at *
        replace yb := hb'
        clear ev hk hb'
        refine wpAnyH_ready (rs := [5, 7]) (by kernel_rfl) (by simp) ?_
        refine AllReadyH.cons rfl (fun K hK => ?_) ?_
        · go_simp
          refine hK.out _ _ ((R0.keep yb).alloc _) (fun _ => ?_)
          clear hK K
          try simp only [List.getElem_toArray, List.getElem_cons_succ, List.getElem_cons_zero, Act.put, List.setIfInBounds_toArray, List.set_cons_zero, List.set_cons_succ]
          obtain ⟨y3, ev, P5, hk, hb'⟩ := fresh_hd ⟨#[]⟩ ⟨#[]⟩ ⟨#[]⟩ ⟨#[]⟩ 0 false false 0 v6 y2 yb
          rw [← ev]
          have g3 : v6.heap.size ≤ y2.heap.size := yb.size
          have l13 : n1 < y2.heap.size := P4.lt
          replace P4 := hk _ _ P4
          have l23 : n2 < y2.heap.size := P6.lt
          replace P6 := hk _ _ P6
          generalize y2.heap.size = n3 at *
          replace yb := hb'
          clear ev hk hb'
          refine wpAnyH_ready (rs := [7]) (by kernel_rfl) (by simp) ?_
          refine AllReadyH.cons rfl (fun K hK => ?_) ?_
          · go_simp
            refine hK.out _ _ ((R0.keep yb).alloc _) (fun _ => ?_)
            clear hK K
            try simp only [List.getElem_toArray, List.getElem_cons_succ, List.getElem_cons_zero, Act.put, List.setIfInBounds_toArray, List.set_cons_zero, List.set_cons_succ]
            obtain ⟨y4, ev, P7, hk, hb'⟩ := fresh_hd ⟨#[]⟩ ⟨#[]⟩ ⟨#[]⟩ ⟨#[]⟩ 0 false false 0 v6 y3 yb
            rw [← ev]
            have g4 : v6.heap.size ≤ y3.heap.size := yb.size
            have l14 : n1 < y3.heap.size := P4.lt
            replace P4 := hk _ _ P4
            have l24 : n2 < y3.heap.size := P6.lt
            replace P6 := hk _ _ P6
            have l34 : n3 < y3.heap.size := P5.lt
            replace P5 := hk _ _ P5
            generalize y3.heap.size = n4 at *
            replace yb := hb'
            clear ev hk hb'
            refine wpAnyH_ready (rs := [8]) (by kernel_rfl) (by simp) ?_
            refine AllReadyH.cons rfl (fun K hK => ?_) AllReadyH.nil
            rw [if_pos (by rfl)]
            refine wp_store_mid 23 (.tmp 19) (.tmp 80) rfl n1 0 (hdL (⟨nm, vl, dm, pt, ex, se, ho, st⟩ : Hd)).toArray rfl rfl P4.wr (by kernel_rfl) (hdL_one _) ?_
            obtain ⟨z0, ev, Q4, hk, hz⟩ := P4.stored (⟨nm, vl, dm, pt, ex, se, ho, st⟩ : Hd) v6.heap.size v6 (by omega) yb
            rw [← ev]
            refine hK.out _ _ (R0.keep hz) (fun _ => ?_)
            clear hK K ev
            try simp only [List.getElem_toArray, List.getElem_cons_succ, List.getElem_cons_zero, Act.put]
            replace yb := hz
            replace P5 := hk _ _ (by omega) P5
            replace P6 := hk _ _ (by omega) P6
            replace P7 := hk _ _ (by omega) P7
            clear hk hz P4
            refine wpAnyH_ready (rs := [9]) (by kernel_rfl) (by simp) ?_
            refine AllReadyH.cons rfl (fun K hK => ?_) AllReadyH.nil
            rw [if_pos (by rfl)]
            refine wp_store_mid 23 (.tmp 20) (.tmp 81) rfl n3 0 (hdL (⟨nm, vl, dm, pt, ex, se, ho, st⟩ : Hd)).toArray rfl rfl P5.wr (by kernel_rfl) (hdL_one _) ?_
            obtain ⟨z1, ev, Q5, hk, hz⟩ := P5.stored (⟨nm, vl, dm, pt, ex, se, ho, st⟩ : Hd) v6.heap.size v6 (by omega) yb
            rw [← ev]
            refine hK.out _ _ (R0.keep hz) (fun _ => ?_)
            clear hK K ev
            try simp only [List.getElem_toArray, List.getElem_cons_succ, List.getElem_cons_zero, Act.put]
            replace yb := hz
            replace Q4 := hk _ _ (by omega) Q4
            replace P6 := hk _ _ (by omega) P6
            replace P7 := hk _ _ (by omega) P7
            clear hk hz P5
            refine wpAnyH_ready (rs := [10]) (by kernel_rfl) (by simp) ?_
            refine AllReadyH.cons rfl (fun K hK => ?_) AllReadyH.nil
            rw [if_pos (by rfl)]
            refine wp_store_mid 23 (.tmp 21) (.tmp 82) rfl n2 0 (hdL (⟨nm, vl, dm, pt, ex, se, ho, st⟩ : Hd)).toArray rfl rfl P6.wr (by kernel_rfl) (hdL_one _) ?_
            obtain ⟨z2, ev, Q6, hk, hz⟩ := P6.stored (⟨nm, vl, dm, pt, ex, se, ho, st⟩ : Hd) v6.heap.size v6 (by omega) yb
            rw [← ev]
            refine hK.out _ _ (R0.keep hz) (fun _ => ?_)
            clear hK K ev
            try simp only [List.getElem_toArray, List.getElem_cons_succ, List.getElem_cons_zero, Act.put]
            replace yb := hz
            replace Q4 := hk _ _ (by omega) Q4
            replace Q5 := hk _ _ (by omega) Q5
            replace P7 := hk _ _ (by omega) P7
            clear hk hz P6
            refine wpAnyH_ready (rs := [11]) (by kernel_rfl) (by simp) ?_
            refine AllReadyH.cons rfl (fun K hK => ?_) AllReadyH.nil
            rw [if_pos (by rfl)]
            refine wp_store_mid 23 (.tmp 22) (.tmp 83) rfl n4 0 (hdL (⟨nm, vl, dm, pt, ex, se, ho, st⟩ : Hd)).toArray rfl rfl P7.wr (by kernel_rfl) (hdL_one _) ?_
            obtain ⟨z3, ev, Q7, hk, hz⟩ := P7.stored (⟨nm, vl, dm, pt, ex, se, ho, st⟩ : Hd) v6.heap.size v6 (by omega) yb
            rw [← ev]
            refine hK.out _ _ (R0.keep hz) (fun _ => ?_)
            clear hK K ev
            try simp only [List.getElem_toArray, List.getElem_cons_succ, List.getElem_cons_zero, Act.put]
            replace yb := hz
            replace Q4 := hk _ _ (by omega) Q4
            replace Q5 := hk _ _ (by omega) Q5
            replace Q6 := hk _ _ (by omega) Q6
            clear hk hz P7
            refine wpAnyH_done (by kernel_rfl) ?_ _
            go_wp2_with fail
            go_meet
            case rel => exact ⟨rfl, rfl, rfl, rfl, n1, n3, n2, n4, rfl, rfl, rfl, rfl, ⟨yb, ⟨by omega, by omega, by omega, by omega⟩, ⟨by omega, by omega, by omega, by omega, by omega, by omega⟩, Q4, Q5, Q6, Q7⟩⟩
          exact AllReadyH.nil
        refine AllReadyH.cons rfl (fun K hK => ?_) ?_
        · go_simp
          refine hK.out _ _ ((R0.keep yb).alloc _) (fun _ => ?_)
          clear hK K
          try simp only [List.getElem_toArray, List.getElem_cons_succ, List.getElem_cons_zero, Act.put, List.setIfInBounds_toArray, List.set_cons_zero, List.set_cons_succ]
          obtain ⟨y3, ev, P7, hk, hb'⟩ := fresh_hd ⟨#[]⟩ ⟨#[]⟩ ⟨#[]⟩ ⟨#[]⟩ 0 false false 0 v6 y2 yb
          rw [← ev]
          have g3 : v6.heap.size ≤ y2.heap.size := yb.size
          have l13 : n1 < y2.heap.size := P4.lt
          replace P4 := hk _ _ P4
          have l23 : n2 < y2.heap.size := P6.lt
          replace P6 := hk _ _ P6
          generalize y2.heap.size = n3 at *
          replace yb := hb'
          clear ev hk hb'
          refine wpAnyH_ready (rs := [5]) (by kernel_rfl) (by simp) ?_
          refine AllReadyH.cons rfl (fun K hK => ?_) ?_
          · go_simp
            refine hK.out _ _ ((R0.keep yb).alloc _) (fun _ => ?_)
            clear hK K
            try simp only [List.getElem_toArray, List.getElem_cons_succ, List.getElem_cons_zero, Act.put, List.setIfInBounds_toArray, List.set_cons_zero, List.set_cons_succ]
            obtain ⟨y4, ev, P5, hk, hb'⟩ := fresh_hd ⟨#[]⟩ ⟨#[]⟩ ⟨#[]⟩ ⟨#[]⟩ 0 false false 0 v6 y3 yb
            rw [← ev]
            have g4 : v6.heap.size ≤ y3.heap.size := yb.size
            have l14 : n1 < y3.heap.size := P4.lt
            replace P4 := hk _ _ P4
            have l24 : n2 < y3.heap.size := P6.lt
            replace P6 := hk _ _ P6
            have l34 : n3 < y3.heap.size := P7.lt
            replace P7 := hk _ _ P7
            generalize y3.heap.size = n4 at *
            replace yb := hb'
            clear ev hk hb'
            refine wpAnyH_ready (rs := [8]) (by kernel_rfl) (by simp) ?_
            refine AllReadyH.cons rfl (fun K hK => ?_) AllReadyH.nil
            rw [if_pos (by rfl)]
            refine wp_store_mid 23 (.tmp 19) (.tmp 80) rfl n1 0 (hdL (⟨nm, vl, dm, pt, ex, se, ho, st⟩ : Hd)).toArray rfl rfl P4.wr (by kernel_rfl) (hdL_one _) ?_
            obtain ⟨z0, ev, Q4, hk, hz⟩ := P4.stored (⟨nm, vl, dm, pt, ex, se, ho, st⟩ : Hd) v6.heap.size v6 (by omega) yb
            rw [← ev]
            refine hK.out _ _ (R0.keep hz) (fun _ => ?_)
            clear hK K ev
            try simp only [List.getElem_toArray, List.getElem_cons_succ, List.getElem_cons_zero, Act.put]
            replace yb := hz
            replace P5 := hk _ _ (by omega) P5
            replace P6 := hk _ _ (by omega) P6
            replace P7 := hk _ _ (by omega) P7
            clear hk hz P4
            refine wpAnyH_ready (rs := [9]) (by kernel_rfl) (by simp) ?_
            refine AllReadyH.cons rfl (fun K hK => ?_) AllReadyH.nil
            rw [if_pos (by rfl)]
            refine wp_store_mid 23 (.tmp 20) (.tmp 81) rfl n4 0 (hdL (⟨nm, vl, dm, pt, ex, se, ho, st⟩ : Hd)).toArray rfl rfl P5.wr (by kernel_rfl) (hdL_one _) ?_
            obtain ⟨z1, ev, Q5, hk, hz⟩ := P5.stored (⟨nm, vl, dm, pt, ex, se, ho, st⟩ : Hd) v6.heap.size v6 (by omega) yb
            rw [← ev]
            refine hK.out _ _ (R0.keep hz) (fun _ => ?_)
            clear hK K ev
            try simp only [List.getElem_toArray, List.getElem_cons_succ, List.getElem_cons_zero, Act.put]
            replace yb := hz
            replace Q4 := hk _ _ (by omega) Q4
            replace P6 := hk _ _ (by omega) P6
            replace P7 := hk _ _ (by omega) P7
            clear hk hz P5
            refine wpAnyH_ready (rs := [10]) (by kernel_rfl) (by simp) ?_
            refine AllReadyH.cons rfl (fun K hK => ?_) AllReadyH.nil
            rw [if_pos (by rfl)]
            refine wp_store_mid 23 (.tmp 21) (.tmp 82) rfl n2 0 (hdL (⟨nm, vl, dm, pt, ex, se, ho, st⟩ : Hd)).toArray rfl rfl P6.wr (by kernel_rfl) (hdL_one _) ?_
            obtain ⟨z2, ev, Q6, hk, hz⟩ := P6.stored (⟨nm, vl, dm, pt, ex, se, ho, st⟩ : Hd) v6.heap.size v6 (by omega) yb
            rw [← ev]
            refine hK.out _ _ (R0.keep hz) (fun _ => ?_)
            clear hK K ev
            try simp only [List.getElem_toArray, List.getElem_cons_succ, List.getElem_cons_zero, Act.put]
            replace yb := hz
            replace Q4 := hk _ _ (by omega) Q4
            replace Q5 := hk _ _ (by omega) Q5
            replace P7 := hk _ _ (by omega) P7
            clear hk hz P6
            refine wpAnyH_ready (rs := [11]) (by kernel_rfl) (by simp) ?_
            refine AllReadyH.cons rfl (fun K hK => ?_) AllReadyH.nil
            rw [if_pos (by rfl)]
            refine wp_store_mid 23 (.tmp 22) (.tmp 83) rfl n3 0 (hdL (⟨nm, vl, dm, pt, ex, se, ho, st⟩ : Hd)).toArray rfl rfl P7.wr (by kernel_rfl) (hdL_one _) ?_
            obtain ⟨z3, ev, Q7, hk, hz⟩ := P7.stored (⟨nm, vl, dm, pt, ex, se, ho, st⟩ : Hd) v6.heap.size v6 (by omega) yb
            rw [← ev]
            refine hK.out _ _ (R0.keep hz) (fun _ => ?_)
            clear hK K ev
            try simp only [List.getElem_toArray, List.getElem_cons_succ, List.getElem_cons_zero, Act.put]
            replace yb := hz
            replace Q4 := hk _ _ (by omega) Q4
            replace Q5 := hk _ _ (by omega) Q5
            replace Q6 := hk _ _ (by omega) Q6
            clear hk hz P7
            refine wpAnyH_done (by kernel_rfl) ?_ _
            go_wp2_with fail
            go_meet
            case rel => exact ⟨rfl, rfl, rfl, rfl, n1, n4, n2, n3, rfl, rfl, rfl, rfl, ⟨yb, ⟨by omega, by omega, by omega, by omega⟩, ⟨by omega, by omega, by omega, by omega, by omega, by omega⟩, Q4, Q5, Q6, Q7⟩⟩
          exact AllReadyH.nil
        exact AllReadyH.nil
      refine AllReadyH.cons rfl (fun K hK => ?_) ?_
      · go_simp
        refine hK.out _ _ ((R0.keep yb).alloc _) (fun _ => ?_)
        clear hK K
        try simp only [List.getElem_toArray, List.getElem_cons_succ, List.getElem_cons_zero, Act.put, List.setIfInBounds_toArray, List.set_cons_zero, List.set_cons_succ]
        obtain ⟨y2, ev, P7, hk, hb'⟩ := fresh_hd ⟨#[]⟩ ⟨#[]⟩ ⟨#[]⟩ ⟨#[]⟩ 0 false false 0 v6 y1 yb
        rw [← ev]
        have g2 : v6.heap.size ≤ y1.heap.size := yb.size
        have l12 : n1 < y1.heap.size := P4.lt
        replace P4 := hk _ _ P4
        generalize y1.heap.size = n2 at *
        replace yb := hb'
        clear ev hk hb'
        refine wpAnyH_ready (rs := [5, 6]) (by kernel_rfl) (by simp) ?_
        refine AllReadyH.cons rfl (fun K hK => ?_) ?_
        · go_simp
          refine hK.out _ _ ((R0.keep yb).alloc _) (fun _ => ?_)
          clear hK K
          try simp only [List.getElem_toArray, List.getElem_cons_succ, List.getElem_cons_zero, Act.put, List.setIfInBounds_toArray, List.set_cons_zero, List.set_cons_succ]
          obtain ⟨y3, ev, P5, hk, hb'⟩ := fresh_hd ⟨#[]⟩ ⟨#[]⟩ ⟨#[]⟩ ⟨#[]⟩ 0 false false 0 v6 y2 yb
          rw [← ev]
          have g3 : v6.heap.size ≤ y2.heap.size := yb.size
          have l13 : n1 < y2.heap.size := P4.lt
          replace P4 := hk _ _ P4
          have l23 : n2 < y2.heap.size := P7.lt
          replace P7 := hk _ _ P7
          generalize y2.heap.size = n3 at *
          replace yb := hb'
          clear ev hk hb'
          refine wpAnyH_ready (rs := [6]) (by kernel_rfl) (by simp) ?_
          refine AllReadyH.cons rfl (fun K hK => ?_) ?_
          · go_simp
            refine hK.out _ _ ((R0.keep yb).alloc _) (fun _ => ?_)
            clear hK K
            try simp only [List.getElem_toArray, List.getElem_cons_succ, List.getElem_cons_zero, Act.put, List.setIfInBounds_toArray, List.set_cons_zero, List.set_cons_succ]
            obtain ⟨y4, ev, P6, hk, hb'⟩ := fresh_hd ⟨#[]⟩ ⟨#[]⟩ ⟨#[]⟩ ⟨#[]⟩ 0 false false 0 v6 y3 yb
            rw [← ev]
            have g4 : v6.heap.size ≤ y3.heap.size := yb.size
            have l14 : n1 < y3.heap.size := P4.lt
            replace P4 := hk _ _ P4
            have l24 : n2 < y3.heap.size := P7.lt
            replace P7 := hk _ _ P7
            have l34 : n3 < y3.heap.size := P5.lt
            replace P5 := hk _ _ P5
            generalize y3.heap.size = n4 at *
            replace yb := hb'
            clear ev hk hb'
            refine wpAnyH_ready (rs := [8]) (by kernel_rfl) (by simp) ?_
            refine AllReadyH.cons rfl (fun K hK => ?_) AllReadyH.nil
            rw [if_pos (by rfl)]
            refine wp_store_mid 23 (.tmp 19) (.tmp 80) rfl n1 0 (hdL (⟨nm, vl, dm, pt, ex, se, ho, st⟩ : Hd)).toArray rfl rfl P4.wr (by kernel_rfl) (hdL_one _) ?_
            obtain ⟨z0, ev, Q4, hk, hz⟩ := P4.stored (⟨nm, vl, dm, pt, ex, se, ho, st⟩ : Hd) v6.heap.size v6 (by omega) yb
            rw [← ev]
            refine hK.out _ _ (R0.keep hz) (fun _ => ?_)
            clear hK K ev
            try simp only [List.getElem_toArray, List.getElem_cons_succ, List.getElem_cons_zero, Act.put]
            replace yb := hz
            replace P5 := hk _ _ (by omega) P5
            replace P6 := hk _ _ (by omega) P6
            replace P7 := hk _ _ (by omega) P7
            clear hk hz P4
            refine wpAnyH_ready (rs := [9]) (by kernel_rfl) (by simp) ?_
            refine AllReadyH.cons rfl (fun K hK => ?_) AllReadyH.nil
            rw [if_pos (by rfl)]
            refine wp_store_mid 23 (.tmp 20) (.tmp 81) rfl n3 0 (hdL (⟨nm, vl, dm, pt, ex, se, ho, st⟩ : Hd)).toArray rfl rfl P5.wr (by kernel_rfl) (hdL_one _) ?_
            obtain ⟨z1, ev, Q5, hk, hz⟩ := P5.stored (⟨nm, vl, dm, pt, ex, se, ho, st⟩ : Hd) v6.heap.size v6 (by omega) yb
            rw [← ev]
            refine hK.out _ _ (R0.keep hz) (fun _ => ?_)
            clear hK K ev
            try simp only [List.getElem_toArray, List.getElem_cons_succ, List.getElem_cons_zero, Act.put]
            replace yb := hz
            replace Q4 := hk _ _ (by omega) Q4
            replace P6 := hk _ _ (by omega) P6
            replace P7 := hk _ _ (by omega) P7
            clear hk hz P5
            refine wpAnyH_ready (rs := [10]) (by kernel_rfl) (by simp) ?_
            refine AllReadyH.cons rfl (fun K hK => ?_) AllReadyH.nil
            rw [if_pos (by rfl)]
            refine wp_store_mid 23 (.tmp 21) (.tmp 82) rfl n4 0 (hdL (⟨nm, vl, dm, pt, ex, se, ho, st⟩ : Hd)).toArray rfl rfl P6.wr (by kernel_rfl) (hdL_one _) ?_
            obtain ⟨z2, ev, Q6, hk, hz⟩ := P6.stored (⟨nm, vl, dm, pt, ex, se, ho, st⟩ : Hd) v6.heap.size v6 (by omega) yb
            rw [← ev]
            refine hK.out _ _ (R0.keep hz) (fun _ => ?_)
            clear hK K ev
            try simp only [List.getElem_toArray, List.getElem_cons_succ, List.getElem_cons_zero, Act.put]
            replace yb := hz
            replace Q4 := hk _ _ (by omega) Q4
            replace Q5 := hk _ _ (by omega) Q5
            replace P7 := hk _ _ (by omega) P7
            clear hk hz P6
            refine wpAnyH_ready (rs := [11]) (by kernel_rfl) (by simp) ?_
            refine AllReadyH.cons rfl (fun K hK => ?_) AllReadyH.nil
            rw [if_pos (by rfl)]
            refine wp_store_mid 23 (.tmp 22) (.tmp 83) rfl n2 0 (hdL (⟨nm, vl, dm, pt, ex, se, ho, st⟩ : Hd)).toArray rfl rfl P7.wr (by kernel_rfl) (hdL_one _) ?_
            obtain ⟨z3, ev, Q7, hk, hz⟩ := P7.stored (⟨nm, vl, dm, pt, ex, se, ho, st⟩ : Hd) v6.heap.size v6 (by omega) yb
            rw [← ev]
            refine hK.out _ _ (R0.keep hz) (fun _ => ?_)
            clear hK K ev
            try simp only [List.getElem_toArray, List.getElem_cons_succ, List.getElem_cons_zero, Act.put]
            replace yb := hz
            replace Q4 := hk _ _ (by omega) Q4
            replace Q5 := hk _ _ (by omega) Q5
            replace Q6 := hk _ _ (by omega) Q6
            clear hk hz P7
            refine wpAnyH_done (by kernel_rfl) ?_ _
            go_wp2_with fail
            go_meet
            case rel => exact ⟨rfl, rfl, rfl, rfl, n1, n3, n4, n2, rfl, rfl, rfl, rfl, ⟨yb, ⟨by omega, by omega, by omega, by omega⟩, ⟨by omega, by omega, by omega, by omega, by omega, by omega⟩, Q4, Q5, Q6, Q7⟩⟩
          exact AllReadyH.nil
        refine AllReadyH.cons rfl (fun K hK => ?_) ?_
        · go_simp
          refine hK.out _ _ ((R0.keep yb).alloc _) (fun _ => ?_)
          clear hK K
          try simp only [List.getElem_toArray, List.getElem_cons_succ, List.getElem_cons_zero, Act.put, List.setIfInBounds_toArray, List.set_cons_zero, List.set_cons_succ]
          obtain ⟨y3, ev, P6, hk, hb'⟩ := fresh_hd ⟨#[]⟩ ⟨#[]⟩ ⟨#[]⟩ ⟨#[]⟩ 0 false false 0 v6 y2 yb
          rw [← ev]
          have g3 : v6.heap.size ≤ y2.heap.size := yb.size
          have l13 : n1 < y2.heap.size := P4.lt
          replace P4 := hk _ _ P4
          have l23 : n2 < y2.heap.size := P7.lt
          replace P7 := hk _ _ P7
          generalize y2.heap.size = n3 at *
          replace yb := hb'
          clear ev hk hb'
          refine wpAnyH_ready (rs := [5]) (by kernel_rfl) (by simp) ?_
          refine AllReadyH.cons rfl (fun K hK => ?_) ?_
          · go_simp
            refine hK.out _ _ ((R0.keep yb).alloc _) (fun _ => ?_)
            clear hK K
            try simp only [List.getElem_toArray, List.getElem_cons_succ, List.getElem_cons_zero, Act.put, List.setIfInBounds_toArray, List.set_cons_zero, List.set_cons_succ]
            obtain ⟨y4, ev, P5, hk, hb'⟩ := fresh_hd ⟨#[]⟩ ⟨#[]⟩ ⟨#[]⟩ ⟨#[]⟩ 0 false false 0 v6 y3 yb
            rw [← ev]
            have g4 : v6.heap.size ≤ y3.heap.size := yb.size
            have l14 : n1 < y3.heap.size := P4.lt
            replace P4 := hk _ _ P4
            have l24 : n2 < y3.heap.size := P7.lt
            replace P7 := hk _ _ P7
            have l34 : n3 < y3.heap.size := P6.lt
            replace P6 := hk _ _ P6
            generalize y3.heap.size = n4 at *
            replace yb := hb'
            clear ev hk hb'
            refine wpAnyH_ready (rs := [8]) (by kernel_rfl) (by simp) ?_
            refine AllReadyH.cons rfl (fun K hK => ?_) AllReadyH.nil
            rw [if_pos (by rfl)]
            refine wp_store_mid 23 (.tmp 19) (.tmp 80) rfl n1 0 (hdL (⟨nm, vl, dm, pt, ex, se, ho, st⟩ : Hd)).toArray rfl rfl P4.wr (by kernel_rfl) (hdL_one _) ?_
            obtain ⟨z0, ev, Q4, hk, hz⟩ := P4.stored (⟨nm, vl, dm, pt, ex, se, ho, st⟩ : Hd) v6.heap.size v6 (by omega) yb
            rw [← ev]
            refine hK.out _ _ (R0.keep hz) (fun _ => ?_)
            clear hK K ev
            try simp only [List.getElem_toArray, List.getElem_cons_succ, List.getElem_cons_zero, Act.put]
            replace yb := hz
            replace P5 := hk _ _ (by omega) P5
            replace P6 := hk _ _ (by omega) P6
            replace P7 := hk _ _ (by omega) P7
            clear hk hz P4
            refine wpAnyH_ready (rs := [9]) (by kernel_rfl) (by simp) ?_
            refine AllReadyH.cons rfl (fun K hK => ?_) AllReadyH.nil
            rw [if_pos (by rfl)]
            refine wp_store_mid 23 (.tmp 20) (.tmp 81) rfl n4 0 (hdL (⟨nm, vl, dm, pt, ex, se, ho, st⟩ : Hd)).toArray rfl rfl P5.wr (by kernel_rfl) (hdL_one _) ?_
            obtain ⟨z1, ev, Q5, hk, hz⟩ := P5.stored (⟨nm, vl, dm, pt, ex, se, ho, st⟩ : Hd) v6.heap.size v6 (by omega) yb
            rw [← ev]
            refine hK.out _ _ (R0.keep hz) (fun _ => ?_)
            clear hK K ev
            try simp only [List.getElem_toArray, List.getElem_cons_succ, List.getElem_cons_zero, Act.put]
            replace yb := hz
            replace Q4 := hk _ _ (by omega) Q4
            replace P6 := hk _ _ (by omega) P6
            replace P7 := hk _ _ (by omega) P7
            clear hk hz P5
            refine wpAnyH_ready (rs := [10]) (by kernel_rfl) (by simp) ?_
            refine AllReadyH.cons rfl (fun K hK => ?_) AllReadyH.nil
            rw [if_pos (by rfl)]
            refine wp_store_mid 23 (.tmp 21) (.tmp 82) rfl n3 0 (hdL (⟨nm, vl, dm, pt, ex, se, ho, st⟩ : Hd)).toArray rfl rfl P6.wr (by kernel_rfl) (hdL_one _) ?_
            obtain ⟨z2, ev, Q6, hk, hz⟩ := P6.stored (⟨nm, vl, dm, pt, ex, se, ho, st⟩ : Hd) v6.heap.size v6 (by omega) yb
            rw [← ev]
            refine hK.out _ _ (R0.keep hz) (fun _ => ?_)
            clear hK K ev
            try simp only [List.getElem_toArray, List.getElem_cons_succ, List.getElem_cons_zero, Act.put]
            replace yb := hz
            replace Q4 := hk _ _ (by omega) Q4
            replace Q5 := hk _ _ (by omega) Q5
            replace P7 := hk _ _ (by omega) P7
            clear hk hz P6
            refine wpAnyH_ready (rs := [11]) (by kernel_rfl) (by simp) ?_
            refine AllReadyH.cons rfl (fun K hK => ?_) AllReadyH.nil
            rw [if_pos (by rfl)]
            refine wp_store_mid 23 (.tmp 22) (.tmp 83) rfl n2 0 (hdL (⟨nm, vl, dm, pt, ex, se, ho, st⟩ : Hd)).toArray rfl rfl P7.wr (by kernel_rfl) (hdL_one _) ?_
            obtain ⟨z3, ev, Q7, hk, hz⟩ := P7.stored (⟨nm, vl, dm, pt, ex, se, ho, st⟩ : Hd) v6.heap.size v6 (by omega) yb
            rw [← ev]
            refine hK.out _ _ (R0.keep hz) (fun _ => ?_)
            clear hK K ev
            try simp only [List.getElem_toArray, List.getElem_cons_succ, List.getElem_cons_zero, Act.put]
            replace yb := hz
            replace Q4 := hk _ _ (by omega) Q4
            replace Q5 := hk _ _ (by omega) Q5
            replace Q6 := hk _ _ (by omega) Q6
            clear hk hz P7
            refine wpAnyH_done (by kernel_rfl) ?_ _
            go_wp2_with fail
            go_meet
            case rel => exact ⟨rfl, rfl, rfl, rfl, n1, n4, n3, n2, rfl, rfl, rfl, rfl, ⟨yb, ⟨by omega, by omega, by omega, by omega⟩, ⟨by omega, by omega, by omega, by omega, by omega, by omega⟩, Q4, Q5, Q6, Q7⟩⟩
          exact AllReadyH.nil
        exact AllReadyH.nil
      exact AllReadyH.nil
    refine AllReadyH.cons rfl (fun K hK => ?_) ?_
    · go_simp
      refine hK.out _ _ ((R0.keep yb).alloc _) (fun _ => ?_)
      clear hK K
      try simp only [List.getElem_toArray, List.getElem_cons_succ, List.getElem_cons_zero, Act.put, List.setIfInBounds_toArray, List.set_cons_zero, List.set_cons_succ]
      obtain ⟨y1, ev, P5, hk, hb'⟩ := fresh_hd ⟨#[]⟩ ⟨#[]⟩ ⟨#[]⟩ ⟨#[]⟩ 0 false false 0 v6 yd yb
      rw [← ev]
      have g1 : v6.heap.size ≤ yd.heap.size := yb.size
      generalize yd.heap.size = n1 at *
      replace yb := hb'
      clear ev hk hb'
      refine wpAnyH_ready (rs := [4, 6, 7]) (by kernel_rfl) (by simp) ?_
      refine AllReadyH.cons rfl (fun K hK => ?_) ?_
      · go_simp
        refine hK.out _ _ ((R0.keep yb).alloc _) (fun _ => ?_)
        clear hK K
        try simp only [List.getElem_toArray, List.getElem_cons_succ, List.getElem_cons_zero, Act.put, List.setIfInBounds_toArray, List.set_cons_zero, List.set_cons_succ]
        obtain ⟨y2, ev, P4, hk, hb'⟩ := fresh_hd ⟨#[]⟩ ⟨#[]⟩ ⟨#[]⟩ ⟨#[]⟩ 0 false false 0 v6 y1 yb
        rw [← ev]
        have g2 : v6.heap.size ≤ y1.heap.size := yb.size
        have l12 : n1 < y1.heap.size := P5.lt
        replace P5 := hk _ _ P5
        generalize y1.heap.size = n2 at *
        replace yb := hb'
        clear ev hk hb'
        refine wpAnyH_ready (rs := [6, 7]) (by kernel_rfl) (by simp) ?_
        refine AllReadyH.cons rfl (fun K hK => ?_) ?_
        · go_simp
          refine hK.out _ _ ((R0.keep yb).alloc _) (fun _ => ?_)
          clear hK K
          try simp only [List.getElem_toArray, List.getElem_cons_succ, List.getElem_cons_zero, Act.put, List.setIfInBounds_toArray, List.set_cons_zero, List.set_cons_succ]
          obtain ⟨y3, ev, P6, hk, hb'⟩ := fresh_hd ⟨#[]⟩ ⟨#[]⟩ ⟨#[]⟩ ⟨#[]⟩ 0 false false 0 v6 y2 yb
          rw [← ev]
          have g3 : v6.heap.size ≤ y2.heap.size := yb.size
          have l13 : n1 < y2.heap.size := P5.lt
          replace P5 := hk _ _ P5
          have l23 : n2 < y2.heap.size := P4.lt
          replace P4 := hk _ _ P4
          generalize y2.heap.size = n3 at *
          replace yb := hb'
          clear ev hk hb'
          refine wpAnyH_ready (rs := [7]) (by kernel_rfl) (by simp) ?_
          refine AllReadyH.cons rfl (fun K hK => ?_) ?_
          · go_simp
            refine hK.out _ _ ((R0.keep yb).alloc _) (fun _ => ?_)
            clear hK K
            try simp only [List.getElem_toArray, List.getElem_cons_succ, List.getElem_cons_zero, Act.put, List.setIfInBounds_toArray, List.set_cons_zero, List.set_cons_succ]
            obtain ⟨y4, ev, P7, hk, hb'⟩ := fresh_hd ⟨#[]⟩ ⟨#[]⟩ ⟨#[]⟩ ⟨#[]⟩ 0 false false 0 v6 y3 yb
            rw [← ev]
            have g4 : v6.heap.size ≤ y3.heap.size := yb.size
            have l14 : n1 < y3.heap.size := P5.lt
            replace P5 := hk _ _ P5
            have l24 : n2 < y3.heap.size := P4.lt
            replace P4 := hk _ _ P4
            have l34 : n3 < y3.heap.size := P6.lt
            replace P6 := hk _ _ P6
            generalize y3.heap.size = n4 at *
            replace yb := hb'
            clear ev hk hb'
            refine wpAnyH_ready (rs := [8]) (by kernel_rfl) (by simp) ?_
            refine AllReadyH.cons rfl (fun K hK => ?_) AllReadyH.nil
            rw [if_pos (by rfl)]
            refine wp_store_mid 23 (.tmp 19) (.tmp 80) rfl n2 0 (hdL (⟨nm, vl, dm, pt, ex, se, ho, st⟩ : Hd)).toArray rfl rfl P4.wr (by kernel_rfl) (hdL_one _) ?_
            obtain ⟨z0, ev, Q4, hk, hz⟩ := P4.stored (⟨nm, vl, dm, pt, ex, se, ho, st⟩ : Hd) v6.heap.size v6 (by omega) yb
            rw [← ev]
            refine hK.out _ _ (R0.keep hz) (fun _ => ?_)
            clear hK K ev
            try simp only [List.getElem_toArray, List.getElem_cons_succ, List.getElem_cons_zero, Act.put]
            replace yb := hz
            replace P5 := hk _ _ (by omega) P5
            replace P6 := hk _ _ (by omega) P6
            replace P7 := hk _ _ (by omega) P7
            clear hk hz P4
            refine wpAnyH_ready (rs := [9]) (by kernel_rfl) (by simp) ?_
            refine AllReadyH.cons rfl (fun K hK => ?_) AllReadyH.nil
            rw [if_pos (by rfl)]
            refine wp_store_mid 23 (.tmp 20) (.tmp 81) rfl n1 0 (hdL (⟨nm, vl, dm, pt, ex, se, ho, st⟩ : Hd)).toArray rfl rfl P5.wr (by kernel_rfl) (hdL_one _) ?_
            obtain ⟨z1, ev, Q5, hk, hz⟩ := P5.stored (⟨nm, vl, dm, pt, ex, se, ho, st⟩ : Hd) v6.heap.size v6 (by omega) yb
            rw [← ev]
            refine hK.out _ _ (R0.keep hz) (fun _ => ?_)
            clear hK K ev
            try simp only [List.getElem_toArray, List.getElem_cons_succ, List.getElem_cons_zero, Act.put]
            replace yb := hz
            replace Q4 := hk _ _ (by omega) Q4
            replace P6 := hk _ _ (by omega) P6
            replace P7 := hk _ _ (by omega) P7
            clear hk hz P5
            refine wpAnyH_ready (rs := [10]) (by kernel_rfl) (by simp) ?_
            refine AllReadyH.cons rfl (fun K hK => ?_) AllReadyH.nil
            rw [if_pos (by rfl)]
            refine wp_store_mid 23 (.tmp 21) (.tmp 82) rfl n3 0 (hdL (⟨nm, vl, dm, pt, ex, se, ho, st⟩ : Hd)).toArray rfl rfl P6.wr (by kernel_rfl) (hdL_one _) ?_
            obtain ⟨z2, ev, Q6, hk, hz⟩ := P6.stored (⟨nm, vl, dm, pt, ex, se, ho, st⟩ : Hd) v6.heap.size v6 (by omega) yb
            rw [← ev]
            refine hK.out _ _ (R0.keep hz) (fun _ => ?_)
            clear hK K ev
            try simp only [List.getElem_toArray, List.getElem_cons_succ, List.getElem_cons_zero, Act.put]
            replace yb := hz
            replace Q4 := hk _ _ (by omega) Q4
            replace Q5 := hk _ _ (by omega) Q5
            replace P7 := hk _ _ (by omega) P7
            clear hk hz P6
            refine wpAnyH_ready (rs := [11]) (by kernel_rfl) (by simp) ?_
            refine AllReadyH.cons rfl (fun K hK => ?_) AllReadyH.nil
            rw [if_pos (by rfl)]
            refine wp_store_mid 23 (.tmp 22) (.tmp 83) rfl n4 0 (hdL (⟨nm, vl, dm, pt, ex, se, ho, st⟩ : Hd)).toArray rfl rfl P7.wr (by kernel_rfl) (hdL_one _) ?_
            obtain ⟨z3, ev, Q7, hk, hz⟩ := P7.stored (⟨nm, vl, dm, pt, ex, se, ho, st⟩ : Hd) v6.heap.size v6 (by omega) yb
            rw [← ev]
            refine hK.out _ _ (R0.keep hz) (fun _ => ?_)
            clear hK K ev
            try simp only [List.getElem_toArray, List.getElem_cons_succ, List.getElem_cons_zero, Act.put]
            replace yb := hz
            replace Q4 := hk _ _ (by omega) Q4
            replace Q5 := hk _ _ (by omega) Q5
            replace Q6 := hk _ _ (by omega) Q6
            clear hk hz P7
            refine wpAnyH_done (by kernel_rfl) ?_ _
            go_wp2_with fail
            go_meet
            case rel => exact ⟨rfl, rfl, rfl, rfl, n2, n1, n3, n4, rfl, rfl, rfl, rfl, ⟨yb, ⟨by omega, by omega, by omega, by omega⟩, ⟨by omega, by omega, by omega, by omega, by omega, by omega⟩, Q4, Q5, Q6, Q7⟩⟩
          exact AllReadyH.nil
        refine AllReadyH.cons rfl (fun K hK => ?_) ?_
        · go_simp
          refine hK.out _ _ ((R0.keep yb).alloc _) (fun _ => ?_)
          clear hK K
          try simp only [List.getElem_toArray, List.getElem_cons_succ, List.getElem_cons_zero, Act.put, List.setIfInBounds_toArray, List.set_cons_zero, List.set_cons_succ]
          obtain ⟨y3, ev, P7, hk, hb'⟩ := fresh_hd ⟨#[]⟩ ⟨#[]⟩ ⟨#[]⟩ ⟨#[]⟩ 0 false false 0 v6 y2 yb
          rw [← ev]
          have g3 : v6.heap.size ≤ y2.heap.size := yb.size
          have l13 : n1 < y2.heap.size := P5.lt
          replace P5 := hk _ _ P5
          have l23 : n2 < y2.heap.size := P4.lt
          replace P4 := hk _ _ P4
          generalize y2.heap.size = n3 at *
          replace yb := hb'
          clear ev hk hb'
          refine wpAnyH_ready (rs := [6]) (by kernel_rfl) (by simp) ?_
          refine AllReadyH.cons rfl (fun K hK => ?_) ?_
          · go_simp
            refine hK.out _ _ ((R0.keep yb).alloc _) (fun _ => ?_)
            clear hK K
            try simp only [List.getElem_toArray, List.getElem_cons_succ, List.getElem_cons_zero, Act.put, List.setIfInBounds_toArray, List.set_cons_zero, List.set_cons_succ]
            obtain ⟨y4, ev, P6, hk, hb'⟩ := fresh_hd ⟨#[]⟩ ⟨#[]⟩ ⟨#[]⟩ ⟨#[]⟩ 0 false false 0 v6 y3 yb
            rw [← ev]
            have g4 : v6.heap.size ≤ y3.heap.size := yb.size
            have l14 : n1 < y3.heap.size := P5.lt
            replace P5 := hk _ _ P5
            have l24 : n2 < y3.heap.size := P4.lt
            replace P4 := hk _ _ P4
            have l34 : n3 < y3.heap.size := P7.lt
            replace P7 := hk _ _ P7
            generalize y3.heap.size = n4 at *
            replace yb := hb'
            clear ev hk hb'
            refine wpAnyH_ready (rs := [8]) (by kernel_rfl) (by simp) ?_
            refine AllReadyH.cons rfl (fun K hK => ?_) AllReadyH.nil
            rw [if_pos (by rfl)]
            refine wp_store_mid 23 (.tmp 19) (.tmp 80) rfl n2 0 (hdL (⟨nm, vl, dm, pt, ex, se, ho, st⟩ : Hd)).toArray rfl rfl P4.wr (by kernel_rfl) (hdL_one _) ?_
            obtain ⟨z0, ev, Q4, hk, hz⟩ := P4.stored (⟨nm, vl, dm, pt, ex, se, ho, st⟩ : Hd) v6.heap.size v6 (by omega) yb
            rw [← ev]
            refine hK.out _ _ (R0.keep hz) (fun _ => ?_)
            clear hK K ev
            try simp only [List.getElem_toArray, List.getElem_cons_succ, List.getElem_cons_zero, Act.put]
            replace yb := hz
            replace P5 := hk _ _ (by omega) P5
            replace P6 := hk _ _ (by omega) P6
            replace P7 := hk _ _ (by omega) P7
            clear hk hz P4
            refine wpAnyH_ready (rs := [9]) (by kernel_rfl) (by simp) ?_
            refine AllReadyH.cons rfl (fun K hK => ?_) AllReadyH.nil
            rw [if_pos (by rfl)]
            refine wp_store_mid 23 (.tmp 20) (.tmp 81) rfl n1 0 (hdL (⟨nm, vl, dm, pt, ex, se, ho, st⟩ : Hd)).toArray rfl rfl P5.wr (by kernel_rfl) (hdL_one _) ?_
            obtain ⟨z1, ev, Q5, hk, hz⟩ := P5.stored (⟨nm, vl, dm, pt, ex, se, ho, st⟩ : Hd) v6.heap.size v6 (by omega) yb
            rw [← ev]
            refine hK.out _ _ (R0.keep hz) (fun _ => ?_)
            clear hK K ev
            try simp only [List.getElem_toArray, List.getElem_cons_succ, List.getElem_cons_zero, Act.put]
            replace yb := hz
            replace Q4 := hk _ _ (by omega) Q4
            replace P6 := hk _ _ (by omega) P6
            replace P7 := hk _ _ (by omega) P7
            clear hk hz P5
            refine wpAnyH_ready (rs := [10]) (by kernel_rfl) (by simp) ?_
            refine AllReadyH.cons rfl (fun K hK => ?_) AllReadyH.nil
            rw [if_pos (by rfl)]
            refine wp_store_mid 23 (.tmp 21) (.tmp 82) rfl n4 0 (hdL (⟨nm, vl, dm, pt, ex, se, ho, st⟩ : Hd)).toArray rfl rfl P6.wr (by kernel_rfl) (hdL_one _) ?_
            obtain ⟨z2, ev, Q6, hk, hz⟩ := P6.stored (⟨nm, vl, dm, pt, ex, se, ho, st⟩ : Hd) v6.heap.size v6 (by omega) yb
            rw [← ev]
            refine hK.out _ _ (R0.keep hz) (fun _ => ?_)
            clear hK K ev
            try simp only [List.getElem_toArray, List.getElem_cons_succ, List.getElem_cons_zero, Act.put]
            replace yb := hz
            replace Q4 := hk _ _ (by omega) Q4
            replace Q5 := hk _ _ (by omega) Q5
            replace P7 := hk _ _ (by omega) P7
            clear hk hz P6
            refine wpAnyH_ready (rs := [11]) (by kernel_rfl) (by simp) ?_
            refine AllReadyH.cons rfl (fun K hK => ?_) AllReadyH.nil
            rw [if_pos (by rfl)]
            refine wp_store_mid 23 (.tmp 22) (.tmp 83) rfl n3 0 (hdL (⟨nm, vl, dm, pt, ex, se, ho, st⟩ : Hd)).toArray rfl rfl P7.wr (by kernel_rfl) (hdL_one _) ?_
            obtain ⟨z3, ev, Q7, hk, hz⟩ := P7.stored (⟨nm, vl, dm, pt, ex, se, ho, st⟩ : Hd) v6.heap.size v6 (by omega) yb
            rw [← ev]
            refine hK.out _ _ (R0.keep hz) (fun _ => ?_)
            clear hK K ev
            try simp only [List.getElem_toArray, List.getElem_cons_succ, List.getElem_cons_zero, Act.put]
            replace yb := hz
            replace Q4 := hk _ _ (by omega) Q4
            replace Q5 := hk _ _ (by omega) Q5
            replace Q6 := hk _ _ (by omega) Q6
            clear hk hz P7
            refine wpAnyH_done (by kernel_rfl) ?_ _
            go_wp2_with fail
            go_meet
            case rel => exact ⟨rfl, rfl, rfl, rfl, n2, n1, n4, n3, rfl, rfl, rfl, rfl, ⟨yb, ⟨by omega, by omega, by omega, by omega⟩, ⟨by omega, by omega, by omega, by omega, by omega, by omega⟩, Q4, Q5, Q6, Q7⟩⟩
          exact AllReadyH.nil
        exact AllReadyH.nil
      refine AllReadyH.cons rfl (fun K hK => ?_) ?_
      · go_simp
        refine hK.out _ _ ((R0.keep yb).alloc _) (fun _ => ?_)
        clear hK K
        try simp only [List.getElem_toArray, List.getElem_cons_succ, List.getElem_cons_zero, Act.put, List.setIfInBounds_toArray, List.set_cons_zero, List.set_cons_succ]
        obtain ⟨y2, ev, P6, hk, hb'⟩ := fresh_hd ⟨#[]⟩ ⟨#[]⟩ ⟨#[]⟩ ⟨#[]⟩ 0 false false 0 v6 y1 yb
        rw [← ev]
        have g2 : v6.heap.size ≤ y1.heap.size := yb.size
        have l12 : n1 < y1.heap.size := P5.lt
        replace P5 := hk _ _ P5
        generalize y1.heap.size = n2 at *
        replace yb := hb'
        clear ev hk hb'
        refine wpAnyH_ready (rs := [4, 7]) (by kernel_rfl) (by simp) ?_
        refine AllReadyH.cons rfl (fun K hK => ?_) ?_
        · go_simp
          refine hK.out _ _ ((R0.keep yb).alloc _) (fun _ => ?_)
          clear hK K
          try simp only [List.getElem_toArray, List.getElem_cons_succ, List.getElem_cons_zero, Act.put, List.setIfInBounds_toArray, List.set_cons_zero, List.set_cons_succ]
          obtain ⟨y3, ev, P4, hk, hb'⟩ := fresh_hd ⟨#[]⟩ ⟨#[]⟩ ⟨#[]⟩ ⟨#[]⟩ 0 false false 0 v6 y2 yb
          rw [← ev]
          have g3 : v6.heap.size ≤ y2.heap.size := yb.size
          have l13 : n1 < y2.heap.size := P5.lt
          replace P5 := hk _ _ P5
          have l23 : n2 < y2.heap.size := P6.lt
          replace P6 := hk _ _ P6
          generalize y2.heap.size = n3 at *
          replace yb := hb'
          clear ev hk hb'
          refine wpAnyH_ready (rs := [7]) (by kernel_rfl) (by simp) ?_
          refine AllReadyH.cons rfl (fun K hK => ?_) ?_
          · go_simp
            refine hK.out _ _ ((R0.keep yb).alloc _) (fun _ => ?_)
            clear hK K
            try simp only [List.getElem_toArray, List.getElem_cons_succ, List.getElem_cons_zero, Act.put, List.setIfInBounds_toArray, List.set_cons_zero, List.set_cons_succ]
            obtain ⟨y4, ev, P7, hk, hb'⟩ := fresh_hd ⟨#[]⟩ ⟨#[]⟩ ⟨#[]⟩ ⟨#[]⟩ 0 false false 0 v6 y3 yb
            rw [← ev]
            have g4 : v6.heap.size ≤ y3.heap.size := yb.size
            have l14 : n1 < y3.heap.size := P5.lt
            replace P5 := hk _ _ P5
            have l24 : n2 < y3.heap.size := P6.lt
            replace P6 := hk _ _ P6
            have l34 : n3 < y3.heap.size := P4.lt
            replace P4 := hk _ _ P4
            generalize y3.heap.size = n4 at *
            replace yb := hb'
            clear ev hk hb'
            refine wpAnyH_ready (rs := [8]) (by kernel_rfl) (by simp) ?_
            refine AllReadyH.cons rfl (fun K hK => ?_) AllReadyH.nil
            rw [if_pos (by rfl)]
            refine wp_store_mid 23 (.tmp 19) (.tmp 80) rfl n3 0 (hdL (⟨nm, vl, dm, pt, ex, se, ho, st⟩ : Hd)).toArray rfl rfl P4.wr (by kernel_rfl) (hdL_one _) ?_
            obtain ⟨z0, ev, Q4, hk, hz⟩ := P4.stored (⟨nm, vl, dm, pt, ex, se, ho, st⟩ : Hd) v6.heap.size v6 (by omega) yb
            rw [← ev]
            refine hK.out _ _ (R0.keep hz) (fun _ => ?_)
            clear hK K ev
            try simp only [List.getElem_toArray, List.getElem_cons_succ, List.getElem_cons_zero, Act.put]
            replace yb := hz
            replace P5 := hk _ _ (by omega) P5
            replace P6 := hk _ _ (by omega) P6
            replace P7 := hk _ _ (by omega) P7
            clear hk hz P4
            refine wpAnyH_ready (rs := [9]) (by kernel_rfl) (by simp) ?_
            refine AllReadyH.cons rfl (fun K hK => ?_) AllReadyH.nil
            rw [if_pos (by rfl)]
            refine wp_store_mid 23 (.tmp 20) (.tmp 81) rfl n1 0 (hdL (⟨nm, vl, dm, pt, ex, se, ho, st⟩ : Hd)).toArray rfl rfl P5.wr (by kernel_rfl) (hdL_one _) ?_
            obtain ⟨z1, ev, Q5, hk, hz⟩ := P5.stored (⟨nm, vl, dm, pt, ex, se, ho, st⟩ : Hd) v6.heap.size v6 (by omega) yb
            rw [← ev]
            refine hK.out _ _ (R0.keep hz) (fun _ => ?_)
            clear hK K ev
            try simp only [List.getElem_toArray, List.getElem_cons_succ, List.getElem_cons_zero, Act.put]
            replace yb := hz
            replace Q4 := hk _ _ (by omega) Q4
            replace P6 := hk _ _ (by omega) P6
            replace P7 := hk _ _ (by omega) P7
            clear hk hz P5
            refine wpAnyH_ready (rs := [10]) (by kernel_rfl) (by simp) ?_
            refine AllReadyH.cons rfl (fun K hK => ?_) AllReadyH.nil
            rw [if_pos (by rfl)]
            refine wp_store_mid 23 (.tmp 21) (.tmp 82) rfl n2 0 (hdL (⟨nm, vl, dm, pt, ex, se, ho, st⟩ : Hd)).toArray rfl rfl P6.wr (by kernel_rfl) (hdL_one _) ?_
            obtain ⟨z2, ev, Q6, hk, hz⟩ := P6.stored (⟨nm, vl, dm, pt, ex, se, ho, st⟩ : Hd) v6.heap.size v6 (by omega) yb
            rw [← ev]
            refine hK.out _ _ (R0.keep hz) (fun _ => ?_)
            clear hK K ev
            try simp only [List.getElem_toArray, List.getElem_cons_succ, List.getElem_cons_zero, Act.put]
            replace yb := hz
            replace Q4 := hk _ _ (by omega) Q4
            replace Q5 := hk _ _ (by omega) Q5
            replace P7 := hk _ _ (by omega) P7
            clear hk hz P6
            refine wpAnyH_ready (rs := [11]) (by kernel_rfl) (by simp) ?_
            refine AllReadyH.cons rfl (fun K hK => ?_) AllReadyH.nil
            rw [if_pos (by rfl)]
            refine wp_store_mid 23 (.tmp 22) (.tmp 83) rfl n4 0 (hdL (⟨nm, vl, dm, pt, ex, se, ho, st⟩ : Hd)).toArray rfl rfl P7.wr (by kernel_rfl) (hdL_one _) ?_
            obtain ⟨z3, ev, Q7, hk, hz⟩ := P7.stored (⟨nm, vl, dm, pt, ex, se, ho, st⟩ : Hd) v6.heap.size v6 (by omega) yb
            rw [← ev]
            refine hK.out _ _ (R0.keep hz) (fun _ => ?_)
            clear hK K ev
            try simp only [List.getElem_toArray, List.getElem_cons_succ, List.getElem_cons_zero, Act.put]
            replace yb := hz
            replace Q4 := hk _ _ (by omega) Q4
            replace Q5 := hk _ _ (by omega) Q5
            replace Q6 := hk _ _ (by omega) Q6
            clear hk hz P7
            refine wpAnyH_done (by kernel_rfl) ?_ _
            go_wp2_with fail
            go_meet
            case rel => exact ⟨rfl, rfl, rfl, rfl, n3, n1, n2, n4, rfl, rfl, rfl, rfl, ⟨yb, ⟨by omega, by omega, by omega, by omega⟩, ⟨by omega, by omega, by omega, by omega, by omega, by omega⟩, Q4, Q5, Q6, Q7⟩⟩
          exact AllReadyH.nil
        refine AllReadyH.cons rfl (fun K hK => ?_) ?_
        · go_simp
          refine hK.out _ _ ((R0.keep yb).alloc _) (fun _ => ?_)
          clear hK K
          try simp only [List.getElem_toArray, List.getElem_cons_succ, List.getElem_cons_zero, Act.put, List.setIfInBounds_toArray, List.set_cons_zero, List.set_cons_succ]
          obtain ⟨y3, ev, P7, hk, hb'⟩ := fresh_hd ⟨#[]⟩ ⟨#[]⟩ ⟨#[]⟩ ⟨#[]⟩ 0 false false 0 v6 y2 yb
          rw [← ev]
          have g3 : v6.heap.size ≤ y2.heap.size := yb.size
          have l13 : n1 < y2.heap.size := P5.lt
          replace P5 := hk _ _ P5
          have l23 : n2 < y2.heap.size := P6.lt
          replace P6 := hk _ _ P6
          generalize y2.heap.size = n3 at *
          replace yb := hb'
          clear ev hk hb'
          refine wpAnyH_ready (rs := [4]) (by kernel_rfl) (by simp) ?_
          refine AllReadyH.cons rfl (fun K hK => ?_) ?_
          · go_simp
            refine hK.out _ _ ((R0.keep yb).alloc _) (fun _ => ?_)
            clear hK K
            try simp only [List.getElem_toArray, List.getElem_cons_succ, List.getElem_cons_zero, Act.put, List.setIfInBounds_toArray, List.set_cons_zero, List.set_cons_succ]
            obtain ⟨y4, ev, P4, hk, hb'⟩ := fresh_hd ⟨#[]⟩ ⟨#[]⟩ ⟨#[]⟩ ⟨#[]⟩ 0 false false 0 v6 y3 yb
            rw [← ev]
            have g4 : v6.heap.size ≤ y3.heap.size := yb.size
            have l14 : n1 < y3.heap.size := P5.lt
            replace P5 := hk _ _ P5
            have l24 : n2 < y3.heap.size := P6.lt
            replace P6 := hk _ _ P6
            have l34 : n3 < y3.heap.size := P7.lt
            replace P7 := hk _ _ P7
            generalize y3.heap.size = n4 at *
            replace yb := hb'
            clear ev hk hb'
            refine wpAnyH_ready (rs := [8]) (by kernel_rfl) (by simp) ?_
            refine AllReadyH.cons rfl (fun K hK => ?_) AllReadyH.nil
            rw [if_pos (by rfl)]
            refine wp_store_mid 23 (.tmp 19) (.tmp 80) rfl n4 0 (hdL (⟨nm, vl, dm, pt, ex, se, ho, st⟩ : Hd)).toArray rfl rfl P4.wr (by kernel_rfl) (hdL_one _) ?_
            obtain ⟨z0, ev, Q4, hk, hz⟩ := P4.stored (⟨nm, vl, dm, pt, ex, se, ho, st⟩ : Hd) v6.heap.size v6 (by omega) yb
            rw [← ev]
            refine hK.out _ _ (R0.keep hz) (fun _ => ?_)
            clear hK K ev
            try simp only [List.getElem_toArray, List.getElem_cons_succ, List.getElem_cons_zero, Act.put]
            replace yb := hz
            replace P5 := hk _ _ (by omega) P5
            replace P6 := hk _ _ (by omega) P6
            replace P7 := hk _ _ (by omega) P7
            clear hk hz P4
            refine wpAnyH_ready (rs := [9]) (by kernel_rfl) (by simp) ?_
            refine AllReadyH.cons rfl (fun K hK => ?_) AllReadyH.nil
            rw [if_pos (by rfl)]
            refine wp_store_mid 23 (.tmp 20) (.tmp 81) rfl n1 0 (hdL (⟨nm, vl, dm, pt, ex, se, ho, st⟩ : Hd)).toArray rfl rfl P5.wr (by kernel_rfl) (hdL_one _) ?_
            obtain ⟨z1, ev, Q5, hk, hz⟩ := P5.stored (⟨nm, vl, dm, pt, ex, se, ho, st⟩ : Hd) v6.heap.size v6 (by omega) yb
            rw [← ev]
            refine hK.out _ _ (R0.keep hz) (fun _ => ?_)
            clear hK K ev
            try simp only [List.getElem_toArray, List.getElem_cons_succ, List.getElem_cons_zero, Act.put]
            replace yb := hz
            replace Q4 := hk _ _ (by omega) Q4
            replace P6 := hk _ _ (by omega) P6
            replace P7 := hk _ _ (by omega) P7
            clear hk hz P5
            refine wpAnyH_ready (rs := [10]) (by kernel_rfl) (by simp) ?_
            refine AllReadyH.cons rfl (fun K hK => ?_) AllReadyH.nil
            rw [if_pos (by rfl)]
            refine wp_store_mid 23 (.tmp 21) (.tmp 82) rfl n2 0 (hdL (⟨nm, vl, dm, pt, ex, se, ho, st⟩ : Hd)).toArray rfl rfl P6.wr (by kernel_rfl) (hdL_one _) ?_
            obtain ⟨z2, ev, Q6, hk, hz⟩ := P6.stored (⟨nm, vl, dm, pt, ex, se, ho, st⟩ : Hd) v6.heap.size v6 (by omega) yb
            rw [← ev]
            refine hK.out _ _ (R0.keep hz) (fun _ => ?_)
            clear hK K ev
            try simp only [List.getElem_toArray, List.getElem_cons_succ, List.getElem_cons_zero, Act.put]
            replace yb := hz
            replace Q4 := hk _ _ (by omega) Q4
            replace Q5 := hk _ _ (by omega) Q5
            replace P7 := hk _ _ (by omega) P7
            clear hk hz P6
            refine wpAnyH_ready (rs := [11]) (by kernel_rfl) (by simp) ?_
            refine AllReadyH.cons rfl (fun K hK => ?_) AllReadyH.nil
            rw [if_pos (by rfl)]
            refine wp_store_mid 23 (.tmp 22) (.tmp 83) rfl n3 0 (hdL (⟨nm, vl, dm, pt, ex, se, ho, st⟩ : Hd)).toArray rfl rfl P7.wr (by kernel_rfl) (hdL_one _) ?_
            obtain ⟨z3, ev, Q7, hk, hz⟩ := P7.stored (⟨nm, vl, dm, pt, ex, se, ho, st⟩ : Hd) v6.heap.size v6 (by omega) yb
            rw [← ev]
            refine hK.out _ _ (R0.keep hz) (fun _ => ?_)
            clear hK K ev
            try simp only [List.getElem_toArray, List.getElem_cons_succ, List.getElem_cons_zero, Act.put]
            replace yb := hz
            replace Q4 := hk _ _ (by omega) Q4
            replace Q5 := hk _ _ (by omega) Q5
            replace Q6 := hk _ _ (by omega) Q6
            clear hk hz P7
            refine wpAnyH_done (by kernel_rfl) ?_ _
            go_wp2_with fail
            go_meet
            case rel => exact ⟨rfl, rfl, rfl, rfl, n4, n1, n2, n3, rfl, rfl, rfl, rfl, ⟨yb, ⟨by omega, by omega, by omega, by omega⟩, ⟨by omega, by omega, by omega, by omega, by omega, by omega⟩, Q4, Q5, Q6, Q7⟩⟩
          exact AllReadyH.nil
        exact AllReadyH.nil
      refine AllReadyH.cons rfl (fun K hK => ?_) ?_
      · go_simp
        refine hK.out _ _ ((R0.keep yb).alloc _) (fun _ => ?_)
        clear hK K
        try simp only [List.getElem_toArray, List.getElem_cons_succ, List.getElem_cons_zero, Act.put, List.setIfInBounds_toArray, List.set_cons_zero, List.set_cons_succ]
        obtain ⟨y2, ev, P7, hk, hb'⟩ := fresh_hd ⟨#[]⟩ ⟨#[]⟩ ⟨#[]⟩ ⟨#[]⟩ 0 false false 0 v6 y1 yb
        rw [← ev]
        have g2 : v6.heap.size ≤ y1.heap.size := yb.size
        have l12 : n1 < y1.heap.size := P5.lt
        replace P5 := hk _ _ P5
        generalize y1.heap.size = n2 at *
        replace yb := hb'
        clear ev hk hb'
        refine wpAnyH_ready (rs := [4, 6]) (by kernel_rfl) (by simp) ?_
        refine AllReadyH.cons rfl (fun K hK => ?_) ?_
        · go_simp
          refine hK.out _ _ ((R0.keep yb).alloc _) (fun _ => ?_)
          clear hK K
          try simp only [List.getElem_toArray, List.getElem_cons_succ, List.getElem_cons_zero, Act.put, List.setIfInBounds_toArray, List.set_cons_zero, List.set_cons_succ]
          obtain ⟨y3, ev, P4, hk, hb'⟩ := fresh_hd ⟨#[]⟩ ⟨#[]⟩ ⟨#[]⟩ ⟨#[]⟩ 0 false false 0 v6 y2 yb
          rw [← ev]
          have g3 : v6.heap.size ≤ y2.heap.size := yb.size
          have l13 : n1 < y2.heap.size := P5.lt
          replace P5 := hk _ _ P5
          have l23 : n2 < y2.heap.size := P7.lt
          replace P7 := hk _ _ P7
          generalize y2.heap.size = n3 at *
          replace yb := hb'
          clear ev hk hb'
          refine wpAnyH_ready (rs := [6]) (by kernel_rfl) (by simp) ?_
          refine AllReadyH.cons rfl (fun K hK => ?_) ?_
          · go_simp
            refine hK.out _ _ ((R0.keep yb).alloc _) (fun _ => ?_)
            clear hK K
            try simp only [List.getElem_toArray, List.getElem_cons_succ, List.getElem_cons_zero, Act.put, List.setIfInBounds_toArray, List.set_cons_zero, List.set_cons_succ]
            obtain ⟨y4, ev, P6, hk, hb'⟩ := fresh_hd ⟨#[]⟩ ⟨#[]⟩ ⟨#[]⟩ ⟨#[]⟩ 0 false false 0 v6 y3 yb
            rw [← ev]
            have g4 : v6.heap.size ≤ y3.heap.size := yb.size
            have l14 : n1 < y3.heap.size := P5.lt
            replace P5 := hk _ _ P5
            have l24 : n2 < y3.heap.size := P7.lt
            replace P7 := hk _ _ P7
            have l34 : n3 < y3.heap.size := P4.lt
            replace P4 := hk _ _ P4
            generalize y3.heap.size = n4 at *
            replace yb := hb'
            clear ev hk hb'
            refine wpAnyH_ready (rs := [8]) (by kernel_rfl) (by simp) ?_
            refine AllReadyH.cons rfl (fun K hK => ?_) AllReadyH.nil
            rw [if_pos (by rfl)]
            refine wp_store_mid 23 (.tmp 19) (.tmp 80) rfl n3 0 (hdL (⟨nm, vl, dm, pt, ex, se, ho, st⟩ : Hd)).toArray rfl rfl P4.wr (by kernel_rfl) (hdL_one _) ?_
            obtain ⟨z0, ev, Q4, hk, hz⟩ := P4.stored (⟨nm, vl, dm, pt, ex, se, ho, st⟩ : Hd) v6.heap.size v6 (by omega) yb
            rw [← ev]
            refine hK.out _ _ (R0.keep hz) (fun _ => ?_)
            clear hK K ev
            try simp only [List.getElem_toArray, List.getElem_cons_succ, List.getElem_cons_zero, Act.put]
            replace yb := hz
            replace P5 := hk _ _ (by omega) P5
            replace P6 := hk _ _ (by omega) P6
            replace P7 := hk _ _ (by omega) P7
            clear hk hz P4
            refine wpAnyH_ready (rs := [9]) (by kernel_rfl) (by simp) ?_
            refine AllReadyH.cons rfl (fun K hK => ?_) AllReadyH.nil
            rw [if_pos (by rfl)]
            refine wp_store_mid 23 (.tmp 20) (.tmp 81) rfl n1 0 (hdL (⟨nm, vl, dm, pt, ex, se, ho, st⟩ : Hd)).toArray rfl rfl P5.wr (by kernel_rfl) (hdL_one _) ?_
            obtain ⟨z1, ev, Q5, hk, hz⟩ := P5.stored (⟨nm, vl, dm, pt, ex, se, ho, st⟩ : Hd) v6.heap.size v6 (by omega) yb
            rw [← ev]
            refine hK.out _ _ (R0.keep hz) (fun _ => ?_)
            clear hK K ev
            try simp only [List.getElem_toArray, List.getElem_cons_succ, List.getElem_cons_zero, Act.put]
            replace yb := hz
            replace Q4 := hk _ _ (by omega) Q4
            replace P6 := hk _ _ (by omega) P6
            replace P7 := hk _ _ (by omega) P7
            clear hk hz P5
            refine wpAnyH_ready (rs := [10]) (by kernel_rfl) (by simp) ?_
            refine AllReadyH.cons rfl (fun K hK => ?_) AllReadyH.nil
            rw [if_pos (by rfl)]
            refine wp_store_mid 23 (.tmp 21) (.tmp 82) rfl n4 0 (hdL (⟨nm, vl, dm, pt, ex, se, ho, st⟩ : Hd)).toArray rfl rfl P6.wr (by kernel_rfl) (hdL_one _) ?_
            obtain ⟨z2, ev, Q6, hk, hz⟩ := P6.stored (⟨nm, vl, dm, pt, ex, se, ho, st⟩ : Hd) v6.heap.size v6 (by omega) yb
            rw [← ev]
            refine hK.out _ _ (R0.keep hz) (fun _ => ?_)
            clear hK K ev
            try simp only [List.getElem_toArray, List.getElem_cons_succ, List.getElem_cons_zero, Act.put]
            replace yb := hz
            replace Q4 := hk _ _ (by omega) Q4
            replace Q5 := hk _ _ (by omega) Q5
            replace P7 := hk _ _ (by omega) P7
            clear hk hz P6
            refine wpAnyH_ready (rs := [11]) (by kernel_rfl) (by simp) ?_
            refine AllReadyH.cons rfl (fun K hK => ?_) AllReadyH.nil
            rw [if_pos (by rfl)]
            refine wp_store_mid 23 (.tmp 22) (.tmp 83) rfl n2 0 (hdL (⟨nm, vl, dm, pt, ex, se, ho, st⟩ : Hd)).toArray rfl rfl P7.wr (by kernel_rfl) (hdL_one _) ?_
            obtain ⟨z3, ev, Q7, hk, hz⟩ := P7.stored (⟨nm, vl, dm, pt, ex, se, ho, st⟩ : Hd) v6.heap.size v6 (by omega) yb
            rw [← ev]
            refine hK.out _ _ (R0.keep hz) (fun _ => ?_)
            clear hK K ev
            try simp only [List.getElem_toArray, List.getElem_cons_succ, List.getElem_cons_zero, Act.put]
            replace yb := hz
            replace Q4 := hk _ _ (by omega) Q4
            replace Q5 := hk _ _ (by omega) Q5
            replace Q6 := hk _ _ (by omega) Q6
            clear hk hz P7
            refine wpAnyH_done (by kernel_rfl) ?_ _
            go_wp2_with fail
            go_meet
            case rel => exact ⟨rfl, rfl, rfl, rfl, n3, n1, n4, n2, rfl, rfl, rfl, rfl, ⟨yb, ⟨by omega, by omega, by omega, by omega⟩, ⟨by omega, by omega, by omega, by omega, by omega, by omega⟩, Q4, Q5, Q6, Q7⟩⟩
          exact AllReadyH.nil
        refine AllReadyH.cons rfl (fun K hK => ?_) ?_
        · go_simp
          refine hK.out _ _ ((R0.keep yb).alloc _) (fun _ => ?_)
          clear hK K
          try simp only [List.getElem_toArray, List.getElem_cons_succ, List.getElem_cons_zero, Act.put, List.setIfInBounds_toArray, List.set_cons_zero, List.set_cons_succ]
          obtain ⟨y3, ev, P6, hk, hb'⟩ := fresh_hd ⟨#[]⟩ ⟨#[]⟩ ⟨#[]⟩ ⟨#[]⟩ 0 false false 0 v6 y2 yb
          rw [← ev]
          have g3 : v6.heap.size ≤ y2.heap.size := yb.size
          have l13 : n1 < y2.heap.size := P5.lt
          replace P5 := hk _ _ P5
          have l23 : n2 < y2.heap.size := P7.lt
          replace P7 := hk _ _ P7
          generalize y2.heap.size = n3 at *
          replace yb := hb'
          clear ev hk hb'
          refine wpAnyH_ready (rs := [4]) (by kernel_rfl) (by simp) ?_
          refine AllReadyH.cons rfl (fun K hK => ?_) ?_
          · go_simp
            refine hK.out _ _ ((R0.keep yb).alloc _) (fun _ => ?_)
            clear hK K
            try simp only [List.getElem_toArray, List.getElem_cons_succ, List.getElem_cons_zero, Act.put, List.setIfInBounds_toArray, List.set_cons_zero, List.set_cons_succ]
            obtain ⟨y4, ev, P4, hk, hb'⟩ := fresh_hd ⟨#[]⟩ ⟨#[]⟩ ⟨#[]⟩ ⟨#[]⟩ 0 false false 0 v6 y3 yb
            rw [← ev]
            have g4 : v6.heap.size ≤ y3.heap.size := yb.size
            have l14 : n1 < y3.heap.size := P5.lt
            replace P5 := hk _ _ P5
            have l24 : n2 < y3.heap.size := P7.lt
            replace P7 := hk _ _ P7
            have l34 : n3 < y3.heap.size := P6.lt
            replace P6 := hk _ _ P6
            generalize y3.heap.size = n4 at *
            replace yb := hb'
            clear ev hk hb'
            refine wpAnyH_ready (rs := [8]) (by kernel_rfl) (by simp) ?_
            refine AllReadyH.cons rfl (fun K hK => ?_) AllReadyH.nil
            rw [if_pos (by rfl)]
            refine wp_store_mid 23 (.tmp 19) (.tmp 80) rfl n4 0 (hdL (⟨nm, vl, dm, pt, ex, se, ho, st⟩ : Hd)).toArray rfl rfl P4.wr (by kernel_rfl) (hdL_one _) ?_
            obtain ⟨z0, ev, Q4, hk, hz⟩ := P4.stored (⟨nm, vl, dm, pt, ex, se, ho, st⟩ : Hd) v6.heap.size v6 (by omega) yb
            rw [← ev]
            refine hK.out _ _ (R0.keep hz) (fun _ => ?_)
            clear hK K ev
            try simp only [List.getElem_toArray, List.getElem_cons_succ, List.getElem_cons_zero, Act.put]
            replace yb := hz
            replace P5 := hk _ _ (by omega) P5
            replace P6 := hk _ _ (by omega) P6
            replace P7 := hk _ _ (by omega) P7
            clear hk hz P4
            refine wpAnyH_ready (rs := [9]) (by kernel_rfl) (by simp) ?_
            refine AllReadyH.cons rfl (fun K hK => ?_) AllReadyH.nil
            rw [if_pos (by rfl)]
            refine wp_store_mid 23 (.tmp 20) (.tmp 81) rfl n1 0 (hdL (⟨nm, vl, dm, pt, ex, se, ho, st⟩ : Hd)).toArray rfl rfl P5.wr (by kernel_rfl) (hdL_one _) ?_
            obtain ⟨z1, ev, Q5, hk, hz⟩ := P5.stored (⟨nm, vl, dm, pt, ex, se, ho, st⟩ : Hd) v6.heap.size v6 (by omega) yb
            rw [← ev]
            refine hK.out _ _ (R0.keep hz) (fun _ => ?_)
            clear hK K ev
            try simp only [List.getElem_toArray, List.getElem_cons_succ, List.getElem_cons_zero, Act.put]
            replace yb := hz
            replace Q4 := hk _ _ (by omega) Q4
            replace P6 := hk _ _ (by omega) P6
            replace P7 := hk _ _ (by omega) P7
            clear hk hz P5
            refine wpAnyH_ready (rs := [10]) (by kernel_rfl) (by simp) ?_
            refine AllReadyH.cons rfl (fun K hK => ?_) AllReadyH.nil
            rw [if_pos (by rfl)]
            refine wp_store_mid 23 (.tmp 21) (.tmp 82) rfl n3 0 (hdL (⟨nm, vl, dm, pt, ex, se, ho, st⟩ : Hd)).toArray rfl rfl P6.wr (by kernel_rfl) (hdL_one _) ?_
            obtain ⟨z2, ev, Q6, hk, hz⟩ := P6.stored (⟨nm, vl, dm, pt, ex, se, ho, st⟩ : Hd) v6.heap.size v6 (by omega) yb
            rw [← ev]
            refine hK.out _ _ (R0.keep hz) (fun _ => ?_)
            clear hK K ev
            try simp only [List.getElem_toArray, List.getElem_cons_succ, List.getElem_cons_zero, Act.put]
            replace yb := hz
            replace Q4 := hk _ _ (by omega) Q4
            replace Q5 := hk _ _ (by omega) Q5
            replace P7 := hk _ _ (by omega) P7
            clear hk hz P6
            refine wpAnyH_ready (rs := [11]) (by kernel_rfl) (by simp) ?_
            refine AllReadyH.cons rfl (fun K hK => ?_) AllReadyH.nil
            rw [if_pos (by rfl)]
            refine wp_store_mid 23 (.tmp 22) (.tmp 83) rfl n2 0 (hdL (⟨nm, vl, dm, pt, ex, se, ho, st⟩ : Hd)).toArray rfl rfl P7.wr (by kernel_rfl) (hdL_one _) ?_
            obtain ⟨z3, ev, Q7, hk, hz⟩ := P7.stored (⟨nm, vl, dm, pt, ex, se, ho, st⟩ : Hd) v6.heap.size v6 (by omega) yb
            rw [← ev]
            refine hK.out _ _ (R0.keep hz) (fun _ => ?_)
            clear hK K ev
            try simp only [List.getElem_toArray, List.getElem_cons_succ, List.getElem_cons_zero, Act.put]
            replace yb := hz
            replace Q4 := hk _ _ (by omega) Q4
            replace Q5 := hk _ _ (by omega) Q5
            replace Q6 := hk _ _ (by omega) Q6
            clear hk hz P7
            refine wpAnyH_done (by kernel_rfl) ?_ _
            go_wp2_with fail
            go_meet
            case rel => exact ⟨rfl, rfl, rfl, rfl, n4, n1, n3, n2, rfl, rfl, rfl, rfl, ⟨yb, ⟨by omega, by omega, by omega, by omega⟩, ⟨by omega, by omega, by omega, by omega, by omega, by omega⟩, Q4, Q5, Q6, Q7⟩⟩
          exact AllReadyH.nil
        exact AllReadyH.nil
      exact AllReadyH.nil
    refine AllReadyH.cons rfl (fun K hK => ?_) ?_
    · go_simp
      refine hK.out _ _ ((R0.keep yb).alloc _) (fun _ => ?_)
      clear hK K
      try simp only [List.getElem_toArray, List.getElem_cons_succ, List.getElem_cons_zero, Act.put, List.setIfInBounds_toArray, List.set_cons_zero, List.set_cons_succ]
      obtain ⟨y1, ev, P6, hk, hb'⟩ := fresh_hd ⟨#[]⟩ ⟨#[]⟩ ⟨#[]⟩ ⟨#[]⟩ 0 false false 0 v6 yd yb
      rw [← ev]
      have g1 : v6.heap.size ≤ yd.heap.size := yb.size
      generalize yd.heap.size = n1 at *
      replace yb := hb'
      clear ev hk hb'
      refine wpAnyH_ready (rs := [4, 5, 7]) (by kernel_rfl) (by simp) ?_
      refine AllReadyH.cons rfl (fun K hK => ?_) ?_
      · go_simp
        refine hK.out _ _ ((R0.keep yb).alloc _) (fun _ => ?_)
        clear hK K
        try simp only [List.getElem_toArray, List.getElem_cons_succ, List.getElem_cons_zero, Act.put, List.setIfInBounds_toArray, List.set_cons_zero, List.set_cons_succ]
        obtain ⟨y2, ev, P4, hk, hb'⟩ := fresh_hd ⟨#[]⟩ ⟨#[]⟩ ⟨#[]⟩ ⟨#[]⟩ 0 false false 0 v6 y1 yb
        rw [← ev]
        have g2 : v6.heap.size ≤ y1.heap.size := yb.size
        have l12 : n1 < y1.heap.size := P6.lt
        replace P6 := hk _ _ P6
        generalize y1.heap.size = n2 at *
        replace yb := hb'
        clear ev hk hb'
        refine wpAnyH_ready (rs := [5, 7]) (by kernel_rfl) (by simp) ?_
        refine AllReadyH.cons rfl (fun K hK => ?_) ?_
        · go_simp
          refine hK.out _ _ ((R0.keep yb).alloc _) (fun _ => ?_)
          clear hK K
          try simp only [List.getElem_toArray, List.getElem_cons_succ, List.getElem_cons_zero, Act.put, List.setIfInBounds_toArray, List.set_cons_zero, List.set_cons_succ]
          obtain ⟨y3, ev, P5, hk, hb'⟩ := fresh_hd ⟨#[]⟩ ⟨#[]⟩ ⟨#[]⟩ ⟨#[]⟩ 0 false false 0 v6 y2 yb
          rw [← ev]
          have g3 : v6.heap.size ≤ y2.heap.size := yb.size
          have l13 : n1 < y2.heap.size := P6.lt
          replace P6 := hk _ _ P6
          have l23 : n2 < y2.heap.size := P4.lt
          replace P4 := hk _ _ P4
          generalize y2.heap.size = n3 at *
          replace yb := hb'
          clear ev hk hb'
          refine wpAnyH_ready (rs := [7]) (by kernel_rfl) (by simp) ?_
          refine AllReadyH.cons rfl (fun K hK => ?_) ?_
          · go_simp
            refine hK.out _ _ ((R0.keep yb).alloc _) (fun _ => ?_)
            clear hK K
            try simp only [List.getElem_toArray, List.getElem_cons_succ, List.getElem_cons_zero, Act.put, List.setIfInBounds_toArray, List.set_cons_zero, List.set_cons_succ]
            obtain ⟨y4, ev, P7, hk, hb'⟩ := fresh_hd ⟨#[]⟩ ⟨#[]⟩ ⟨#[]⟩ ⟨#[]⟩ 0 false false 0 v6 y3 yb
            rw [← ev]
            have g4 : v6.heap.size ≤ y3.heap.size := yb.size
            have l14 : n1 < y3.heap.size := P6.lt
            replace P6 := hk _ _ P6
            have l24 : n2 < y3.heap.size := P4.lt
            replace P4 := hk _ _ P4
            have l34 : n3 < y3.heap.size := P5.lt
            replace P5 := hk _ _ P5
            generalize y3.heap.size = n4 at *
            replace yb := hb'
            clear ev hk hb'
            refine wpAnyH_ready (rs := [8]) (by kernel_rfl) (by simp) ?_
            refine AllReadyH.cons rfl (fun K hK => ?_) AllReadyH.nil
            rw [if_pos (by rfl)]
            refine wp_store_mid 23 (.tmp 19) (.tmp 80) rfl n2 0 (hdL (⟨nm, vl, dm, pt, ex, se, ho, st⟩ : Hd)).toArray rfl rfl P4.wr (by kernel_rfl) (hdL_one _) ?_
            obtain ⟨z0, ev, Q4, hk, hz⟩ := P4.stored (⟨nm, vl, dm, pt, ex, se, ho, st⟩ : Hd) v6.heap.size v6 (by omega) yb
            rw [← ev]
            refine hK.out _ _ (R0.keep hz) (fun _ => ?_)
            clear hK K ev
            try simp only [List.getElem_toArray, List.getElem_cons_succ, List.getElem_cons_zero, Act.put]
            replace yb := hz
            replace P5 := hk _ _ (by omega) P5
            replace P6 := hk _ _ (by omega) P6
            replace P7 := hk _ _ (by omega) P7
            clear hk hz P4
            refine wpAnyH_ready (rs := [9]) (by kernel_rfl) (by simp) ?_
            refine AllReadyH.cons rfl (fun K hK => ?_) AllReadyH.nil
            rw [if_pos (by rfl)]
            refine wp_store_mid 23 (.tmp 20) (.tmp 81) rfl n3 0 (hdL (⟨nm, vl, dm, pt, ex, se, ho, st⟩ : Hd)).toArray rfl rfl P5.wr (by kernel_rfl) (hdL_one _) ?_
            obtain ⟨z1, ev, Q5, hk, hz⟩ := P5.stored (⟨nm, vl, dm, pt, ex, se, ho, st⟩ : Hd) v6.heap.size v6 (by omega) yb
            rw [← ev]
            refine hK.out _ _ (R0.keep hz) (fun _ => ?_)
            clear hK K ev
            try simp only [List.getElem_toArray, List.getElem_cons_succ, List.getElem_cons_zero, Act.put]
            replace yb := hz
            replace Q4 := hk _ _ (by omega) Q4
            replace P6 := hk _ _ (by omega) P6
            replace P7 := hk _ _ (by omega) P7
            clear hk hz P5
            refine wpAnyH_ready (rs := [10]) (by kernel_rfl) (by simp) ?_
            refine AllReadyH.cons rfl (fun K hK => ?_) AllReadyH.nil
            rw [if_pos (by rfl)]
            refine wp_store_mid 23 (.tmp 21) (.tmp 82) rfl n1 0 (hdL (⟨nm, vl, dm, pt, ex, se, ho, st⟩ : Hd)).toArray rfl rfl P6.wr (by kernel_rfl) (hdL_one _) ?_
            obtain ⟨z2, ev, Q6, hk, hz⟩ := P6.stored (⟨nm, vl, dm, pt, ex, se, ho, st⟩ : Hd) v6.heap.size v6 (by omega) yb
            rw [← ev]
            refine hK.out _ _ (R0.keep hz) (fun _ => ?_)
            clear hK K ev
            try simp only [List.getElem_toArray, List.getElem_cons_succ, List.getElem_cons_zero, Act.put]
            replace yb := hz
            replace Q4 := hk _ _ (by omega) Q4
            replace Q5 := hk _ _ (by omega) Q5
            replace P7 := hk _ _ (by omega) P7
            clear hk hz P6
            refine wpAnyH_ready (rs := [11]) (by kernel_rfl) (by simp) ?_
            refine AllReadyH.cons rfl (fun K hK => ?_) AllReadyH.nil
            rw [if_pos (by rfl)]
            refine wp_store_mid 23 (.tmp 22) (.tmp 83) rfl n4 0 (hdL (⟨nm, vl, dm, pt, ex, se, ho, st⟩ : Hd)).toArray rfl rfl P7.wr (by kernel_rfl) (hdL_one _) ?_
            obtain ⟨z3, ev, Q7, hk, hz⟩ := P7.stored (⟨nm, vl, dm, pt, ex, se, ho, st⟩ : Hd) v6.heap.size v6 (by omega) yb
            rw [← ev]
            refine hK.out _ _ (R0.keep hz) (fun _ => ?_)
            clear hK K ev
            try simp only [List.getElem_toArray, List.getElem_cons_succ, List.getElem_cons_zero, Act.put]
            replace yb := hz
            replace Q4 := hk _ _ (by omega) Q4
            replace Q5 := hk _ _ (by omega) Q5
            replace Q6 := hk _ _ (by omega) Q6
            clear hk hz P7
            refine wpAnyH_done (by kernel_rfl) ?_ _
            go_wp2_with fail
            go_meet
            case rel => exact ⟨rfl, rfl, rfl, rfl, n2, n3, n1, n4, rfl, rfl, rfl, rfl, ⟨yb, ⟨by omega, by omega, by omega, by omega⟩, ⟨by omega, by omega, by omega, by omega, by omega, by omega⟩, Q4, Q5, Q6, Q7⟩⟩
          exact AllReadyH.nil
        refine AllReadyH.cons rfl (fun K hK => ?_) ?_
        · go_simp
          refine hK.out _ _ ((R0.keep yb).alloc _) (fun _ => ?_)
          clear hK K
          try simp only [List.getElem_toArray, List.getElem_cons_succ, List.getElem_cons_zero, Act.put, List.setIfInBounds_toArray, List.set_cons_zero, List.set_cons_succ]
          obtain ⟨y3, ev, P7, hk, hb'⟩ := fresh_hd ⟨#[]⟩ ⟨#[]⟩ ⟨#[]⟩ ⟨#[]⟩ 0 false false 0 v6 y2 yb
          rw [← ev]
          have g3 : v6.heap.size ≤ y2.heap.size := yb.size
          have l13 : n1 < y2.heap.size := P6.lt
          replace P6 := hk _ _ P6
          have l23 : n2 < y2.heap.size := P4.lt
          replace P4 := hk _ _ P4
          generalize y2.heap.size = n3 at *
          replace yb := hb'
          clear ev hk hb'
          refine wpAnyH_ready (rs := [5]) (by kernel_rfl) (by simp) ?_
          refine AllReadyH.cons rfl (fun K hK => ?_) ?_
          · go_simp
            refine hK.out _ _ ((R0.keep yb).alloc _) (fun _ => ?_)
            clear hK K
            try simp only [List.getElem_toArray, List.getElem_cons_succ, List.getElem_cons_zero, Act.put, List.setIfInBounds_toArray, List.set_cons_zero, List.set_cons_succ]
            obtain ⟨y4, ev, P5, hk, hb'⟩ := fresh_hd ⟨#[]⟩ ⟨#[]⟩ ⟨#[]⟩ ⟨#[]⟩ 0 false false 0 v6 y3 yb
            rw [← ev]
            have g4 : v6.heap.size ≤ y3.heap.size := yb.size
            have l14 : n1 < y3.heap.size := P6.lt
            replace P6 := hk _ _ P6
            have l24 : n2 < y3.heap.size := P4.lt
            replace P4 := hk _ _ P4
            have l34 : n3 < y3.heap.size := P7.lt
            replace P7 := hk _ _ P7
            generalize y3.heap.size = n4 at *
            replace yb := hb'
            clear ev hk hb'
            refine wpAnyH_ready (rs := [8]) (by kernel_rfl) (by simp) ?_
            refine AllReadyH.cons rfl (fun K hK => ?_) AllReadyH.nil
            rw [if_pos (by rfl)]
            refine wp_store_mid 23 (.tmp 19) (.tmp 80) rfl n2 0 (hdL (⟨nm, vl, dm, pt, ex, se, ho, st⟩ : Hd)).toArray rfl rfl P4.wr (by kernel_rfl) (hdL_one _) ?_
            obtain ⟨z0, ev, Q4, hk, hz⟩ := P4.stored (⟨nm, vl, dm, pt, ex, se, ho, st⟩ : Hd) v6.heap.size v6 (by omega) yb
            rw [← ev]
            refine hK.out _ _ (R0.keep hz) (fun _ => ?_)
            clear hK K ev
            try simp only [List.getElem_toArray, List.getElem_cons_succ, List.getElem_cons_zero, Act.put]
            replace yb := hz
            replace P5 := hk _ _ (by omega) P5
            replace P6 := hk _ _ (by omega) P6
            replace P7 := hk _ _ (by omega) P7
            clear hk hz P4
            refine wpAnyH_ready (rs := [9]) (by kernel_rfl) (by simp) ?_
            refine AllReadyH.cons rfl (fun K hK => ?_) AllReadyH.nil
            rw [if_pos (by rfl)]
            refine wp_store_mid 23 (.tmp 20) (.tmp 81) rfl n4 0 (hdL (⟨nm, vl, dm, pt, ex, se, ho, st⟩ : Hd)).toArray rfl rfl P5.wr (by kernel_rfl) (hdL_one _) ?_
            obtain ⟨z1, ev, Q5, hk, hz⟩ := P5.stored (⟨nm, vl, dm, pt, ex, se, ho, st⟩ : Hd) v6.heap.size v6 (by omega) yb
            rw [← ev]
            refine hK.out _ _ (R0.keep hz) (fun _ => ?_)
            clear hK K ev
            try simp only [List.getElem_toArray, List.getElem_cons_succ, List.getElem_cons_zero, Act.put]
            replace yb := hz
            replace Q4 := hk _ _ (by omega) Q4
            replace P6 := hk _ _ (by omega) P6
            replace P7 := hk _ _ (by omega) P7
            clear hk hz P5
            refine wpAnyH_ready (rs := [10]) (by kernel_rfl) (by simp) ?_
            refine AllReadyH.cons rfl (fun K hK => ?_) AllReadyH.nil
            rw [if_pos (by rfl)]
            refine wp_store_mid 23 (.tmp 21) (.tmp 82) rfl n1 0 (hdL (⟨nm, vl, dm, pt, ex, se, ho, st⟩ : Hd)).toArray rfl rfl P6.wr (by kernel_rfl) (hdL_one _) ?_
            obtain ⟨z2, ev, Q6, hk, hz⟩ := P6.stored (⟨nm, vl, dm, pt, ex, se, ho, st⟩ : Hd) v6.heap.size v6 (by omega) yb
            rw [← ev]
            refine hK.out _ _ (R0.keep hz) (fun _ => ?_)
            clear hK K ev
            try simp only [List.getElem_toArray, List.getElem_cons_succ, List.getElem_cons_zero, Act.put]
            replace yb := hz
            replace Q4 := hk _ _ (by omega) Q4
            replace Q5 := hk _ _ (by omega) Q5
            replace P7 := hk _ _ (by omega) P7
            clear hk hz P6
            refine wpAnyH_ready (rs := [11]) (by kernel_rfl) (by simp) ?_
            refine AllReadyH.cons rfl (fun K hK => ?_) AllReadyH.nil
            rw [if_pos (by rfl)]
            refine wp_store_mid 23 (.tmp 22) (.tmp 83) rfl n3 0 (hdL (⟨nm, vl, dm, pt, ex, se, ho, st⟩ : Hd)).toArray rfl rfl P7.wr (by kernel_rfl) (hdL_one _) ?_
            obtain ⟨z3, ev, Q7, hk, hz⟩ := P7.stored (⟨nm, vl, dm, pt, ex, se, ho, st⟩ : Hd) v6.heap.size v6 (by omega) yb
            rw [← ev]
            refine hK.out _ _ (R0.keep hz) (fun _ => ?_)
            clear hK K ev
            try simp only [List.getElem_toArray, List.getElem_cons_succ, List.getElem_cons_zero, Act.put]
            replace yb := hz
            replace Q4 := hk _ _ (by omega) Q4
            replace Q5 := hk _ _ (by omega) Q5
            replace Q6 := hk _ _ (by omega) Q6
            clear hk hz P7
            refine wpAnyH_done (by kernel_rfl) ?_ _
            go_wp2_with fail
            go_meet
            case rel => exact ⟨rfl, rfl, rfl, rfl, n2, n4, n1, n3, rfl, rfl, rfl, rfl, ⟨yb, ⟨by omega, by omega, by omega, by omega⟩, ⟨by omega, by omega, by omega, by omega, by omega, by omega⟩, Q4, Q5, Q6, Q7⟩⟩
          exact AllReadyH.nil
        exact AllReadyH.nil
      refine AllReadyH.cons rfl (fun K hK => ?_) ?_
      · go_simp
        refine hK.out _ _ ((R0.keep yb).alloc _) (fun _ => ?_)
        clear hK K
        try simp only [List.getElem_toArray, List.getElem_cons_succ, List.getElem_cons_zero, Act.put, List.setIfInBounds_toArray, List.set_cons_zero, List.set_cons_succ]
        obtain ⟨y2, ev, P5, hk, hb'⟩ := fresh_hd ⟨#[]⟩ ⟨#[]⟩ ⟨#[]⟩ ⟨#[]⟩ 0 false false 0 v6 y1 yb
        rw [← ev]
        have g2 : v6.heap.size ≤ y1.heap.size := yb.size
        have l12 : n1 < y1.heap.size := P6.lt
        replace P6 := hk _ _ P6
        generalize y1.heap.size = n2 at *
        replace yb := hb'
        clear ev hk hb'
        refine wpAnyH_ready (rs := [4, 7]) (by kernel_rfl) (by simp) ?_
        refine AllReadyH.cons rfl (fun K hK => ?_) ?_
        · go_simp
          refine hK.out _ _ ((R0.keep yb).alloc _) (fun _ => ?_)
          clear hK K
          try simp only [List.getElem_toArray, List.getElem_cons_succ, List.getElem_cons_zero, Act.put, List.setIfInBounds_toArray, List.set_cons_zero, List.set_cons_succ]
          obtain ⟨y3, ev, P4, hk, hb'⟩ := fresh_hd ⟨#[]⟩ ⟨#[]⟩ ⟨#[]⟩ ⟨#[]⟩ 0 false false 0 v6 y2 yb
          rw [← ev]
          have g3 : v6.heap.size ≤ y2.heap.size := yb.size
          have l13 : n1 < y2.heap.size := P6.lt
          replace P6 := hk _ _ P6
          have l23 : n2 < y2.heap.size := P5.lt
          replace P5 := hk _ _ P5
          generalize y2.heap.size = n3 at *
          replace yb := hb'
          clear ev hk hb'
          refine wpAnyH_ready (rs := [7]) (by kernel_rfl) (by simp) ?_
          refine AllReadyH.cons rfl (fun K hK => ?_) ?_
          · go_simp
            refine hK.out _ _ ((R0.keep yb).alloc _) (fun _ => ?_)
            clear hK K
            try simp only [List.getElem_toArray, List.getElem_cons_succ, List.getElem_cons_zero, Act.put, List.setIfInBounds_toArray, List.set_cons_zero, List.set_cons_succ]
            obtain ⟨y4, ev, P7, hk, hb'⟩ := fresh_hd ⟨#[]⟩ ⟨#[]⟩ ⟨#[]⟩ ⟨#[]⟩ 0 false false 0 v6 y3 yb
            rw [← ev]
            have g4 : v6.heap.size ≤ y3.heap.size := yb.size
            have l14 : n1 < y3.heap.size := P6.lt
            replace P6 := hk _ _ P6
            have l24 : n2 < y3.heap.size := P5.lt
            replace P5 := hk _ _ P5
            have l34 : n3 < y3.heap.size := P4.lt
            replace P4 := hk _ _ P4
            generalize y3.heap.size = n4 at *
            replace yb := hb'
            clear ev hk hb'
            refine wpAnyH_ready (rs := [8]) (by kernel_rfl) (by simp) ?_
            refine AllReadyH.cons rfl (fun K hK => ?_) AllReadyH.nil
            rw [if_pos (by rfl)]
            refine wp_store_mid 23 (.tmp 19) (.tmp 80) rfl n3 0 (hdL (⟨nm, vl, dm, pt, ex, se, ho, st⟩ : Hd)).toArray rfl rfl P4.wr (by kernel_rfl) (hdL_one _) ?_
            obtain ⟨z0, ev, Q4, hk, hz⟩ := P4.stored (⟨nm, vl, dm, pt, ex, se, ho, st⟩ : Hd) v6.heap.size v6 (by omega) yb
            rw [← ev]
            refine hK.out _ _ (R0.keep hz) (fun _ => ?_)
            clear hK K ev
            try simp only [List.getElem_toArray, List.getElem_cons_succ, List.getElem_cons_zero, Act.put]
            replace yb := hz
            replace P5 := hk _ _ (by omega) P5
            replace P6 := hk _ _ (by omega) P6
            replace P7 := hk _ _ (by omega) P7
            clear hk hz P4
            refine wpAnyH_ready (rs := [9]) (by kernel_rfl) (by simp) ?_
            refine AllReadyH.cons rfl (fun K hK => ?_) AllReadyH.nil
            rw [if_pos (by rfl)]
            refine wp_store_mid 23 (.tmp 20) (.tmp 81) rfl n2 0 (hdL (⟨nm, vl, dm, pt, ex, se, ho, st⟩ : Hd)).toArray rfl rfl P5.wr (by kernel_rfl) (hdL_one _) ?_
            obtain ⟨z1, ev, Q5, hk, hz⟩ := P5.stored (⟨nm, vl, dm, pt, ex, se, ho, st⟩ : Hd) v6.heap.size v6 (by omega) yb
            rw [← ev]
            refine hK.out _ _ (R0.keep hz) (fun _ => ?_)
            clear hK K ev
            try simp only [List.getElem_toArray, List.getElem_cons_succ, List.getElem_cons_zero, Act.put]
            replace yb := hz
            replace Q4 := hk _ _ (by omega) Q4
            replace P6 := hk _ _ (by omega) P6
            replace P7 := hk _ _ (by omega) P7
            clear hk hz P5
            refine wpAnyH_ready (rs := [10]) (by kernel_rfl) (by simp) ?_
            refine AllReadyH.cons rfl (fun K hK => ?_) AllReadyH.nil
            rw [if_pos (by rfl)]
            refine wp_store_mid 23 (.tmp 21) (.tmp 82) rfl n1 0 (hdL (⟨nm, vl, dm, pt, ex, se, ho, st⟩ : Hd)).toArray rfl rfl P6.wr (by kernel_rfl) (hdL_one _) ?_
            obtain ⟨z2, ev, Q6, hk, hz⟩ := P6.stored (⟨nm, vl, dm, pt, ex, se, ho, st⟩ : Hd) v6.heap.size v6 (by omega) yb
            rw [← ev]
            refine hK.out _ _ (R0.keep hz) (fun _ => ?_)
            clear hK K ev
            try simp only [List.getElem_toArray, List.getElem_cons_succ, List.getElem_cons_zero, Act.put]
            replace yb := hz
            replace Q4 := hk _ _ (by omega) Q4
            replace Q5 := hk _ _ (by omega) Q5
            replace P7 := hk _ _ (by omega) P7
            clear hk hz P6
            refine wpAnyH_ready (rs := [11]) (by kernel_rfl) (by simp) ?_
            refine AllReadyH.cons rfl (fun K hK => ?_) AllReadyH.nil
            rw [if_pos (by rfl)]
            refine wp_store_mid 23 (.tmp 22) (.tmp 83) rfl n4 0 (hdL (⟨nm, vl, dm, pt, ex, se, ho, st⟩ : Hd)).toArray rfl rfl P7.wr (by kernel_rfl) (hdL_one _) ?_
            obtain ⟨z3, ev, Q7, hk, hz⟩ := P7.stored (⟨nm, vl, dm, pt, ex, se, ho, st⟩ : Hd) v6.heap.size v6 (by omega) yb
            rw [← ev]
            refine hK.out _ _ (R0.keep hz) (fun _ => ?_)
            clear hK K ev
            try simp only [List.getElem_toArray, List.getElem_cons_succ, List.getElem_cons_zero, Act.put]
            replace yb := hz
            replace Q4 := hk _ _ (by omega) Q4
            replace Q5 := hk _ _ (by omega) Q5
            replace Q6 := hk _ _ (by omega) Q6
            clear hk hz P7
            refine wpAnyH_done (by kernel_rfl) ?_ _
            go_wp2_with fail
            go_meet
            case rel => exact ⟨rfl, rfl, rfl, rfl, n3, n2, n1, n4, rfl, rfl, rfl, rfl, ⟨yb, ⟨by omega, by omega, by omega, by omega⟩, ⟨by omega, by omega, by omega, by omega, by omega, by omega⟩, Q4, Q5, Q6, Q7⟩⟩
          exact AllReadyH.nil
        refine AllReadyH.cons rfl (fun K hK => ?_) ?_
        · go_simp
          refine hK.out _ _ ((R0.keep yb).alloc _) (fun _ => ?_)
          clear hK K
          try simp only [List.getElem_toArray, List.getElem_cons_succ, List.getElem_cons_zero, Act.put, List.setIfInBounds_toArray, List.set_cons_zero, List.set_cons_succ]
          obtain ⟨y3, ev, P7, hk, hb'⟩ := fresh_hd ⟨#[]⟩ ⟨#[]⟩ ⟨#[]⟩ ⟨#[]⟩ 0 false false 0 v6 y2 yb
          rw [← ev]
          have g3 : v6.heap.size ≤ y2.heap.size := yb.size
          have l13 : n1 < y2.heap.size := P6.lt
          replace P6 := hk _ _ P6
          have l23 : n2 < y2.heap.size := P5.lt
          replace P5 := hk _ _ P5
          generalize y2.heap.size = n3 at *
          replace yb := hb'
          clear ev hk hb'
          refine wpAnyH_ready (rs := [4]) (by kernel_rfl) (by simp) ?_
          refine AllReadyH.cons rfl (fun K hK => ?_) ?_
          · go_simp
            refine hK.out _ _ ((R0.keep yb).alloc _) (fun _ => ?_)
            clear hK K
            try simp only [List.getElem_toArray, List.getElem_cons_succ, List.getElem_cons_zero, Act.put, List.setIfInBounds_toArray, List.set_cons_zero, List.set_cons_succ]
            obtain ⟨y4, ev, P4, hk, hb'⟩ := fresh_hd ⟨#[]⟩ ⟨#[]⟩ ⟨#[]⟩ ⟨#[]⟩ 0 false false 0 v6 y3 yb
            rw [← ev]
            have g4 : v6.heap.size ≤ y3.heap.size := yb.size
            have l14 : n1 < y3.heap.size := P6.lt
            replace P6 := hk _ _ P6
            have l24 : n2 < y3.heap.size := P5.lt
            replace P5 := hk _ _ P5
            have l34 : n3 < y3.heap.size := P7.lt
            replace P7 := hk _ _ P7
            generalize y3.heap.size = n4 at *
            replace yb := hb'
            clear ev hk hb'
            refine wpAnyH_ready (rs := [8]) (by kernel_rfl) (by simp) ?_
            refine AllReadyH.cons rfl (fun K hK => ?_) AllReadyH.nil
            rw [if_pos (by rfl)]
            refine wp_store_mid 23 (.tmp 19) (.tmp 80) rfl n4 0 (hdL (⟨nm, vl, dm, pt, ex, se, ho, st⟩ : Hd)).toArray rfl rfl P4.wr (by kernel_rfl) (hdL_one _) ?_
            obtain ⟨z0, ev, Q4, hk, hz⟩ := P4.stored (⟨nm, vl, dm, pt, ex, se, ho, st⟩ : Hd) v6.heap.size v6 (by omega) yb
            rw [← ev]
            refine hK.out _ _ (R0.keep hz) (fun _ => ?_)
            clear hK K ev
            try simp only [List.getElem_toArray, List.getElem_cons_succ, List.getElem_cons_zero, Act.put]
            replace yb := hz
            replace P5 := hk _ _ (by omega) P5
            replace P6 := hk _ _ (by omega) P6
            replace P7 := hk _ _ (by omega) P7
            clear hk hz P4
            refine wpAnyH_ready (rs := [9]) (by kernel_rfl) (by simp) ?_
            refine AllReadyH.cons rfl (fun K hK => ?_) AllReadyH.nil
            rw [if_pos (by rfl)]
            refine wp_store_mid 23 (.tmp 20) (.tmp 81) rfl n2 0 (hdL (⟨nm, vl, dm, pt, ex, se, ho, st⟩ : Hd)).toArray rfl rfl P5.wr (by kernel_rfl) (hdL_one _) ?_
            obtain ⟨z1, ev, Q5, hk, hz⟩ := P5.stored (⟨nm, vl, dm, pt, ex, se, ho, st⟩ : Hd) v6.heap.size v6 (by omega) yb
            rw [← ev]
            refine hK.out _ _ (R0.keep hz) (fun _ => ?_)
            clear hK K ev
            try simp only [List.getElem_toArray, List.getElem_cons_succ, List.getElem_cons_zero, Act.put]
            replace yb := hz
            replace Q4 := hk _ _ (by omega) Q4
            replace P6 := hk _ _ (by omega) P6
            replace P7 := hk _ _ (by omega) P7
            clear hk hz P5
            refine wpAnyH_ready (rs := [10]) (by kernel_rfl) (by simp) ?_
            refine AllReadyH.cons rfl (fun K hK => ?_) AllReadyH.nil
            rw [if_pos (by rfl)]
            refine wp_store_mid 23 (.tmp 21) (.tmp 82) rfl n1 0 (hdL (⟨nm, vl, dm, pt, ex, se, ho, st⟩ : Hd)).toArray rfl rfl P6.wr (by kernel_rfl) (hdL_one _) ?_
            obtain ⟨z2, ev, Q6, hk, hz⟩ := P6.stored (⟨nm, vl, dm, pt, ex, se, ho, st⟩ : Hd) v6.heap.size v6 (by omega) yb
            rw [← ev]
            refine hK.out _ _ (R0.keep hz) (fun _ => ?_)
            clear hK K ev
            try simp only [List.getElem_toArray, List.getElem_cons_succ, List.getElem_cons_zero, Act.put]
            replace yb := hz
            replace Q4 := hk _ _ (by omega) Q4
            replace Q5 := hk _ _ (by omega) Q5
            replace P7 := hk _ _ (by omega) P7
            clear hk hz P6
            refine wpAnyH_ready (rs := [11]) (by kernel_rfl) (by simp) ?_
            refine AllReadyH.cons rfl (fun K hK => ?_) AllReadyH.nil
            rw [if_pos (by rfl)]
            refine wp_store_mid 23 (.tmp 22) (.tmp 83) rfl n3 0 (hdL (⟨nm, vl, dm, pt, ex, se, ho, st⟩ : Hd)).toArray rfl rfl P7.wr (by kernel_rfl) (hdL_one _) ?_
            obtain ⟨z3, ev, Q7, hk, hz⟩ := P7.stored (⟨nm, vl, dm, pt, ex, se, ho, st⟩ : Hd) v6.heap.size v6 (by omega) yb
            rw [← ev]
            refine hK.out _ _ (R0.keep hz) (fun _ => ?_)
            clear hK K ev
            try simp only [List.getElem_toArray, List.getElem_cons_succ, List.getElem_cons_zero, Act.put]
            replace yb := hz
            replace Q4 := hk _ _ (by omega) Q4
            replace Q5 := hk _ _ (by omega) Q5
            replace Q6 := hk _ _ (by omega) Q6
            clear hk hz P7
            refine wpAnyH_done (by kernel_rfl) ?_ _
            go_wp2_with fail
            go_meet
            case rel => exact ⟨rfl, rfl, rfl, rfl, n4, n2, n1, n3, rfl, rfl, rfl, rfl, ⟨yb, ⟨by omega, by omega, by omega, by omega⟩, ⟨by omega, by omega, by omega, by omega, by omega, by omega⟩, Q4, Q5, Q6, Q7⟩⟩
          exact AllReadyH.nil
        exact AllReadyH.nil
      refine AllReadyH.cons rfl (fun K hK => ?_) ?_
      · go_simp
        refine hK.out _ _ ((R0.keep yb).alloc _) (fun _ => ?_)
        clear hK K
        try simp only [List.getElem_toArray, List.getElem_cons_succ, List.getElem_cons_zero, Act.put, List.setIfInBounds_toArray, List.set_cons_zero, List.set_cons_succ]
        obtain ⟨y2, ev, P7, hk, hb'⟩ := fresh_hd ⟨#[]⟩ ⟨#[]⟩ ⟨#[]⟩ ⟨#[]⟩ 0 false false 0 v6 y1 yb
        rw [← ev]
        have g2 : v6.heap.size ≤ y1.heap.size := yb.size
        have l12 : n1 < y1.heap.size := P6.lt
        replace P6 := hk _ _ P6
        generalize y1.heap.size = n2 at *
        replace yb := hb'
        clear ev hk hb'
        refine wpAnyH_ready (rs := [4, 5]) (by kernel_rfl) (by simp) ?_
        refine AllReadyH.cons rfl (fun K hK => ?_) ?_
        · go_simp
          refine hK.out _ _ ((R0.keep yb).alloc _) (fun _ => ?_)
          clear hK K
          try simp only [List.getElem_toArray, List.getElem_cons_succ, List.getElem_cons_zero, Act.put, List.setIfInBounds_toArray, List.set_cons_zero, List.set_cons_succ]
          obtain ⟨y3, ev, P4, hk, hb'⟩ := fresh_hd ⟨#[]⟩ ⟨#[]⟩ ⟨#[]⟩ ⟨#[]⟩ 0 false false 0 v6 y2 yb
          rw [← ev]
          have g3 : v6.heap.size ≤ y2.heap.size := yb.size
          have l13 : n1 < y2.heap.size := P6.lt
          replace P6 := hk _ _ P6
          have l23 : n2 < y2.heap.size := P7.lt
          replace P7 := hk _ _ P7
          generalize y2.heap.size = n3 at *
          replace yb := hb'
          clear ev hk hb'
          refine wpAnyH_ready (rs := [5]) (by kernel_rfl) (by simp) ?_
          refine AllReadyH.cons rfl (fun K hK => ?_) ?_
          · go_simp
            refine hK.out _ _ ((R0.keep yb).alloc _) (fun _ => ?_)
            clear hK K
            try simp only [List.getElem_toArray, List.getElem_cons_succ, List.getElem_cons_zero, Act.put, List.setIfInBounds_toArray, List.set_cons_zero, List.set_cons_succ]
            obtain ⟨y4, ev, P5, hk, hb'⟩ := fresh_hd ⟨#[]⟩ ⟨#[]⟩ ⟨#[]⟩ ⟨#[]⟩ 0 false false 0 v6 y3 yb
            rw [← ev]
            have g4 : v6.heap.size ≤ y3.heap.size := yb.size
            have l14 : n1 < y3.heap.size := P6.lt
            replace P6 := hk _ _ P6
            have l24 : n2 < y3.heap.size := P7.lt
            replace P7 := hk _ _ P7
            have l34 : n3 < y3.heap.size := P4.lt
            replace P4 := hk _ _ P4
            generalize y3.heap.size = n4 at *
            replace yb := hb'
            clear ev hk hb'
            refine wpAnyH_ready (rs := [8]) (by kernel_rfl) (by simp) ?_
            refine AllReadyH.cons rfl (fun K hK => ?_) AllReadyH.nil
            rw [if_pos (by rfl)]
            refine wp_store_mid 23 (.tmp 19) (.tmp 80) rfl n3 0 (hdL (⟨nm, vl, dm, pt, ex, se, ho, st⟩ : Hd)).toArray rfl rfl P4.wr (by kernel_rfl) (hdL_one _) ?_
            obtain ⟨z0, ev, Q4, hk, hz⟩ := P4.stored (⟨nm, vl, dm, pt, ex, se, ho, st⟩ : Hd) v6.heap.size v6 (by omega) yb
            rw [← ev]
            refine hK.out _ _ (R0.keep hz) (fun _ => ?_)
            clear hK K ev
            try simp only [List.getElem_toArray, List.getElem_cons_succ, List.getElem_cons_zero, Act.put]
            replace yb := hz
            replace P5 := hk _ _ (by omega) P5
            replace P6 := hk _ _ (by omega) P6
            replace P7 := hk _ _ (by omega) P7
            clear hk hz P4
            refine wpAnyH_ready (rs := [9]) (by kernel_rfl) (by simp) ?_
            refine AllReadyH.cons rfl (fun K hK => ?_) AllReadyH.nil
            rw [if_pos (by rfl)]
            refine wp_store_mid 23 (.tmp 20) (.tmp 81) rfl n4 0 (hdL (⟨nm, vl, dm, pt, ex, se, ho, st⟩ : Hd)).toArray rfl rfl P5.wr (by kernel_rfl) (hdL_one _) ?_
            obtain ⟨z1, ev, Q5, hk, hz⟩ := P5.stored (⟨nm, vl, dm, pt, ex, se, ho, st⟩ : Hd) v6.heap.size v6 (by omega) yb
            rw [← ev]
            refine hK.out _ _ (R0.keep hz) (fun _ => ?_)
            clear hK K ev
            try simp only [List.getElem_toArray, List.getElem_cons_succ, List.getElem_cons_zero, Act.put]
            replace yb := hz
            replace Q4 := hk _ _ (by omega) Q4
            replace P6 := hk _ _ (by omega) P6
            replace P7 := hk _ _ (by omega) P7
            clear hk hz P5
            refine wpAnyH_ready (rs := [10]) (by kernel_rfl) (by simp) ?_
            refine AllReadyH.cons rfl (fun K hK => ?_) AllReadyH.nil
            rw [if_pos (by rfl)]
            refine wp_store_mid 23 (.tmp 21) (.tmp 82) rfl n1 0 (hdL (⟨nm, vl, dm, pt, ex, se, ho, st⟩ : Hd)).toArray rfl rfl P6.wr (by kernel_rfl) (hdL_one _) ?_
            obtain ⟨z2, ev, Q6, hk, hz⟩ := P6.stored (⟨nm, vl, dm, pt, ex, se, ho, st⟩ : Hd) v6.heap.size v6 (by omega) yb
            rw [← ev]
            refine hK.out _ _ (R0.keep hz) (fun _ => ?_)
            clear hK K ev
            try simp only [List.getElem_toArray, List.getElem_cons_succ, List.getElem_cons_zero, Act.put]
            replace yb := hz
            replace Q4 := hk _ _ (by omega) Q4
            replace Q5 := hk _ _ (by omega) Q5
            replace P7 := hk _ _ (by omega) P7
            clear hk hz P6
            refine wpAnyH_ready (rs := [11]) (by kernel_rfl) (by simp) ?_
            refine AllReadyH.cons rfl (fun K hK => ?_) AllReadyH.nil
            rw [if_pos (by rfl)]
            refine wp_store_mid 23 (.tmp 22) (.tmp 83) rfl n2 0 (hdL (⟨nm, vl, dm, pt, ex, se, ho, st⟩ : Hd)).toArray rfl rfl P7.wr (by kernel_rfl) (hdL_one _) ?_
            obtain ⟨z3, ev, Q7, hk, hz⟩ := P7.stored (⟨nm, vl, dm, pt, ex, se, ho, st⟩ : Hd) v6.heap.size v6 (by omega) yb
            rw [← ev]
            refine hK.out _ _ (R0.keep hz) (fun _ => ?_)
            clear hK K ev
            try simp only [List.getElem_toArray, List.getElem_cons_succ, List.getElem_cons_zero, Act.put]
            replace yb := hz
            replace Q4 := hk _ _ (by omega) Q4
            replace Q5 := hk _ _ (by omega) Q5
            replace Q6 := hk _ _ (by omega) Q6
            clear hk hz P7
            refine wpAnyH_done (by kernel_rfl) ?_ _
            go_wp2_with fail
            go_meet
            case rel => exact ⟨rfl, rfl, rfl, rfl, n3, n4, n1, n2, rfl, rfl, rfl, rfl, ⟨yb, ⟨by omega, by omega, by omega, by omega⟩, ⟨by omega, by omega, by omega, by omega, by omega, by omega⟩, Q4, Q5, Q6, Q7⟩⟩
          exact AllReadyH.nil
        refine AllReadyH.cons rfl (fun K hK => ?_) ?_
        · go_simp
          refine hK.out _ _ ((R0.keep yb).alloc _) (fun _ => ?_)
          clear hK K
          try simp only [List.getElem_toArray, List.getElem_cons_succ, List.getElem_cons_zero, Act.put, List.setIfInBounds_toArray, List.set_cons_zero, List.set_cons_succ]
          obtain ⟨y3, ev, P5, hk, hb'⟩ := fresh_hd ⟨#[]⟩ ⟨#[]⟩ ⟨#[]⟩ ⟨#[]⟩ 0 false false 0 v6 y2 yb
          rw [← ev]
          have g3 : v6.heap.size ≤ y2.heap.size := yb.size
          have l13 : n1 < y2.heap.size := P6.lt
          replace P6 := hk _ _ P6
          have l23 : n2 < y2.heap.size := P7.lt
          replace P7 := hk _ _ P7
          generalize y2.heap.size = n3 at *
          replace yb := hb'
          clear ev hk hb'
          refine wpAnyH_ready (rs := [4]) (by kernel_rfl) (by simp) ?_
          refine AllReadyH.cons rfl (fun K hK => ?_) ?_
          · go_simp
            refine hK.out _ _ ((R0.keep yb).alloc _) (fun _ => ?_)
            clear hK K
            try simp only [List.getElem_toArray, List.getElem_cons_succ, List.getElem_cons_zero, Act.put, List.setIfInBounds_toArray, List.set_cons_zero, List.set_cons_succ]
            obtain ⟨y4, ev, P4, hk, hb'⟩ := fresh_hd ⟨#[]⟩ ⟨#[]⟩ ⟨#[]⟩ ⟨#[]⟩ 0 false false 0 v6 y3 yb
            rw [← ev]
            have g4 : v6.heap.size ≤ y3.heap.size := yb.size
            have l14 : n1 < y3.heap.size := P6.lt
            replace P6 := hk _ _ P6
            have l24 : n2 < y3.heap.size := P7.lt
            replace P7 := hk _ _ P7
            have l34 : n3 < y3.heap.size := P5.lt
            replace P5 := hk _ _ P5
            generalize y3.heap.size = n4 at *
            replace yb := hb'
            clear ev hk hb'
            refine wpAnyH_ready (rs := [8]) (by kernel_rfl) (by simp) ?_
            refine AllReadyH.cons rfl (fun K hK => ?_) AllReadyH.nil
            rw [if_pos (by rfl)]
            refine wp_store_mid 23 (.tmp 19) (.tmp 80) rfl n4 0 (hdL (⟨nm, vl, dm, pt, ex, se, ho, st⟩ : Hd)).toArray rfl rfl P4.wr (by kernel_rfl) (hdL_one _) ?_
            obtain ⟨z0, ev, Q4, hk, hz⟩ := P4.stored (⟨nm, vl, dm, pt, ex, se, ho, st⟩ : Hd) v6.heap.size v6 (by omega) yb
            rw [← ev]
            refine hK.out _ _ (R0.keep hz) (fun _ => ?_)
            clear hK K ev
            try simp only [List.getElem_toArray, List.getElem_cons_succ, List.getElem_cons_zero, Act.put]
            replace yb := hz
            replace P5 := hk _ _ (by omega) P5
            replace P6 := hk _ _ (by omega) P6
            replace P7 := hk _ _ (by omega) P7
            clear hk hz P4
            refine wpAnyH_ready (rs := [9]) (by kernel_rfl) (by simp) ?_
            refine AllReadyH.cons rfl (fun K hK => ?_) AllReadyH.nil
            rw [if_pos (by rfl)]
            refine wp_store_mid 23 (.tmp 20) (.tmp 81) rfl n3 0 (hdL (⟨nm, vl, dm, pt, ex, se, ho, st⟩ : Hd)).toArray rfl rfl P5.wr (by kernel_rfl) (hdL_one _) ?_
            obtain ⟨z1, ev, Q5, hk, hz⟩ := P5.stored (⟨nm, vl, dm, pt, ex, se, ho, st⟩ : Hd) v6.heap.size v6 (by omega) yb
            rw [← ev]
            refine hK.out _ _ (R0.keep hz) (fun _ => ?_)
            clear hK K ev
            try simp only [List.getElem_toArray, List.getElem_cons_succ, List.getElem_cons_zero, Act.put]
            replace yb := hz
            replace Q4 := hk _ _ (by omega) Q4
            replace P6 := hk _ _ (by omega) P6
            replace P7 := hk _ _ (by omega) P7
            clear hk hz P5
            refine wpAnyH_ready (rs := [10]) (by kernel_rfl) (by simp) ?_
            refine AllReadyH.cons rfl (fun K hK => ?_) AllReadyH.nil
            rw [if_pos (by rfl)]
            refine wp_store_mid 23 (.tmp 21) (.tmp 82) rfl n1 0 (hdL (⟨nm, vl, dm, pt, ex, se, ho, st⟩ : Hd)).toArray rfl rfl P6.wr (by kernel_rfl) (hdL_one _) ?_
            obtain ⟨z2, ev, Q6, hk, hz⟩ := P6.stored (⟨nm, vl, dm, pt, ex, se, ho, st⟩ : Hd) v6.heap.size v6 (by omega) yb
            rw [← ev]
            refine hK.out _ _ (R0.keep hz) (fun _ => ?_)
            clear hK K ev
            try simp only [List.getElem_toArray, List.getElem_cons_succ, List.getElem_cons_zero, Act.put]
            replace yb := hz
            replace Q4 := hk _ _ (by omega) Q4
            replace Q5 := hk _ _ (by omega) Q5
            replace P7 := hk _ _ (by omega) P7
            clear hk hz P6
            refine wpAnyH_ready (rs := [11]) (by kernel_rfl) (by simp) ?_
            refine AllReadyH.cons rfl (fun K hK => ?_) AllReadyH.nil
            rw [if_pos (by rfl)]
            refine wp_store_mid 23 (.tmp 22) (.tmp 83) rfl n2 0 (hdL (⟨nm, vl, dm, pt, ex, se, ho, st⟩ : Hd)).toArray rfl rfl P7.wr (by kernel_rfl) (hdL_one _) ?_
            obtain ⟨z3, ev, Q7, hk, hz⟩ := P7.stored (⟨nm, vl, dm, pt, ex, se, ho, st⟩ : Hd) v6.heap.size v6 (by omega) yb
            rw [← ev]
            refine hK.out _ _ (R0.keep hz) (fun _ => ?_)
            clear hK K ev
            try simp only [List.getElem_toArray, List.getElem_cons_succ, List.getElem_cons_zero, Act.put]
            replace yb := hz
            replace Q4 := hk _ _ (by omega) Q4
            replace Q5 := hk _ _ (by omega) Q5
            replace Q6 := hk _ _ (by omega) Q6
            clear hk hz P7
            refine wpAnyH_done (by kernel_rfl) ?_ _
            go_wp2_with fail
            go_meet
            case rel => exact ⟨rfl, rfl, rfl, rfl, n4, n3, n1, n2, rfl, rfl, rfl, rfl, ⟨yb, ⟨by omega, by omega, by omega, by omega⟩, ⟨by omega, by omega, by omega, by omega, by omega, by omega⟩, Q4, Q5, Q6, Q7⟩⟩
          exact AllReadyH.nil
        exact AllReadyH.nil
      exact AllReadyH.nil
    refine AllReadyH.cons rfl (fun K hK => ?_) ?_
    · go_simp
      refine hK.out _ _ ((R0.keep yb).alloc _) (fun _ => ?_)
      clear hK K
      try simp only [List.getElem_toArray, List.getElem_cons_succ, List.getElem_cons_zero, Act.put, List.setIfInBounds_toArray, List.set_cons_zero, List.set_cons_succ]
      obtain ⟨y1, ev, P7, hk, hb'⟩ := fresh_hd ⟨#[]⟩ ⟨#[]⟩ ⟨#[]⟩ ⟨#[]⟩ 0 false false 0 v6 yd yb
      rw [← ev]
      have g1 : v6.heap.size ≤ yd.heap.size := yb.size
      generalize yd.heap.size = n1 at *
      replace yb := hb'
      clear ev hk hb'
      refine wpAnyH_ready (rs := [4, 5, 6]) (by kernel_rfl) (by simp) ?_
      refine AllReadyH.cons rfl (fun K hK => ?_) ?_
      · go_simp
        refine hK.out _ _ ((R0.keep yb).alloc _) (fun _ => ?_)
        clear hK K
        try simp only [List.getElem_toArray, List.getElem_cons_succ, List.getElem_cons_zero, Act.put, List.setIfInBounds_toArray, List.set_cons_zero, List.set_cons_succ]
        obtain ⟨y2, ev, P4, hk, hb'⟩ := fresh_hd ⟨#[]⟩ ⟨#[]⟩ ⟨#[]⟩ ⟨#[]⟩ 0 false false 0 v6 y1 yb
        rw [← ev]
        have g2 : v6.heap.size ≤ y1.heap.size := yb.size
        have l12 : n1 < y1.heap.size := P7.lt
        replace P7 := hk _ _ P7
        generalize y1.heap.size = n2 at *
        replace yb := hb'
        clear ev hk hb'
        refine wpAnyH_ready (rs := [5, 6]) (by kernel_rfl) (by simp) ?_
        refine AllReadyH.cons rfl (fun K hK => ?_) ?_
        · go_simp
          refine hK.out _ _ ((R0.keep yb).alloc _) (fun _ => ?_)
          clear hK K
          try simp only [List.getElem_toArray, List.getElem_cons_succ, List.getElem_cons_zero, Act.put, List.setIfInBounds_toArray, List.set_cons_zero, List.set_cons_succ]
          obtain ⟨y3, ev, P5, hk, hb'⟩ := fresh_hd ⟨#[]⟩ ⟨#[]⟩ ⟨#[]⟩ ⟨#[]⟩ 0 false false 0 v6 y2 yb
          rw [← ev]
          have g3 : v6.heap.size ≤ y2.heap.size := yb.size
          have l13 : n1 < y2.heap.size := P7.lt
          replace P7 := hk _ _ P7
          have l23 : n2 < y2.heap.size := P4.lt
          replace P4 := hk _ _ P4
          generalize y2.heap.size = n3 at *
          replace yb := hb'
          clear ev hk hb'
          refine wpAnyH_ready (rs := [6]) (by kernel_rfl) (by simp) ?_
          refine AllReadyH.cons rfl (fun K hK => ?_) ?_
          · go_simp
            refine hK.out _ _ ((R0.keep yb).alloc _) (fun _ => ?_)
            clear hK K
            try simp only [List.getElem_toArray, List.getElem_cons_succ, List.getElem_cons_zero, Act.put, List.setIfInBounds_toArray, List.set_cons_zero, List.set_cons_succ]
            obtain ⟨y4, ev, P6, hk, hb'⟩ := fresh_hd ⟨#[]⟩ ⟨#[]⟩ ⟨#[]⟩ ⟨#[]⟩ 0 false false 0 v6 y3 yb
            rw [← ev]
            have g4 : v6.heap.size ≤ y3.heap.size := yb.size
            have l14 : n1 < y3.heap.size := P7.lt
            replace P7 := hk _ _ P7
            have l24 : n2 < y3.heap.size := P4.lt
            replace P4 := hk _ _ P4
            have l34 : n3 < y3.heap.size := P5.lt
            replace P5 := hk _ _ P5
            generalize y3.heap.size = n4 at *
            replace yb := hb'
            clear ev hk hb'
            refine wpAnyH_ready (rs := [8]) (by kernel_rfl) (by simp) ?_
            refine AllReadyH.cons rfl (fun K hK => ?_) AllReadyH.nil
            rw [if_pos (by rfl)]
            refine wp_store_mid 23 (.tmp 19) (.tmp 80) rfl n2 0 (hdL (⟨nm, vl, dm, pt, ex, se, ho, st⟩ : Hd)).toArray rfl rfl P4.wr (by kernel_rfl) (hdL_one _) ?_
            obtain ⟨z0, ev, Q4, hk, hz⟩ := P4.stored (⟨nm, vl, dm, pt, ex, se, ho, st⟩ : Hd) v6.heap.size v6 (by omega) yb
            rw [← ev]
            refine hK.out _ _ (R0.keep hz) (fun _ => ?_)
            clear hK K ev
            try simp only [List.getElem_toArray, List.getElem_cons_succ, List.getElem_cons_zero, Act.put]
            replace yb := hz
            replace P5 := hk _ _ (by omega) P5
            replace P6 := hk _ _ (by omega) P6
            replace P7 := hk _ _ (by omega) P7
            clear hk hz P4
            refine wpAnyH_ready (rs := [9]) (by kernel_rfl) (by simp) ?_
            refine AllReadyH.cons rfl (fun K hK => ?_) AllReadyH.nil
            rw [if_pos (by rfl)]
            refine wp_store_mid 23 (.tmp 20) (.tmp 81) rfl n3 0 (hdL (⟨nm, vl, dm, pt, ex, se, ho, st⟩ : Hd)).toArray rfl rfl P5.wr (by kernel_rfl) (hdL_one _) ?_
            obtain ⟨z1, ev, Q5, hk, hz⟩ := P5.stored (⟨nm, vl, dm, pt, ex, se, ho, st⟩ : Hd) v6.heap.size v6 (by omega) yb
            rw [← ev]
            refine hK.out _ _ (R0.keep hz) (fun _ => ?_)
            clear hK K ev
            try simp only [List.getElem_toArray, List.getElem_cons_succ, List.getElem_cons_zero, Act.put]
            replace yb := hz
            replace Q4 := hk _ _ (by omega) Q4
            replace P6 := hk _ _ (by omega) P6
            replace P7 := hk _ _ (by omega) P7
            clear hk hz P5
            refine wpAnyH_ready (rs := [10]) (by kernel_rfl) (by simp) ?_
            refine AllReadyH.cons rfl (fun K hK => ?_) AllReadyH.nil
            rw [if_pos (by rfl)]
            refine wp_store_mid 23 (.tmp 21) (.tmp 82) rfl n4 0 (hdL (⟨nm, vl, dm, pt, ex, se, ho, st⟩ : Hd)).toArray rfl rfl P6.wr (by kernel_rfl) (hdL_one _) ?_
            obtain ⟨z2, ev, Q6, hk, hz⟩ := P6.stored (⟨nm, vl, dm, pt, ex, se, ho, st⟩ : Hd) v6.heap.size v6 (by omega) yb
            rw [← ev]
            refine hK.out _ _ (R0.keep hz) (fun _ => ?_)
            clear hK K ev
            try simp only [List.getElem_toArray, List.getElem_cons_succ, List.getElem_cons_zero, Act.put]
            replace yb := hz
            replace Q4 := hk _ _ (by omega) Q4
            replace Q5 := hk _ _ (by omega) Q5
            replace P7 := hk _ _ (by omega) P7
            clear hk hz P6
            refine wpAnyH_ready (rs := [11]) (by kernel_rfl) (by simp) ?_
            refine AllReadyH.cons rfl (fun K hK => ?_) AllReadyH.nil
            rw [if_pos (by rfl)]
            refine wp_store_mid 23 (.tmp 22) (.tmp 83) rfl n1 0 (hdL (⟨nm, vl, dm, pt, ex, se, ho, st⟩ : Hd)).toArray rfl rfl P7.wr (by kernel_rfl) (hdL_one _) ?_
            obtain ⟨z3, ev, Q7, hk, hz⟩ := P7.stored (⟨nm, vl, dm, pt, ex, se, ho, st⟩ : Hd) v6.heap.size v6 (by omega) yb
            rw [← ev]
            refine hK.out _ _ (R0.keep hz) (fun _ => ?_)
            clear hK K ev
            try simp only [List.getElem_toArray, List.getElem_cons_succ, List.getElem_cons_zero, Act.put]
            replace yb := hz
            replace Q4 := hk _ _ (by omega) Q4
            replace Q5 := hk _ _ (by omega) Q5
            replace Q6 := hk _ _ (by omega) Q6
            clear hk hz P7
            refine wpAnyH_done (by kernel_rfl) ?_ _
            go_wp2_with fail
            go_meet
            case rel => exact ⟨rfl, rfl, rfl, rfl, n2, n3, n4, n1, rfl, rfl, rfl, rfl, ⟨yb, ⟨by omega, by omega, by omega, by omega⟩, ⟨by omega, by omega, by omega, by omega, by omega, by omega⟩, Q4, Q5, Q6, Q7⟩⟩
          exact AllReadyH.nil
        refine AllReadyH.cons rfl (fun K hK => ?_) ?_
        · go_simp
          refine hK.out _ _ ((R0.keep yb).alloc _) (fun _ => ?_)
          clear hK K
          try simp only [List.getElem_toArray, List.getElem_cons_succ, List.getElem_cons_zero, Act.put, List.setIfInBounds_toArray, List.set_cons_zero, List.set_cons_succ]
          obtain ⟨y3, ev, P6, hk, hb'⟩ := fresh_hd ⟨#[]⟩ ⟨#[]⟩ ⟨#[]⟩ ⟨#[]⟩ 0 false false 0 v6 y2 yb
          rw [← ev]
          have g3 : v6.heap.size ≤ y2.heap.size := yb.size
          have l13 : n1 < y2.heap.size := P7.lt
          replace P7 := hk _ _ P7
          have l23 : n2 < y2.heap.size := P4.lt
          replace P4 := hk _ _ P4
          generalize y2.heap.size = n3 at *
          replace yb := hb'
          clear ev hk hb'
          refine wpAnyH_ready (rs := [5]) (by kernel_rfl) (by simp) ?_
          refine AllReadyH.cons rfl (fun K hK => ?_) ?_
          · go_simp
            refine hK.out _ _ ((R0.keep yb).alloc _) (fun _ => ?_)
            clear hK K
            try simp only [List.getElem_toArray, List.getElem_cons_succ, List.getElem_cons_zero, Act.put, List.setIfInBounds_toArray, List.set_cons_zero, List.set_cons_succ]
            obtain ⟨y4, ev, P5, hk, hb'⟩ := fresh_hd ⟨#[]⟩ ⟨#[]⟩ ⟨#[]⟩ ⟨#[]⟩ 0 false false 0 v6 y3 yb
            rw [← ev]
            have g4 : v6.heap.size ≤ y3.heap.size := yb.size
            have l14 : n1 < y3.heap.size := P7.lt
            replace P7 := hk _ _ P7
            have l24 : n2 < y3.heap.size := P4.lt
            replace P4 := hk _ _ P4
            have l34 : n3 < y3.heap.size := P6.lt
            replace P6 := hk _ _ P6
            generalize y3.heap.size = n4 at *
            replace yb := hb'
            clear ev hk hb'
            refine wpAnyH_ready (rs := [8]) (by kernel_rfl) (by simp) ?_
            refine AllReadyH.cons rfl (fun K hK => ?_) AllReadyH.nil
            rw [if_pos (by rfl)]
            refine wp_store_mid 23 (.tmp 19) (.tmp 80) rfl n2 0 (hdL (⟨nm, vl, dm, pt, ex, se, ho, st⟩ : Hd)).toArray rfl rfl P4.wr (by kernel_rfl) (hdL_one _) ?_
            obtain ⟨z0, ev, Q4, hk, hz⟩ := P4.stored (⟨nm, vl, dm, pt, ex, se, ho, st⟩ : Hd) v6.heap.size v6 (by omega) yb
            rw [← ev]
            refine hK.out _ _ (R0.keep hz) (fun _ => ?_)
            clear hK K ev
            try simp only [List.getElem_toArray, List.getElem_cons_succ, List.getElem_cons_zero, Act.put]
            replace yb := hz
            replace P5 := hk _ _ (by omega) P5
            replace P6 := hk _ _ (by omega) P6
            replace P7 := hk _ _ (by omega) P7
            clear hk hz P4
            refine wpAnyH_ready (rs := [9]) (by kernel_rfl) (by simp) ?_
            refine AllReadyH.cons rfl (fun K hK => ?_) AllReadyH.nil
            rw [if_pos (by rfl)]
            refine wp_store_mid 23 (.tmp 20) (.tmp 81) rfl n4 0 (hdL (⟨nm, vl, dm, pt, ex, se, ho, st⟩ : Hd)).toArray rfl rfl P5.wr (by kernel_rfl) (hdL_one _) ?_
            obtain ⟨z1, ev, Q5, hk, hz⟩ := P5.stored (⟨nm, vl, dm, pt, ex, se, ho, st⟩ : Hd) v6.heap.size v6 (by omega) yb
            rw [← ev]
            refine hK.out _ _ (R0.keep hz) (fun _ => ?_)
            clear hK K ev
            try simp only [List.getElem_toArray, List.getElem_cons_succ, List.getElem_cons_zero, Act.put]
            replace yb := hz
            replace Q4 := hk _ _ (by omega) Q4
            replace P6 := hk _ _ (by omega) P6
            replace P7 := hk _ _ (by omega) P7
            clear hk hz P5
            refine wpAnyH_ready (rs := [10]) (by kernel_rfl) (by simp) ?_
            refine AllReadyH.cons rfl (fun K hK => ?_) AllReadyH.nil
            rw [if_pos (by rfl)]
            refine wp_store_mid 23 (.tmp 21) (.tmp 82) rfl n3 0 (hdL (⟨nm, vl, dm, pt, ex, se, ho, st⟩ : Hd)).toArray rfl rfl P6.wr (by kernel_rfl) (hdL_one _) ?_
            obtain ⟨z2, ev, Q6, hk, hz⟩ := P6.stored (⟨nm, vl, dm, pt, ex, se, ho, st⟩ : Hd) v6.heap.size v6 (by omega) yb
            rw [← ev]
            refine hK.out _ _ (R0.keep hz) (fun _ => ?_)
            clear hK K ev
            try simp only [List.getElem_toArray, List.getElem_cons_succ, List.getElem_cons_zero, Act.put]
            replace yb := hz
            replace Q4 := hk _ _ (by omega) Q4
            replace Q5 := hk _ _ (by omega) Q5
            replace P7 := hk _ _ (by omega) P7
            clear hk hz P6
            refine wpAnyH_ready (rs := [11]) (by kernel_rfl) (by simp) ?_
            refine AllReadyH.cons rfl (fun K hK => ?_) AllReadyH.nil
            rw [if_pos (by rfl)]
            refine wp_store_mid 23 (.tmp 22) (.tmp 83) rfl n1 0 (hdL (⟨nm, vl, dm, pt, ex, se, ho, st⟩ : Hd)).toArray rfl rfl P7.wr (by kernel_rfl) (hdL_one _) ?_
            obtain ⟨z3, ev, Q7, hk, hz⟩ := P7.stored (⟨nm, vl, dm, pt, ex, se, ho, st⟩ : Hd) v6.heap.size v6 (by omega) yb
            rw [← ev]
            refine hK.out _ _ (R0.keep hz) (fun _ => ?_)
            clear hK K ev
            try simp only [List.getElem_toArray, List.getElem_cons_succ, List.getElem_cons_zero, Act.put]
            replace yb := hz
            replace Q4 := hk _ _ (by omega) Q4
            replace Q5 := hk _ _ (by omega) Q5
            replace Q6 := hk _ _ (by omega) Q6
            clear hk hz P7
            refine wpAnyH_done (by kernel_rfl) ?_ _
            go_wp2_with fail
            go_meet
            case rel => exact ⟨rfl, rfl, rfl, rfl, n2, n4, n3, n1, rfl, rfl, rfl, rfl, ⟨yb, ⟨by omega, by omega, by omega, by omega⟩, ⟨by omega, by omega, by omega, by omega, by omega, by omega⟩, Q4, Q5, Q6, Q7⟩⟩
          exact AllReadyH.nil
        exact AllReadyH.nil
      refine AllReadyH.cons rfl (fun K hK => ?_) ?_
      · go_simp
        refine hK.out _ _ ((R0.keep yb).alloc _) (fun _ => ?_)
        clear hK K
        try simp only [List.getElem_toArray, List.getElem_cons_succ, List.getElem_cons_zero, Act.put, List.setIfInBounds_toArray, List.set_cons_zero, List.set_cons_succ]
        obtain ⟨y2, ev, P5, hk, hb'⟩ := fresh_hd ⟨#[]⟩ ⟨#[]⟩ ⟨#[]⟩ ⟨#[]⟩ 0 false false 0 v6 y1 yb
        rw [← ev]
        have g2 : v6.heap.size ≤ y1.heap.size := yb.size
        have l12 : n1 < y1.heap.size := P7.lt
        replace P7 := hk _ _ P7
        generalize y1.heap.size = n2 at *
        replace yb := hb'
        clear ev hk hb'
        refine wpAnyH_ready (rs := [4, 6]) (by kernel_rfl) (by simp) ?_
        refine AllReadyH.cons rfl (fun K hK => ?_) ?_
        · go_simp
          refine hK.out _ _ ((R0.keep yb).alloc _) (fun _ => ?_)
          clear hK K
          try simp only [List.getElem_toArray, List.getElem_cons_succ, List.getElem_cons_zero, Act.put, List.setIfInBounds_toArray, List.set_cons_zero, List.set_cons_succ]
          obtain ⟨y3, ev, P4, hk, hb'⟩ := fresh_hd ⟨#[]⟩ ⟨#[]⟩ ⟨#[]⟩ ⟨#[]⟩ 0 false false 0 v6 y2 yb
          rw [← ev]
          have g3 : v6.heap.size ≤ y2.heap.size := yb.size
          have l13 : n1 < y2.heap.size := P7.lt
          replace P7 := hk _ _ P7
          have l23 : n2 < y2.heap.size := P5.lt
          replace P5 := hk _ _ P5
          generalize y2.heap.size = n3 at *
          replace yb := hb'
          clear ev hk hb'
          refine wpAnyH_ready (rs := [6]) (by kernel_rfl) (by simp) ?_
          refine AllReadyH.cons rfl (fun K hK => ?_) ?_
          · go_simp
            refine hK.out _ _ ((R0.keep yb).alloc _) (fun _ => ?_)
            clear hK K
            try simp only [List.getElem_toArray, List.getElem_cons_succ, List.getElem_cons_zero, Act.put, List.setIfInBounds_toArray, List.set_cons_zero, List.set_cons_succ]
            obtain ⟨y4, ev, P6, hk, hb'⟩ := fresh_hd ⟨#[]⟩ ⟨#[]⟩ ⟨#[]⟩ ⟨#[]⟩ 0 false false 0 v6 y3 yb
            rw [← ev]
            have g4 : v6.heap.size ≤ y3.heap.size := yb.size
            have l14 : n1 < y3.heap.size := P7.lt
            replace P7 := hk _ _ P7
            have l24 : n2 < y3.heap.size := P5.lt
            replace P5 := hk _ _ P5
            have l34 : n3 < y3.heap.size := P4.lt
            replace P4 := hk _ _ P4
            generalize y3.heap.size = n4 at *
            replace yb := hb'
            clear ev hk hb'
            refine wpAnyH_ready (rs := [8]) (by kernel_rfl) (by simp) ?_
            refine AllReadyH.cons rfl (fun K hK => ?_) AllReadyH.nil
            rw [if_pos (by rfl)]
            refine wp_store_mid 23 (.tmp 19) (.tmp 80) rfl n3 0 (hdL (⟨nm, vl, dm, pt, ex, se, ho, st⟩ : Hd)).toArray rfl rfl P4.wr (by kernel_rfl) (hdL_one _) ?_
            obtain ⟨z0, ev, Q4, hk, hz⟩ := P4.stored (⟨nm, vl, dm, pt, ex, se, ho, st⟩ : Hd) v6.heap.size v6 (by omega) yb
            rw [← ev]
            refine hK.out _ _ (R0.keep hz) (fun _ => ?_)
            clear hK K ev
            try simp only [List.getElem_toArray, List.getElem_cons_succ, List.getElem_cons_zero, Act.put]
            replace yb := hz
            replace P5 := hk _ _ (by omega) P5
            replace P6 := hk _ _ (by omega) P6
            replace P7 := hk _ _ (by omega) P7
            clear hk hz P4
            refine wpAnyH_ready (rs := [9]) (by kernel_rfl) (by simp) ?_
            refine AllReadyH.cons rfl (fun K hK => ?_) AllReadyH.nil
            rw [if_pos (by rfl)]
            refine wp_store_mid 23 (.tmp 20) (.tmp 81) rfl n2 0 (hdL (⟨nm, vl, dm, pt, ex, se, ho, st⟩ : Hd)).toArray rfl rfl P5.wr (by kernel_rfl) (hdL_one _) ?_
            obtain ⟨z1, ev, Q5, hk, hz⟩ := P5.stored (⟨nm, vl, dm, pt, ex, se, ho, st⟩ : Hd) v6.heap.size v6 (by omega) yb
            rw [← ev]
            refine hK.out _ _ (R0.keep hz) (fun _ => ?_)
            clear hK K ev
            try simp only [List.getElem_toArray, List.getElem_cons_succ, List.getElem_cons_zero, Act.put]
            replace yb := hz
            replace Q4 := hk _ _ (by omega) Q4
            replace P6 := hk _ _ (by omega) P6
            replace P7 := hk _ _ (by omega) P7
            clear hk hz P5
            refine wpAnyH_ready (rs := [10]) (by kernel_rfl) (by simp) ?_
            refine AllReadyH.cons rfl (fun K hK => ?_) AllReadyH.nil
            rw [if_pos (by rfl)]
            refine wp_store_mid 23 (.tmp 21) (.tmp 82) rfl n4 0 (hdL (⟨nm, vl, dm, pt, ex, se, ho, st⟩ : Hd)).toArray rfl rfl P6.wr (by kernel_rfl) (hdL_one _) ?_
            obtain ⟨z2, ev, Q6, hk, hz⟩ := P6.stored (⟨nm, vl, dm, pt, ex, se, ho, st⟩ : Hd) v6.heap.size v6 (by omega) yb
            rw [← ev]
            refine hK.out _ _ (R0.keep hz) (fun _ => ?_)
            clear hK K ev
            try simp only [List.getElem_toArray, List.getElem_cons_succ, List.getElem_cons_zero, Act.put]
            replace yb := hz
            replace Q4 := hk _ _ (by omega) Q4
            replace Q5 := hk _ _ (by omega) Q5
            replace P7 := hk _ _ (by omega) P7
            clear hk hz P6
            refine wpAnyH_ready (rs := [11]) (by kernel_rfl) (by simp) ?_
            refine AllReadyH.cons rfl (fun K hK => ?_) AllReadyH.nil
            rw [if_pos (by rfl)]
            refine wp_store_mid 23 (.tmp 22) (.tmp 83) rfl n1 0 (hdL (⟨nm, vl, dm, pt, ex, se, ho, st⟩ : Hd)).toArray rfl rfl P7.wr (by kernel_rfl) (hdL_one _) ?_
            obtain ⟨z3, ev, Q7, hk, hz⟩ := P7.stored (⟨nm, vl, dm, pt, ex, se, ho, st⟩ : Hd) v6.heap.size v6 (by omega) yb
            rw [← ev]
            refine hK.out _ _ (R0.keep hz) (fun _ => ?_)
            clear hK K ev
            try simp only [List.getElem_toArray, List.getElem_cons_succ, List.getElem_cons_zero, Act.put]
            replace yb := hz
            replace Q4 := hk _ _ (by omega) Q4
            replace Q5 := hk _ _ (by omega) Q5
            replace Q6 := hk _ _ (by omega) Q6
            clear hk hz P7
            refine wpAnyH_done (by kernel_rfl) ?_ _
            go_wp2_with fail
            go_meet
            case rel => exact ⟨rfl, rfl, rfl, rfl, n3, n2, n4, n1, rfl, rfl, rfl, rfl, ⟨yb, ⟨by omega, by omega, by omega, by omega⟩, ⟨by omega, by omega, by omega, by omega, by omega, by omega⟩, Q4, Q5, Q6, Q7⟩⟩
          exact AllReadyH.nil
        refine AllReadyH.cons rfl (fun K hK => ?_) ?_
        · go_simp
          refine hK.out _ _ ((R0.keep yb).alloc _) (fun _ => ?_)
          clear hK K
          try simp only [List.getElem_toArray, List.getElem_cons_succ, List.getElem_cons_zero, Act.put, List.setIfInBounds_toArray, List.set_cons_zero, List.set_cons_succ]
          obtain ⟨y3, ev, P6, hk, hb'⟩ := fresh_hd ⟨#[]⟩ ⟨#[]⟩ ⟨#[]⟩ ⟨#[]⟩ 0 false false 0 v6 y2 yb
          rw [← ev]
          have g3 : v6.heap.size ≤ y2.heap.size := yb.size
          have l13 : n1 < y2.heap.size := P7.lt
          replace P7 := hk _ _ P7
          have l23 : n2 < y2.heap.size := P5.lt
          replace P5 := hk _ _ P5
          generalize y2.heap.size = n3 at *
          replace yb := hb'
          clear ev hk hb'
          refine wpAnyH_ready (rs := [4]) (by kernel_rfl) (by simp) ?_
          refine AllReadyH.cons rfl (fun K hK => ?_) ?_
          · go_simp
            refine hK.out _ _ ((R0.keep yb).alloc _) (fun _ => ?_)
            clear hK K
            try simp only [List.getElem_toArray, List.getElem_cons_succ, List.getElem_cons_zero, Act.put, List.setIfInBounds_toArray, List.set_cons_zero, List.set_cons_succ]
            obtain ⟨y4, ev, P4, hk, hb'⟩ := fresh_hd ⟨#[]⟩ ⟨#[]⟩ ⟨#[]⟩ ⟨#[]⟩ 0 false false 0 v6 y3 yb
            rw [← ev]
            have g4 : v6.heap.size ≤ y3.heap.size := yb.size
            have l14 : n1 < y3.heap.size := P7.lt
            replace P7 := hk _ _ P7
            have l24 : n2 < y3.heap.size := P5.lt
            replace P5 := hk _ _ P5
            have l34 : n3 < y3.heap.size := P6.lt
            replace P6 := hk _ _ P6
            generalize y3.heap.size = n4 at *
            replace yb := hb'
            clear ev hk hb'
            refine wpAnyH_ready (rs := [8]) (by kernel_rfl) (by simp) ?_
            refine AllReadyH.cons rfl (fun K hK => ?_) AllReadyH.nil
            rw [if_pos (by rfl)]
            refine wp_store_mid 23 (.tmp 19) (.tmp 80) rfl n4 0 (hdL (⟨nm, vl, dm, pt, ex, se, ho, st⟩ : Hd)).toArray rfl rfl P4.wr (by kernel_rfl) (hdL_one _) ?_
            obtain ⟨z0, ev, Q4, hk, hz⟩ := P4.stored (⟨nm, vl, dm, pt, ex, se, ho, st⟩ : Hd) v6.heap.size v6 (by omega) yb
            rw [← ev]
            refine hK.out _ _ (R0.keep hz) (fun _ => ?_)
            clear hK K ev
            try simp only [List.getElem_toArray, List.getElem_cons_succ, List.getElem_cons_zero, Act.put]
            replace yb := hz
            replace P5 := hk _ _ (by omega) P5
            replace P6 := hk _ _ (by omega) P6
            replace P7 := hk _ _ (by omega) P7
            clear hk hz P4
            refine wpAnyH_ready (rs := [9]) (by kernel_rfl) (by simp) ?_
            refine AllReadyH.cons rfl (fun K hK => ?_) AllReadyH.nil
            rw [if_pos (by rfl)]
            refine wp_store_mid 23 (.tmp 20) (.tmp 81) rfl n2 0 (hdL (⟨nm, vl, dm, pt, ex, se, ho, st⟩ : Hd)).toArray rfl rfl P5.wr (by kernel_rfl) (hdL_one _) ?_
            obtain ⟨z1, ev, Q5, hk, hz⟩ := P5.stored (⟨nm, vl, dm, pt, ex, se, ho, st⟩ : Hd) v6.heap.size v6 (by omega) yb
            rw [← ev]
            refine hK.out _ _ (R0.keep hz) (fun _ => ?_)
            clear hK K ev
            try simp only [List.getElem_toArray, List.getElem_cons_succ, List.getElem_cons_zero, Act.put]
            replace yb := hz
            replace Q4 := hk _ _ (by omega) Q4
            replace P6 := hk _ _ (by omega) P6
            replace P7 := hk _ _ (by omega) P7
            clear hk hz P5
            refine wpAnyH_ready (rs := [10]) (by kernel_rfl) (by simp) ?_
            refine AllReadyH.cons rfl (fun K hK => ?_) AllReadyH.nil
            rw [if_pos (by rfl)]
            refine wp_store_mid 23 (.tmp 21) (.tmp 82) rfl n3 0 (hdL (⟨nm, vl, dm, pt, ex, se, ho, st⟩ : Hd)).toArray rfl rfl P6.wr (by kernel_rfl) (hdL_one _) ?_
            obtain ⟨z2, ev, Q6, hk, hz⟩ := P6.stored (⟨nm, vl, dm, pt, ex, se, ho, st⟩ : Hd) v6.heap.size v6 (by omega) yb
            rw [← ev]
            refine hK.out _ _ (R0.keep hz) (fun _ => ?_)
            clear hK K ev
            try simp only [List.getElem_toArray, List.getElem_cons_succ, List.getElem_cons_zero, Act.put]
            replace yb := hz
            replace Q4 := hk _ _ (by omega) Q4
            replace Q5 := hk _ _ (by omega) Q5
            replace P7 := hk _ _ (by omega) P7
            clear hk hz P6
            refine wpAnyH_ready (rs := [11]) (by kernel_rfl) (by simp) ?_
            refine AllReadyH.cons rfl (fun K hK => ?_) AllReadyH.nil
            rw [if_pos (by rfl)]
            refine wp_store_mid 23 (.tmp 22) (.tmp 83) rfl n1 0 (hdL (⟨nm, vl, dm, pt, ex, se, ho, st⟩ : Hd)).toArray rfl rfl P7.wr (by kernel_rfl) (hdL_one _) ?_
            obtain ⟨z3, ev, Q7, hk, hz⟩ := P7.stored (⟨nm, vl, dm, pt, ex, se, ho, st⟩ : Hd) v6.heap.size v6 (by omega) yb
            rw [← ev]
            refine hK.out _ _ (R0.keep hz) (fun _ => ?_)
            clear hK K ev
            try simp only [List.getElem_toArray, List.getElem_cons_succ, List.getElem_cons_zero, Act.put]
            replace yb := hz
            replace Q4 := hk _ _ (by omega) Q4
            replace Q5 := hk _ _ (by omega) Q5
            replace Q6 := hk _ _ (by omega) Q6
            clear hk hz P7
            refine wpAnyH_done (by kernel_rfl) ?_ _
            go_wp2_with fail
            go_meet
            case rel => exact ⟨rfl, rfl, rfl, rfl, n4, n2, n3, n1, rfl, rfl, rfl, rfl, ⟨yb, ⟨by omega, by omega, by omega, by omega⟩, ⟨by omega, by omega, by omega, by omega, by omega, by omega⟩, Q4, Q5, Q6, Q7⟩⟩
          exact AllReadyH.nil
        exact AllReadyH.nil
      refine AllReadyH.cons rfl (fun K hK => ?_) ?_
      · go_simp
        refine hK.out _ _ ((R0.keep yb).alloc _) (fun _ => ?_)
        clear hK K
        try simp only [List.getElem_toArray, List.getElem_cons_succ, List.getElem_cons_zero, Act.put, List.setIfInBounds_toArray, List.set_cons_zero, List.set_cons_succ]
        obtain ⟨y2, ev, P6, hk, hb'⟩ := fresh_hd ⟨#[]⟩ ⟨#[]⟩ ⟨#[]⟩ ⟨#[]⟩ 0 false false 0 v6 y1 yb
        rw [← ev]
        have g2 : v6.heap.size ≤ y1.heap.size := yb.size
        have l12 : n1 < y1.heap.size := P7.lt
        replace P7 := hk _ _ P7
        generalize y1.heap.size = n2 at *
        replace yb := hb'
        clear ev hk hb'
        refine wpAnyH_ready (rs := [4, 5]) (by kernel_rfl) (by simp) ?_
        refine AllReadyH.cons rfl (fun K hK => ?_) ?_
        · go_simp
          refine hK.out _ _ ((R0.keep yb).alloc _) (fun _ => ?_)
          clear hK K
          try simp only [List.getElem_toArray, List.getElem_cons_succ, List.getElem_cons_zero, Act.put, List.setIfInBounds_toArray, List.set_cons_zero, List.set_cons_succ]
          obtain ⟨y3, ev, P4, hk, hb'⟩ := fresh_hd ⟨#[]⟩ ⟨#[]⟩ ⟨#[]⟩ ⟨#[]⟩ 0 false false 0 v6 y2 yb
          rw [← ev]
          have g3 : v6.heap.size ≤ y2.heap.size := yb.size
          have l13 : n1 < y2.heap.size := P7.lt
          replace P7 := hk _ _ P7
          have l23 : n2 < y2.heap.size := P6.lt
          replace P6 := hk _ _ P6
          generalize y2.heap.size = n3 at *
          replace yb := hb'
          clear ev hk hb'
          refine wpAnyH_ready (rs := [5]) (by kernel_rfl) (by simp) ?_
          refine AllReadyH.cons rfl (fun K hK => ?_) ?_
          · go_simp
            refine hK.out _ _ ((R0.keep yb).alloc _) (fun _ => ?_)
            clear hK K
            try simp only [List.getElem_toArray, List.getElem_cons_succ, List.getElem_cons_zero, Act.put, List.setIfInBounds_toArray, List.set_cons_zero, List.set_cons_succ]
            obtain ⟨y4, ev, P5, hk, hb'⟩ := fresh_hd ⟨#[]⟩ ⟨#[]⟩ ⟨#[]⟩ ⟨#[]⟩ 0 false false 0 v6 y3 yb
            rw [← ev]
            have g4 : v6.heap.size ≤ y3.heap.size := yb.size
            have l14 : n1 < y3.heap.size := P7.lt
            replace P7 := hk _ _ P7
            have l24 : n2 < y3.heap.size := P6.lt
            replace P6 := hk _ _ P6
            have l34 : n3 < y3.heap.size := P4.lt
            replace P4 := hk _ _ P4
            generalize y3.heap.size = n4 at *
            replace yb := hb'
            clear ev hk hb'
            refine wpAnyH_ready (rs := [8]) (by kernel_rfl) (by simp) ?_
            refine AllReadyH.cons rfl (fun K hK => ?_) AllReadyH.nil
            rw [if_pos (by rfl)]
            refine wp_store_mid 23 (.tmp 19) (.tmp 80) rfl n3 0 (hdL (⟨nm, vl, dm, pt, ex, se, ho, st⟩ : Hd)).toArray rfl rfl P4.wr (by kernel_rfl) (hdL_one _) ?_
            obtain ⟨z0, ev, Q4, hk, hz⟩ := P4.stored (⟨nm, vl, dm, pt, ex, se, ho, st⟩ : Hd) v6.heap.size v6 (by omega) yb
            rw [← ev]
            refine hK.out _ _ (R0.keep hz) (fun _ => ?_)
            clear hK K ev
            try simp only [List.getElem_toArray, List.getElem_cons_succ, List.getElem_cons_zero, Act.put]
            replace yb := hz
            replace P5 := hk _ _ (by omega) P5
            replace P6 := hk _ _ (by omega) P6
            replace P7 := hk _ _ (by omega) P7
            clear hk hz P4
            refine wpAnyH_ready (rs := [9]) (by kernel_rfl) (by simp) ?_
            refine AllReadyH.cons rfl (fun K hK => ?_) AllReadyH.nil
            rw [if_pos (by rfl)]
            refine wp_store_mid 23 (.tmp 20) (.tmp 81) rfl n4 0 (hdL (⟨nm, vl, dm, pt, ex, se, ho, st⟩ : Hd)).toArray rfl rfl P5.wr (by kernel_rfl) (hdL_one _) ?_
            obtain ⟨z1, ev, Q5, hk, hz⟩ := P5.stored (⟨nm, vl, dm, pt, ex, se, ho, st⟩ : Hd) v6.heap.size v6 (by omega) yb
            rw [← ev]
            refine hK.out _ _ (R0.keep hz) (fun _ => ?_)
            clear hK K ev
            try simp only [List.getElem_toArray, List.getElem_cons_succ, List.getElem_cons_zero, Act.put]
            replace yb := hz
            replace Q4 := hk _ _ (by omega) Q4
            replace P6 := hk _ _ (by omega) P6
            replace P7 := hk _ _ (by omega) P7
            clear hk hz P5
            refine wpAnyH_ready (rs := [10]) (by kernel_rfl) (by simp) ?_
            refine AllReadyH.cons rfl (fun K hK => ?_) AllReadyH.nil
            rw [if_pos (by rfl)]
            refine wp_store_mid 23 (.tmp 21) (.tmp 82) rfl n2 0 (hdL (⟨nm, vl, dm, pt, ex, se, ho, st⟩ : Hd)).toArray rfl rfl P6.wr (by kernel_rfl) (hdL_one _) ?_
            obtain ⟨z2, ev, Q6, hk, hz⟩ := P6.stored (⟨nm, vl, dm, pt, ex, se, ho, st⟩ : Hd) v6.heap.size v6 (by omega) yb
            rw [← ev]
            refine hK.out _ _ (R0.keep hz) (fun _ => ?_)
            clear hK K ev
            try simp only [List.getElem_toArray, List.getElem_cons_succ, List.getElem_cons_zero, Act.put]
            replace yb := hz
            replace Q4 := hk _ _ (by omega) Q4
            replace Q5 := hk _ _ (by omega) Q5
            replace P7 := hk _ _ (by omega) P7
            clear hk hz P6
            refine wpAnyH_ready (rs := [11]) (by kernel_rfl) (by simp) ?_
            refine AllReadyH.cons rfl (fun K hK => ?_) AllReadyH.nil
            rw [if_pos (by rfl)]
            refine wp_store_mid 23 (.tmp 22) (.tmp 83) rfl n1 0 (hdL (⟨nm, vl, dm, pt, ex, se, ho, st⟩ : Hd)).toArray rfl rfl P7.wr (by kernel_rfl) (hdL_one _) ?_
            obtain ⟨z3, ev, Q7, hk, hz⟩ := P7.stored (⟨nm, vl, dm, pt, ex, se, ho, st⟩ : Hd) v6.heap.size v6 (by omega) yb
            rw [← ev]
            refine hK.out _ _ (R0.keep hz) (fun _ => ?_)
            clear hK K ev
            try simp only [List.getElem_toArray, List.getElem_cons_succ, List.getElem_cons_zero, Act.put]
            replace yb := hz
            replace Q4 := hk _ _ (by omega) Q4
            replace Q5 := hk _ _ (by omega) Q5
            replace Q6 := hk _ _ (by omega) Q6
            clear hk hz P7
            refine wpAnyH_done (by kernel_rfl) ?_ _
            go_wp2_with fail
            go_meet
            case rel => exact ⟨rfl, rfl, rfl, rfl, n3, n4, n2, n1, rfl, rfl, rfl, rfl, ⟨yb, ⟨by omega, by omega, by omega, by omega⟩, ⟨by omega, by omega, by omega, by omega, by omega, by omega⟩, Q4, Q5, Q6, Q7⟩⟩
          exact AllReadyH.nil
        refine AllReadyH.cons rfl (fun K hK => ?_) ?_
        · go_simp
          refine hK.out _ _ ((R0.keep yb).alloc _) (fun _ => ?_)
          clear hK K
          try simp only [List.getElem_toArray, List.getElem_cons_succ, List.getElem_cons_zero, Act.put, List.setIfInBounds_toArray, List.set_cons_zero, List.set_cons_succ]
          obtain ⟨y3, ev, P5, hk, hb'⟩ := fresh_hd ⟨#[]⟩ ⟨#[]⟩ ⟨#[]⟩ ⟨#[]⟩ 0 false false 0 v6 y2 yb
          rw [← ev]
          have g3 : v6.heap.size ≤ y2.heap.size := yb.size
          have l13 : n1 < y2.heap.size := P7.lt
          replace P7 := hk _ _ P7
          have l23 : n2 < y2.heap.size := P6.lt
          replace P6 := hk _ _ P6
          generalize y2.heap.size = n3 at *
          replace yb := hb'
          clear ev hk hb'
          refine wpAnyH_ready (rs := [4]) (by kernel_rfl) (by simp) ?_
          refine AllReadyH.cons rfl (fun K hK => ?_) ?_
          · go_simp
            refine hK.out _ _ ((R0.keep yb).alloc _) (fun _ => ?_)
            clear hK K
            try simp only [List.getElem_toArray, List.getElem_cons_succ, List.getElem_cons_zero, Act.put, List.setIfInBounds_toArray, List.set_cons_zero, List.set_cons_succ]
            obtain ⟨y4, ev, P4, hk, hb'⟩ := fresh_hd ⟨#[]⟩ ⟨#[]⟩ ⟨#[]⟩ ⟨#[]⟩ 0 false false 0 v6 y3 yb
            rw [← ev]
            have g4 : v6.heap.size ≤ y3.heap.size := yb.size
            have l14 : n1 < y3.heap.size := P7.lt
            replace P7 := hk _ _ P7
            have l24 : n2 < y3.heap.size := P6.lt
            replace P6 := hk _ _ P6
            have l34 : n3 < y3.heap.size := P5.lt
            replace P5 := hk _ _ P5
            generalize y3.heap.size = n4 at *
            replace yb := hb'
            clear ev hk hb'
            refine wpAnyH_ready (rs := [8]) (by kernel_rfl) (by simp) ?_
            refine AllReadyH.cons rfl (fun K hK => ?_) AllReadyH.nil
            rw [if_pos (by rfl)]
            refine wp_store_mid 23 (.tmp 19) (.tmp 80) rfl n4 0 (hdL (⟨nm, vl, dm, pt, ex, se, ho, st⟩ : Hd)).toArray rfl rfl P4.wr (by kernel_rfl) (hdL_one _) ?_
            obtain ⟨z0, ev, Q4, hk, hz⟩ := P4.stored (⟨nm, vl, dm, pt, ex, se, ho, st⟩ : Hd) v6.heap.size v6 (by omega) yb
            rw [← ev]
            refine hK.out _ _ (R0.keep hz) (fun _ => ?_)
            clear hK K ev
            try simp only [List.getElem_toArray, List.getElem_cons_succ, List.getElem_cons_zero, Act.put]
            replace yb := hz
            replace P5 := hk _ _ (by omega) P5
            replace P6 := hk _ _ (by omega) P6
            replace P7 := hk _ _ (by omega) P7
            clear hk hz P4
            refine wpAnyH_ready (rs := [9]) (by kernel_rfl) (by simp) ?_
            refine AllReadyH.cons rfl (fun K hK => ?_) AllReadyH.nil
            rw [if_pos (by rfl)]
            refine wp_store_mid 23 (.tmp 20) (.tmp 81) rfl n3 0 (hdL (⟨nm, vl, dm, pt, ex, se, ho, st⟩ : Hd)).toArray rfl rfl P5.wr (by kernel_rfl) (hdL_one _) ?_
            obtain ⟨z1, ev, Q5, hk, hz⟩ := P5.stored (⟨nm, vl, dm, pt, ex, se, ho, st⟩ : Hd) v6.heap.size v6 (by omega) yb
            rw [← ev]
            refine hK.out _ _ (R0.keep hz) (fun _ => ?_)
            clear hK K ev
            try simp only [List.getElem_toArray, List.getElem_cons_succ, List.getElem_cons_zero, Act.put]
            replace yb := hz
            replace Q4 := hk _ _ (by omega) Q4
            replace P6 := hk _ _ (by omega) P6
            replace P7 := hk _ _ (by omega) P7
            clear hk hz P5
            refine wpAnyH_ready (rs := [10]) (by kernel_rfl) (by simp) ?_
            refine AllReadyH.cons rfl (fun K hK => ?_) AllReadyH.nil
            rw [if_pos (by rfl)]
            refine wp_store_mid 23 (.tmp 21) (.tmp 82) rfl n2 0 (hdL (⟨nm, vl, dm, pt, ex, se, ho, st⟩ : Hd)).toArray rfl rfl P6.wr (by kernel_rfl) (hdL_one _) ?_
            obtain ⟨z2, ev, Q6, hk, hz⟩ := P6.stored (⟨nm, vl, dm, pt, ex, se, ho, st⟩ : Hd) v6.heap.size v6 (by omega) yb
            rw [← ev]
            refine hK.out _ _ (R0.keep hz) (fun _ => ?_)
            clear hK K ev
            try simp only [List.getElem_toArray, List.getElem_cons_succ, List.getElem_cons_zero, Act.put]
            replace yb := hz
            replace Q4 := hk _ _ (by omega) Q4
            replace Q5 := hk _ _ (by omega) Q5
            replace P7 := hk _ _ (by omega) P7
            clear hk hz P6
            refine wpAnyH_ready (rs := [11]) (by kernel_rfl) (by simp) ?_
            refine AllReadyH.cons rfl (fun K hK => ?_) AllReadyH.nil
            rw [if_pos (by rfl)]
            refine wp_store_mid 23 (.tmp 22) (.tmp 83) rfl n1 0 (hdL (⟨nm, vl, dm, pt, ex, se, ho, st⟩ : Hd)).toArray rfl rfl P7.wr (by kernel_rfl) (hdL_one _) ?_
            obtain ⟨z3, ev, Q7, hk, hz⟩ := P7.stored (⟨nm, vl, dm, pt, ex, se, ho, st⟩ : Hd) v6.heap.size v6 (by omega) yb
            rw [← ev]
            refine hK.out _ _ (R0.keep hz) (fun _ => ?_)
            clear hK K ev
            try simp only [List.getElem_toArray, List.getElem_cons_succ, List.getElem_cons_zero, Act.put]
            replace yb := hz
            replace Q4 := hk _ _ (by omega) Q4
            replace Q5 := hk _ _ (by omega) Q5
            replace Q6 := hk _ _ (by omega) Q6
            clear hk hz P7
            refine wpAnyH_done (by kernel_rfl) ?_ _
            go_wp2_with fail
            go_meet
            case rel => exact ⟨rfl, rfl, rfl, rfl, n4, n3, n2, n1, rfl, rfl, rfl, rfl, ⟨yb, ⟨by omega, by omega, by omega, by omega⟩, ⟨by omega, by omega, by omega, by omega, by omega, by omega⟩, Q4, Q5, Q6, Q7⟩⟩
          exact AllReadyH.nil
        exact AllReadyH.nil
      exact AllReadyH.nil
    exact AllReadyH.nil
  case rest =>
    obtain ⟨rfl, rfl, rfl, rfl, i, j, k, l, rfl, rfl, rfl, rfl, H⟩ := hcut
    obtain ⟨ne1, ne2, ne3, ne4, ne5, ne6⟩ := H.ne
    have s1 := H.ri.cells.2.2.2.1
    have s2 := H.rj.cells.2.2.2.1
    have s3 := H.rk.cells.2.2.2.2.2.2.2
    have s4 := H.rl.cells.2.2.2.2.2.2.2
    have f1 := (H.ri.wr 3 (by decide)).2
    have f2 := (H.rj.wr 3 (by decide)).2
    have f3 := (H.rk.wr 7 (by decide)).2
    have f4 := (H.rl.wr 7 (by decide)).2
    dsimp only at s1 s2 s3 s4
    rw [Nat.zero_add] at f1 f2 f3 f4
    go_upto_region 12 with fail
    obtain ⟨z, ev, Hz⟩ := H.set
    rw [← ev]
    clear ev s1 s2 s3 s4 f1 f2 f3 f4 ne1 ne2 ne3 ne4 ne5 ne6 H
    replace R0 := R0.keep Hz.bel
    replace Ra := Ra.keep Hz.bel
    replace Rb := Rb.keep Hz.bel
    replace Rc := Rc.keep Hz.bel
    replace Rd := Rd.keep Hz.bel
    replace Re := Re.keep Hz.bel
    replace Rf := Rf.keep Hz.bel
    replace hb := hb.trans (Hz.bel.mono hb.size)
    obtain ⟨c0, c1, c2, c3, c4, c5, c6, c7⟩ := R0.cells
    dsimp only at c0 c1 c2 c3 c4 c5 c6 c7
    go_upto_region 14 with fail
    obtain ⟨y, ev, Ry, hk, hb'⟩ := fresh_hd nm vl ⟨#[122]⟩ pt ex se ho st w z hb
    rw [← ev]
    obtain ⟨-, -, -, Ri, Rj, Rk, Rl⟩ := Hz
    generalize z.heap.size = by0 at *
    replace R0 := hk _ _ R0
    replace Ra := hk _ _ Ra
    replace Rb := hk _ _ Rb
    replace Rc := hk _ _ Rc
    replace Rd := hk _ _ Rd
    replace Re := hk _ _ Re
    replace Rf := hk _ _ Rf
    replace Ri := hk _ _ Ri
    replace Rj := hk _ _ Rj
    replace Rk := hk _ _ Rk
    replace Rl := hk _ _ Rl
    replace hb := hb'
    clear ev hk hb' c0 c1 c2 c3 c4 c5 c6 c7
    go_wp2_with fail
    refine (alive_any _ (HM.out _ hb)).mono ?_
    rintro e w5 ⟨rfl, hu⟩
    replace R0 := R0.keep hu
    replace Ra := Ra.keep hu
    replace Rb := Rb.keep hu
    replace Rc := Rc.keep hu
    replace Rd := Rd.keep hu
    replace Re := Re.keep hu
    replace Rf := Rf.keep hu
    replace Ri := Ri.keep hu
    replace Rj := Rj.keep hu
    replace Rk := Rk.keep hu
    replace Rl := Rl.keep hu
    replace Ry := Ry.keep hu
    replace hb := hb.trans (hu.mono hb.size)
    clear hu
    obtain ⟨c0_0, c0_1, c0_2, c0_3, c0_4, c0_5, c0_6, c0_7⟩ := R0.cells
    dsimp only at c0_0 c0_1 c0_2 c0_3 c0_4 c0_5 c0_6 c0_7
    obtain ⟨ca_0, ca_1, ca_2, ca_3, ca_4, ca_5, ca_6, ca_7⟩ := Ra.cells
    dsimp only at ca_0 ca_1 ca_2 ca_3 ca_4 ca_5 ca_6 ca_7
    obtain ⟨cb_0, cb_1, cb_2, cb_3, cb_4, cb_5, cb_6, cb_7⟩ := Rb.cells
    dsimp only at cb_0 cb_1 cb_2 cb_3 cb_4 cb_5 cb_6 cb_7
    obtain ⟨cc_0, cc_1, cc_2, cc_3, cc_4, cc_5, cc_6, cc_7⟩ := Rc.cells
    dsimp only at cc_0 cc_1 cc_2 cc_3 cc_4 cc_5 cc_6 cc_7
    obtain ⟨cd_0, cd_1, cd_2, cd_3, cd_4, cd_5, cd_6, cd_7⟩ := Rd.cells
    dsimp only at cd_0 cd_1 cd_2 cd_3 cd_4 cd_5 cd_6 cd_7
    obtain ⟨ce_0, ce_1, ce_2, ce_3, ce_4, ce_5, ce_6, ce_7⟩ := Re.cells
    dsimp only at ce_0 ce_1 ce_2 ce_3 ce_4 ce_5 ce_6 ce_7
    obtain ⟨cf_0, cf_1, cf_2, cf_3, cf_4, cf_5, cf_6, cf_7⟩ := Rf.cells
    dsimp only at cf_0 cf_1 cf_2 cf_3 cf_4 cf_5 cf_6 cf_7
    obtain ⟨ci_0, ci_1, ci_2, ci_3, ci_4, ci_5, ci_6, ci_7⟩ := Ri.cells
    dsimp only at ci_0 ci_1 ci_2 ci_3 ci_4 ci_5 ci_6 ci_7
    obtain ⟨cj_0, cj_1, cj_2, cj_3, cj_4, cj_5, cj_6, cj_7⟩ := Rj.cells
    dsimp only at cj_0 cj_1 cj_2 cj_3 cj_4 cj_5 cj_6 cj_7
    obtain ⟨ck_0, ck_1, ck_2, ck_3, ck_4, ck_5, ck_6, ck_7⟩ := Rk.cells
    dsimp only at ck_0 ck_1 ck_2 ck_3 ck_4 ck_5 ck_6 ck_7
    obtain ⟨cl_0, cl_1, cl_2, cl_3, cl_4, cl_5, cl_6, cl_7⟩ := Rl.cells
    dsimp only at cl_0 cl_1 cl_2 cl_3 cl_4 cl_5 cl_6 cl_7
    obtain ⟨cy_0, cy_1, cy_2, cy_3, cy_4, cy_5, cy_6, cy_7⟩ := Ry.cells
    dsimp only at cy_0 cy_1 cy_2 cy_3 cy_4 cy_5 cy_6 cy_7
    clear R0 Ra Rb Rc Rd Re Rf Ri Rj Rk Rl Ry
    go_wp2_with fail
    go_ret
    exact ⟨by simp, hb⟩
set_option maxRecDepth 100000 in
theorem headerLast_any (s : ByteArray) (now : Int) (w : World) (_ : s.size ≤ 140737488351232) (hnow : (Lit.int .i64 now).wf = true) (hm : HasMax w) :
    Calls Tryd.prog 3 #[.string s, .int .i64 now] w fun e w' => e = .returned (.bool true) ∧ Below w.heap.size w w' := by
  obtain ⟨hn0, hn1⟩ := i64_in hnow
  clear hnow
  cases hp : parH s now with
  | none =>
    have HV := Lib.hid (parV_none hp)
    have HM := Lib.hid (fun w1 (h : Below w.heap.size w w1) => max_keep hm h)
    clear hm hp
    go_enter Tryd.func3, Tryd.ntmps3
    go_wp2_with fail
    refine (par_any s now _ (by omega) (by omega) (by omega)).mono ?_
    rintro e w1 ⟨rfl, hb1⟩
    rw [HV.out]
    go_wp2_with fail
    refine (alive_any _ (HM.out _ (hb1.alloc hb1.size _))).mono ?_
    rintro e w2 ⟨rfl, hb2⟩
    go_wp2_with fail
    go_ret
    exact ⟨rfl, (hb1.alloc hb1.size _).trans (hb2.mono (hb1.alloc hb1.size _).size)⟩
  | some h =>
    by_cases hout : 500 < s.size
    · have HV := Lib.hid (parV_some hp)
      have HM := Lib.hid (fun w1 (h : Below w.heap.size w w1) => max_keep hm h)
      clear hm hp
      go_enter Tryd.func3, Tryd.ntmps3
      go_wp2_with fail
      refine (par_any s now _ (by omega) (by omega) (by omega)).mono ?_
      rintro e w1 ⟨rfl, hb1⟩
      rw [HV.out]
      go_wp2_with fail
      refine (alive_any _ (HM.out _ (hb1.alloc hb1.size _))).mono ?_
      rintro e w2 ⟨rfl, hb2⟩
      go_wp2_with fail
      go_ret
      exact ⟨rfl, (hb1.alloc hb1.size _).trans (hb2.mono (hb1.alloc hb1.size _).size)⟩
    · obtain ⟨nm, vl, dm, pt, ex, se, ho, st⟩ := h
      exact last_main s now w nm vl dm pt ex se ho st hp (by omega) hm
end Go.Proofs.YtngamlikhgilhaaDoor
