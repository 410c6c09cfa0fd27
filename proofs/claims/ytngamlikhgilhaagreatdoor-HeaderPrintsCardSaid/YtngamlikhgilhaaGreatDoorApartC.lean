/- The statement HeaderApart: the walk where both headers may be written. (printed by wip/genapartc.py) -/
import Derived.Test.YtngamlikhgilhaaGreatDoorApartB
namespace Go.Proofs.YtngamlikhgilhaaGreatDoor
open Go.RowKit Go.Shelf

theorem prt_call (h : Hd) (w : World) (hr : rightB h = true) (hl : h.nm.size + h.vl.size ≤ 1000) (hm : HasMax w) :
    Calls Tryz.prog 10 #[hdA h] w fun e w' => (∃ x, IsWhen h.ex x ∧ e = .returned (.tuple #[.string (mk (printL h x)), .bool true])) ∧ Below w.heap.size w w' := by
  obtain ⟨nm, vl, dm, pt, ex, se, ho, st⟩ := h
  have hr' := hr
  unfold rightB at hr'
  simp only [Bool.and_eq_true] at hr'
  have d1 := dom_size hr'.1.1.1.1
  have d2 := (way_parts hr'.1.1.1.2).1
  dsimp only at hl d1 d2
  refine (print_yes nm vl dm pt ex se ho st w hl (by omega) hm hr).mono ?_
  rintro e w' ⟨hb, ⟨h, -⟩ | ⟨-, x, hx, rfl⟩⟩
  · exact absurd (hr.symm.trans h) (by decide)
  · exact ⟨⟨x, hx, rfl⟩, hb⟩
theorem seen_at {l : List UInt8} (h : SeenL l) (k : Nat) (hk : k < (mk l).size) : 32 ≤ ((mk l)[k]).toNat ∧ ((mk l)[k]).toNat ≤ 126 := by
  have hk' : k < l.length := by rw [size_mk] at hk; exact hk
  exact h _ (show (mk l)[k] ∈ l from List.getElem_mem hk')
theorem tl_inj {a b : ByteArray} (h : a.toList = b.toList) : a = b := bs_inj (by rw [← toLh, ← toLh, h])
theorem hd_ne {na va da pa : ByteArray} {xa : Int} {sa oa : Bool} {ta : Int} {nb vb db pb : ByteArray} {xb : Int} {sb ob : Bool} {tb : Int} (h : (⟨na, va, da, pa, xa, sa, oa, ta⟩ : Hd) ≠ ⟨nb, vb, db, pb, xb, sb, ob, tb⟩) :
    ¬ (na = nb ∧ va = vb ∧ da = db ∧ pa = pb ∧ xa = xb ∧ sa = sb ∧ oa = ob ∧ ta = tb) := by
  rintro ⟨rfl, rfl, rfl, rfl, rfl, rfl, rfl, rfl⟩
  exact h rfl
set_option maxHeartbeats 2000000 in
set_option maxRecDepth 100000 in
theorem apart_same (na va da pa : ByteArray) (xa : Int) (sa oa : Bool) (ta : Int) (w : World) (za : na.size ≤ 140737488351232 ∧ va.size ≤ 140737488351232 ∧ da.size ≤ 140737488351232 ∧ pa.size ≤ 140737488351232) (hm : HasMax w) (ga : na.size + va.size ≤ 500) (ra : rightB (⟨na, va, da, pa, xa, sa, oa, ta⟩ : Hd) = true) :
    Calls Tryz.prog 6 #[.agg #[.string na, .string va, .string da, .string pa, .int .i64 xa, .bool sa, .bool oa, .int .i64 ta], .agg #[.string na, .string va, .string da, .string pa, .int .i64 xa, .bool sa, .bool oa, .int .i64 ta]] w fun e w' => e = .returned (.bool true) ∧ Below w.heap.size w w' := by
  obtain ⟨z1, z2, z3, z4⟩ := za
  have HM := Lib.hid (fun w1 (h : Below w.heap.size w w1) => max_keep hm h)
  clear hm
  have HA := Lib.hid (fun W => r16_all (⟨na, va, da, pa, xa, sa, oa, ta⟩ : Hd) W (by dsimp only; omega) (by dsimp only; omega) (by dsimp only; omega) (by dsimp only; omega))
  have HRA := Lib.hid ra
  have HPA := Lib.hid (fun W => prt_call (⟨na, va, da, pa, xa, sa, oa, ta⟩ : Hd) W ra (by dsimp only; omega))
  clear ra
  go_enter Tryz.func6, Tryz.ntmps6
  go_wp2_with fail
  obtain ⟨v, ev, A1, A2, hb⟩ := two_hd na va da pa xa sa oa ta na va da pa xa sa oa ta w 27
  rw [← ev]
  clear ev
  refine (HA.out _).mono ?_
  rintro e u1 ⟨rfl, hu⟩
  rw [HRA.out]
  replace hb := hb.trans (hu.mono hb.size)
  replace A1 := A1.keep hu
  replace A2 := A2.keep hu
  clear hu
  obtain ⟨c0, c1, c2, c3, c4, c5, c6, c7⟩ := A2.cells
  dsimp only at c0 c1 c2 c3 c4 c5 c6 c7
  go_wp2_with fail
  clear c0 c1 c2 c3 c4 c5 c6 c7
  refine (HA.out _).mono ?_
  rintro e u2 ⟨rfl, hu⟩
  rw [HRA.out]
  replace hb := hb.trans (hu.mono hb.size)
  replace A1 := A1.keep hu
  replace A2 := A2.keep hu
  clear hu
  obtain ⟨c0, c1, c2, c3, c4, c5, c6, c7⟩ := A1.cells
  dsimp only at c0 c1 c2 c3 c4 c5 c6 c7
  go_wp2_with fail
  clear c0 c1 c2 c3 c4 c5 c6 c7
  refine (HPA.out _ (HM.out _ hb)).mono ?_
  rintro e u3 ⟨⟨x3, hx3, rfl⟩, hu⟩
  replace hb := hb.trans (hu.mono hb.size)
  replace A1 := A1.keep hu
  replace A2 := A2.keep hu
  clear hu
  obtain ⟨c0, c1, c2, c3, c4, c5, c6, c7⟩ := A2.cells
  dsimp only at c0 c1 c2 c3 c4 c5 c6 c7
  go_wp2_with fail
  clear c0 c1 c2 c3 c4 c5 c6 c7
  refine (HPA.out _ (HM.out _ hb)).mono ?_
  rintro e u4 ⟨⟨x4, hx4, rfl⟩, hu⟩
  replace hb := hb.trans (hu.mono hb.size)
  replace A1 := A1.keep hu
  replace A2 := A2.keep hu
  clear hu
  have hlen := print_len HRA.out hx3 (by dsimp only; omega)
  have hsee := fun k hk => seen_at (print_seen HRA.out hx3) k hk
  obtain rfl := hx3.uniq hx4
  clear hx3 hx4
  generalize mk (printL (⟨na, va, da, pa, xa, sa, oa, ta⟩ : Hd) x3) = S at *
  have HSE := Lib.hid hsee
  have A1 := Lib.hid A1
  have A2 := Lib.hid A2
  have hb := Lib.hid hb
  clear hsee
  go_wp2_with fail
  go_loop [51] (fun i => ∃ k : Nat, k ≤ S.size ∧ i = .int .i64 k) (fun i => S.size - (intOf i).toNat)
  case atStart => exact ⟨0, Nat.zero_le _, rfl⟩
  case round =>
    obtain ⟨j, hj, rfl⟩ := hrel
    by_cases hlj : j < S.size
    · obtain ⟨b1, b2⟩ := HSE.out j hlj
      have b3 : ¬ ((S[j].toNat : Int) < 32) := by omega
      have b4 : ¬ ((126 : Int) < (S[j].toNat : Int)) := by omega
      go_wp2_with fail
      go_round
      case rel => exact ⟨j + 1, by omega, by go_num⟩
      case measure => simp [intOf]; omega
    · go_wp2_with fail
      refine (alive_any _ (HM.out _ hb.out)).mono ?_
      rintro e u5 ⟨rfl, hu⟩
      have hb5 := Lib.hid (hb.out.trans (hu.mono hb.out.size))
      obtain ⟨c0, c1, c2, c3, c4, c5, c6, c7⟩ := (A1.out.keep hu).cells
      obtain ⟨d0, d1, d2, d3, d4, d5, d6, d7⟩ := (A2.out.keep hu).cells
      dsimp only at c0 c1 c2 c3 c4 c5 c6 c7 d0 d1 d2 d3 d4 d5 d6 d7
      clear hu
      go_wp2_with fail
      go_ret
      exact ⟨by simp, hb5.out⟩
set_option maxHeartbeats 2000000 in
set_option maxRecDepth 100000 in
theorem apart_two (na va da pa : ByteArray) (xa : Int) (sa oa : Bool) (ta : Int) (nb vb db pb : ByteArray) (xb : Int) (sb ob : Bool) (tb : Int) (w : World) (za : na.size ≤ 140737488351232 ∧ va.size ≤ 140737488351232 ∧ da.size ≤ 140737488351232 ∧ pa.size ≤ 140737488351232) (zb : nb.size ≤ 140737488351232 ∧ vb.size ≤ 140737488351232 ∧ db.size ≤ 140737488351232 ∧ pb.size ≤ 140737488351232) (hm : HasMax w) (ga : na.size + va.size ≤ 500) (ra : rightB (⟨na, va, da, pa, xa, sa, oa, ta⟩ : Hd) = true) (gb : nb.size + vb.size ≤ 500) (rb : rightB (⟨nb, vb, db, pb, xb, sb, ob, tb⟩ : Hd) = true) (hne : (⟨na, va, da, pa, xa, sa, oa, ta⟩ : Hd) ≠ (⟨nb, vb, db, pb, xb, sb, ob, tb⟩ : Hd)) :
    Calls Tryz.prog 6 #[.agg #[.string na, .string va, .string da, .string pa, .int .i64 xa, .bool sa, .bool oa, .int .i64 ta], .agg #[.string nb, .string vb, .string db, .string pb, .int .i64 xb, .bool sb, .bool ob, .int .i64 tb]] w fun e w' => e = .returned (.bool true) ∧ Below w.heap.size w w' := by
  obtain ⟨z1, z2, z3, z4⟩ := za
  obtain ⟨z5, z6, z7, z8⟩ := zb
  have HM := Lib.hid (fun w1 (h : Below w.heap.size w w1) => max_keep hm h)
  clear hm
  have HA := Lib.hid (fun W => r16_all (⟨na, va, da, pa, xa, sa, oa, ta⟩ : Hd) W (by dsimp only; omega) (by dsimp only; omega) (by dsimp only; omega) (by dsimp only; omega))
  have HRA := Lib.hid ra
  have HPA := Lib.hid (fun W => prt_call (⟨na, va, da, pa, xa, sa, oa, ta⟩ : Hd) W ra (by dsimp only; omega))
  have HB := Lib.hid (fun W => r16_all (⟨nb, vb, db, pb, xb, sb, ob, tb⟩ : Hd) W (by dsimp only; omega) (by dsimp only; omega) (by dsimp only; omega) (by dsimp only; omega))
  have HRB := Lib.hid rb
  have HPB := Lib.hid (fun W => prt_call (⟨nb, vb, db, pb, xb, sb, ob, tb⟩ : Hd) W rb (by dsimp only; omega))
  have HNE := Lib.hid hne
  clear hne
  clear ra rb
  go_enter Tryz.func6, Tryz.ntmps6
  go_wp2_with fail
  obtain ⟨v, ev, A1, A2, hb⟩ := two_hd na va da pa xa sa oa ta nb vb db pb xb sb ob tb w 27
  rw [← ev]
  clear ev
  refine (HA.out _).mono ?_
  rintro e u1 ⟨rfl, hu⟩
  rw [HRA.out]
  replace hb := hb.trans (hu.mono hb.size)
  replace A1 := A1.keep hu
  replace A2 := A2.keep hu
  clear hu
  obtain ⟨c0, c1, c2, c3, c4, c5, c6, c7⟩ := A2.cells
  dsimp only at c0 c1 c2 c3 c4 c5 c6 c7
  go_wp2_with fail
  clear c0 c1 c2 c3 c4 c5 c6 c7
  refine (HB.out _).mono ?_
  rintro e u2 ⟨rfl, hu⟩
  rw [HRB.out]
  replace hb := hb.trans (hu.mono hb.size)
  replace A1 := A1.keep hu
  replace A2 := A2.keep hu
  clear hu
  obtain ⟨c0, c1, c2, c3, c4, c5, c6, c7⟩ := A1.cells
  dsimp only at c0 c1 c2 c3 c4 c5 c6 c7
  go_wp2_with fail
  clear c0 c1 c2 c3 c4 c5 c6 c7
  refine (HPA.out _ (HM.out _ hb)).mono ?_
  rintro e u3 ⟨⟨x3, hx3, rfl⟩, hu⟩
  replace hb := hb.trans (hu.mono hb.size)
  replace A1 := A1.keep hu
  replace A2 := A2.keep hu
  clear hu
  obtain ⟨c0, c1, c2, c3, c4, c5, c6, c7⟩ := A2.cells
  dsimp only at c0 c1 c2 c3 c4 c5 c6 c7
  go_wp2_with fail
  clear c0 c1 c2 c3 c4 c5 c6 c7
  refine (HPB.out _ (HM.out _ hb)).mono ?_
  rintro e u4 ⟨⟨x4, hx4, rfl⟩, hu⟩
  replace hb := hb.trans (hu.mono hb.size)
  replace A1 := A1.keep hu
  replace A2 := A2.keep hu
  clear hu
  have hlen := print_len HRA.out hx3 (by dsimp only; omega)
  have hsee := fun k hk => seen_at (print_seen HRA.out hx3) k hk
  have hq := strs_ne (fun h9 => HNE.out (print_inj HRA.out HRB.out hx3 hx4 h9))
  clear hx3 hx4
  generalize mk (printL (⟨na, va, da, pa, xa, sa, oa, ta⟩ : Hd) x3) = S at *
  generalize mk (printL (⟨nb, vb, db, pb, xb, sb, ob, tb⟩ : Hd) x4) = T at *
  have HSE := Lib.hid hsee
  have A1 := Lib.hid A1
  have A2 := Lib.hid A2
  have hb := Lib.hid hb
  clear hsee
  go_wp2_with fail
  go_loop [51] (fun i => ∃ k : Nat, k ≤ S.size ∧ i = .int .i64 k) (fun i => S.size - (intOf i).toNat)
  case atStart => exact ⟨0, Nat.zero_le _, rfl⟩
  case round =>
    obtain ⟨j, hj, rfl⟩ := hrel
    by_cases hlj : j < S.size
    · obtain ⟨b1, b2⟩ := HSE.out j hlj
      have b3 : ¬ ((S[j].toNat : Int) < 32) := by omega
      have b4 : ¬ ((126 : Int) < (S[j].toNat : Int)) := by omega
      go_wp2_with fail
      go_round
      case rel => exact ⟨j + 1, by omega, by go_num⟩
      case measure => simp [intOf]; omega
    · go_wp2_with fail
      refine (alive_any _ (HM.out _ hb.out)).mono ?_
      rintro e u5 ⟨rfl, hu⟩
      have hb5 := Lib.hid (hb.out.trans (hu.mono hb.out.size))
      obtain ⟨c0, c1, c2, c3, c4, c5, c6, c7⟩ := (A1.out.keep hu).cells
      obtain ⟨d0, d1, d2, d3, d4, d5, d6, d7⟩ := (A2.out.keep hu).cells
      dsimp only at c0 c1 c2 c3 c4 c5 c6 c7 d0 d1 d2 d3 d4 d5 d6 d7
      clear hu
      go_wp2_with fail
      all_goals go_ret
      all_goals refine ⟨?_, hb5.out⟩
      all_goals clear HA HRA HPA HB HRB HPB HSE A1 A2 hb c0 c1 c2 c3 c4 c5 c6 c7 d0 d1 d2 d3 d4 d5 d6 d7
      all_goals simp
      exact hd_ne HNE.out ⟨tl_inj ‹na.toList = nb.toList›, tl_inj ‹va.toList = vb.toList›, tl_inj ‹da.toList = db.toList›, tl_inj ‹pa.toList = pb.toList›, ‹xa = xb›, ‹sa = sb›, ‹oa = ob›, ‹ta = tb›⟩
/-- A header, opened, and back. -/
theorem headerApart_any (g h : Hd) (w : World) (hg : g.nm.size ≤ 140737488351232 ∧ g.vl.size ≤ 140737488351232 ∧ g.dm.size ≤ 140737488351232 ∧ g.pt.size ≤ 140737488351232) (hh : h.nm.size ≤ 140737488351232 ∧ h.vl.size ≤ 140737488351232 ∧ h.dm.size ≤ 140737488351232 ∧ h.pt.size ≤ 140737488351232) (hm : HasMax w) :
    Calls Tryz.prog 6 #[hdV g, hdV h] w fun e w' => e = .returned (.bool true) ∧ Below w.heap.size w w' := by
  obtain ⟨na, va, da, pa, xa, sa, oa, ta⟩ := g
  obtain ⟨nb, vb, db, pb, xb, sb, ob, tb⟩ := h
  dsimp only at hg hh
  by_cases h1 : 500 < na.size + va.size
  · exact apart_no na va da pa xa sa oa ta nb vb db pb xb sb ob tb w ⟨hg, hh⟩ hm (.inl h1)
  by_cases h2 : 500 < nb.size + vb.size
  · exact apart_no na va da pa xa sa oa ta nb vb db pb xb sb ob tb w ⟨hg, hh⟩ hm (.inr (.inl ⟨by omega, h2⟩))
  cases h3 : rightB ⟨na, va, da, pa, xa, sa, oa, ta⟩
  · exact apart_no na va da pa xa sa oa ta nb vb db pb xb sb ob tb w ⟨hg, hh⟩ hm (.inr (.inr (.inl ⟨by omega, by omega, h3⟩)))
  cases h4 : rightB ⟨nb, vb, db, pb, xb, sb, ob, tb⟩
  · exact apart_no na va da pa xa sa oa ta nb vb db pb xb sb ob tb w ⟨hg, hh⟩ hm (.inr (.inr (.inr ⟨by omega, by omega, h3, h4⟩)))
  by_cases h5 : (⟨na, va, da, pa, xa, sa, oa, ta⟩ : Hd) = ⟨nb, vb, db, pb, xb, sb, ob, tb⟩
  · injection h5 with e1 e2 e3 e4 e5 e6 e7 e8
    subst e1 e2 e3 e4 e5 e6 e7 e8
    exact apart_same na va da pa xa sa oa ta w hg hm (by omega) h3
  · exact apart_two na va da pa xa sa oa ta nb vb db pb xb sb ob tb w hg hh hm (by omega) h3 (by omega) h4 h5
end Go.Proofs.YtngamlikhgilhaaGreatDoor
