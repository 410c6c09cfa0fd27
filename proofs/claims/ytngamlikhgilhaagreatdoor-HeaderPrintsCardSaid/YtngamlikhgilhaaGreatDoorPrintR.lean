/- Contract of the reference's Print. (printed by wip/genprintr.py) -/
import Derived.Test.YtngamlikhgilhaaGreatDoorApartA
import Derived.Test.YtngamlikhgilhaaGreatDoorZN
import Derived.Deep.DeepCutAuto
namespace Go.Proofs.YtngamlikhgilhaaGreatDoor
open Go.RowKit Go.Shelf

theorem rimf_when (t : Int) (w : World) (h1 : 0 ≤ t) (h2 : t ≤ 253402300799) : Calls Tryz.prog 34 #[.int .i64 t] w fun e w' => (∃ x, IsWhen t x ∧ e = .returned (.tuple #[.string x, .bool true])) ∧ Below w.heap.size w w' := by
  refine (rimf_yes t w h1 h2).mono ?_
  rintro e w' ⟨k, y, m, d, h, n, s, h1, h2, h3, h4, rfl, h5⟩
  exact ⟨⟨_, ⟨k, y, m, d, h, n, s, h1, h2, h3, h4, rfl⟩, rfl⟩, h5⟩
def P16 (h : Hd) (w : World) (e : Ending) (w' : World) : Prop := Below w.heap.size w w' ∧ ((rightB h = false ∧ e = .returned (.tuple #[.string ⟨#[]⟩, .bool false])) ∨ (rightB h = true ∧ ∃ x, (h.ex = 0 ∨ IsWhen h.ex x) ∧ e = .returned (.tuple #[.string (mk (printL h x)), .bool true])))
set_option maxRecDepth 100000 in
theorem p16_no (nm vl dm pt : ByteArray) (ex : Int) (se ho : Bool) (st : Int) (w : World) (h1 : nm.size + vl.size ≤ 1000) (h2 : dm.size + pt.size ≤ 1000) (hr : rightB ⟨nm, vl, dm, pt, ex, se, ho, st⟩ = false) :
    Calls Tryz.prog 11 #[.agg #[.string nm, .string vl, .string dm, .string pt, .int .i64 ex, .bool se, .bool ho, .int .i64 st]] w (P16 ⟨nm, vl, dm, pt, ex, se, ho, st⟩ w) := by
  have HR := Lib.hid hr
  clear hr
  go_enter Tryz.func11, Tryz.ntmps11
  go_wp2_with fail
  refine (r16_all (⟨nm, vl, dm, pt, ex, se, ho, st⟩ : Hd) _ (by dsimp only; omega) (by dsimp only; omega) (by dsimp only; omega) (by dsimp only; omega)).mono ?_
  rintro e w1 ⟨rfl, hb1⟩
  rw [HR.out]
  have hb := ((Below.refl w.heap.size w).alloc (Nat.le_refl _) (.cells (hdL (⟨nm, vl, dm, pt, ex, se, ho, st⟩ : Hd)).toArray 27))
  have HB := Lib.hid (hb.trans (hb1.mono hb.size))
  clear hb1 hb
  go_wp2_with fail
  go_ret2
  exact ⟨HB.out, .inl ⟨HR.out, rfl⟩⟩
set_option maxHeartbeats 2000000 in
set_option maxRecDepth 100000 in
theorem p16_yes (nm vl dm pt : ByteArray) (ex : Int) (se ho : Bool) (st : Int) (w : World) (h1 : nm.size + vl.size ≤ 1000) (h2 : dm.size + pt.size ≤ 1000) (hr : rightB ⟨nm, vl, dm, pt, ex, se, ho, st⟩ = true) :
    Calls Tryz.prog 11 #[.agg #[.string nm, .string vl, .string dm, .string pt, .int .i64 ex, .bool se, .bool ho, .int .i64 st]] w (P16 ⟨nm, vl, dm, pt, ex, se, ho, st⟩ w) := by
  have hn : 0 ≤ ex ∧ ex ≤ 253402300799 ∧ 0 ≤ st ∧ st ≤ 3 := by
    have hr' := hr
    unfold rightB numB at hr'
    simp only [Bool.and_eq_true, decide_eq_true_eq] at hr'
    exact ⟨hr'.2.1.1.1, hr'.2.1.1.2, hr'.2.1.2, hr'.2.2⟩
  obtain ⟨hx0, hx1, hs0, hs1⟩ := hn
  have HR := Lib.hid hr
  clear hr
  go_enter Tryz.func11, Tryz.ntmps11
  go_wp2_with fail
  obtain ⟨v0, ev, A, -, hb, -⟩ := box_hd nm vl dm pt ex se ho st w w 27 (Below.refl _ _)
  rw [← ev]
  clear ev
  refine (r16_all (⟨nm, vl, dm, pt, ex, se, ho, st⟩ : Hd) _ (by dsimp only; omega) (by dsimp only; omega) (by dsimp only; omega) (by dsimp only; omega)).mono ?_
  rintro e v ⟨rfl, hu⟩
  rw [HR.out]
  replace hb := hb.trans (hu.mono hb.size)
  replace A := A.keep hu
  clear hu
  obtain ⟨c0, c1, c2, c3, c4, c5, c6, c7⟩ := A.cells
  dsimp only at c0 c1 c2 c3 c4 c5 c6 c7
  have HB := Lib.hid hb
  have HA := Lib.hid A
  clear hb A
  have k61 : (⟨#[61]⟩ : ByteArray).size = 1 := rfl
  have q0 : ¬ 9223372036854775807 < nm.size + 1 := by omega
  have q1 : ¬ 9223372036854775807 < nm.size + 1 + vl.size := by omega
  go_upto_if 19 with fail
  have hS0 : ∃ S, S = nm ++ (⟨#[61]⟩ : ByteArray) ++ vl := ⟨_, rfl⟩
  obtain ⟨S0, e0⟩ := hS0
  have n0 : S0.size ≤ 1001 := by rw [e0, ByteArray.size_append, ByteArray.size_append, k61]; omega
  have E0 := Lib.hid (show bs S0 = bs nm ++ 61 :: bs vl by rw [e0, bs_append, bs_append, List.append_assoc]; rfl)
  rw [← e0]
  clear e0 k61 q0 q1
  go_cut [4] (fun s4 wx => ∃ S : ByteArray, s4 = .string S ∧ Hid (bs S = bs S0 ++ ifL (!dm.toList.isEmpty) (dOMt ++ 61 :: bs dm)) ∧ S.size ≤ 3000 ∧ wx = v)
  case first =>
    have kl : (⟨#[59, 32, 68, 111, 109, 97, 105, 110, 61]⟩ : ByteArray).size = 9 := rfl
    have q1 : ¬ 9223372036854775807 < S0.size + 9 := by omega
    have q2 : ¬ 9223372036854775807 < S0.size + 9 + dm.size := by omega
    go_wp2_with fail
    · go_meet
      case rel => exact ⟨_, rfl, Lib.hid (by rw [‹(!dm.toList.isEmpty) = true›, bs_append, bs_append, List.append_assoc]; rfl), by rw [ByteArray.size_append, ByteArray.size_append, kl]; omega, rfl⟩
    · go_meet
      case rel => exact ⟨S0, rfl, Lib.hid (by rw [‹(!dm.toList.isEmpty) = false›]; exact (List.append_nil _).symm), by omega, rfl⟩
  case rest =>
    obtain ⟨S1, rfl, E1, n1, hw⟩ := hcut
    replace hw := hw.symm
    subst hw
    go_upto_if 27 with fail
    go_cut [4] (fun s4 wx => ∃ S : ByteArray, s4 = .string S ∧ Hid (bs S = bs S1 ++ ifL (!pt.toList.isEmpty) (pTHt ++ 61 :: bs pt)) ∧ S.size ≤ 5000 ∧ wx = v)
    case first =>
      have kl : (⟨#[59, 32, 80, 97, 116, 104, 61]⟩ : ByteArray).size = 7 := rfl
      have q1 : ¬ 9223372036854775807 < S1.size + 7 := by omega
      have q2 : ¬ 9223372036854775807 < S1.size + 7 + pt.size := by omega
      go_wp2_with fail
      · go_meet
        case rel => exact ⟨_, rfl, Lib.hid (by rw [‹(!pt.toList.isEmpty) = true›, bs_append, bs_append, List.append_assoc]; rfl), by rw [ByteArray.size_append, ByteArray.size_append, kl]; omega, rfl⟩
      · go_meet
        case rel => exact ⟨S1, rfl, Lib.hid (by rw [‹(!pt.toList.isEmpty) = false›]; exact (List.append_nil _).symm), by omega, rfl⟩
    case rest =>
      obtain ⟨S2, rfl, E2, n2, hw⟩ := hcut
      replace hw := hw.symm
      subst hw
      go_upto_if 35 with fail
      go_cut [4] (fun s4 wx => ∃ (S : ByteArray) (x : ByteArray), s4 = .string S ∧ Hid (ex = 0 ∨ IsWhen ex x) ∧ Hid (bs S = bs S2 ++ ifL (!(ex == 0)) (eXPt ++ 61 :: bs x)) ∧ S.size ≤ 6000 ∧ Below v.heap.size v wx)
      case first =>
        go_wp2_with fail
        · have hp : 0 < ex := by assumption
          have HE := Lib.hid (show (!(ex == 0)) = true by simp; omega)
          refine (rimf_when ex _ hx0 hx1).mono ?_
          rintro e w2 ⟨⟨x, hx, rfl⟩, hu⟩
          have hx29 := hx.size
          have kl : (⟨#[59, 32, 69, 120, 112, 105, 114, 101, 115, 61]⟩ : ByteArray).size = 10 := rfl
          have q1 : ¬ 9223372036854775807 < S2.size + 10 := by omega
          have q2 : ¬ 9223372036854775807 < S2.size + 10 + x.size := by omega
          have HX := Lib.hid hx
          have HU := Lib.hid hu
          clear hx hu
          go_wp2_with fail
          go_meet
          case rel => exact ⟨_, x, rfl, Lib.hid (.inr HX.out), Lib.hid (by rw [HE.out, bs_append, bs_append, List.append_assoc]; rfl), by rw [ByteArray.size_append, ByteArray.size_append, kl]; omega, HU.out⟩
        · have hp : ex = 0 := by omega
          have HE := Lib.hid (show (!(ex == 0)) = false by simp; omega)
          go_meet
          case rel => exact ⟨S2, ⟨#[]⟩, rfl, Lib.hid (.inl hp), Lib.hid (by rw [HE.out]; exact (List.append_nil _).symm), by omega, Below.refl _ _⟩
      case rest =>
        obtain ⟨S3, x, rfl, HX, E3, n3, hu⟩ := hcut
        have HB3 := Lib.hid (HB.out.trans (hu.mono HB.out.size))
        have HA3 := Lib.hid (HA.out.keep hu)
        clear HB HA c0 c1 c2 c3 c4 c5 c6 c7 hu
        obtain ⟨v3, hv3⟩ : ∃ v3, v3 = wc := ⟨_, rfl⟩
        subst hv3
        obtain ⟨c0, c1, c2, c3, c4, c5, c6, c7⟩ := HA3.out.cells
        dsimp only at c0 c1 c2 c3 c4 c5 c6 c7
        go_upto_if 47 with fail
        go_cut [4] (fun s4 wx => ∃ S : ByteArray, s4 = .string S ∧ Hid (bs S = bs S3 ++ ifL se sECt) ∧ S.size ≤ 7000 ∧ wx = v3)
        case first =>
          cases se
          · go_wp2_with fail
            go_meet
            case rel => exact ⟨S3, rfl, Lib.hid (List.append_nil _).symm, by omega, rfl⟩
          · have kl : (⟨#[59, 32, 83, 101, 99, 117, 114, 101]⟩ : ByteArray).size = 8 := rfl
            have q1 : ¬ 9223372036854775807 < S3.size + 8 := by omega
            go_wp2_with fail
            go_meet
            case rel => exact ⟨_, rfl, Lib.hid (by rw [bs_append]; rfl), by rw [ByteArray.size_append, kl]; omega, rfl⟩
        case rest =>
          obtain ⟨S4, rfl, E4, n4, hw⟩ := hcut
          replace hw := hw.symm
          subst hw
          go_upto_if 51 with fail
          go_cut [4] (fun s4 wx => ∃ S : ByteArray, s4 = .string S ∧ Hid (bs S = bs S4 ++ ifL ho hTOt) ∧ S.size ≤ 8000 ∧ wx = v3)
          case first =>
            cases ho
            · go_wp2_with fail
              go_meet
              case rel => exact ⟨S4, rfl, Lib.hid (List.append_nil _).symm, by omega, rfl⟩
            · have kl : (⟨#[59, 32, 72, 116, 116, 112, 79, 110, 108, 121]⟩ : ByteArray).size = 10 := rfl
              have q1 : ¬ 9223372036854775807 < S4.size + 10 := by omega
              go_wp2_with fail
              go_meet
              case rel => exact ⟨_, rfl, Lib.hid (by rw [bs_append]; rfl), by rw [ByteArray.size_append, kl]; omega, rfl⟩
          case rest =>
            obtain ⟨S5, rfl, E5, n5, hw⟩ := hcut
            replace hw := hw.symm
            subst hw
            have hst : st = 0 ∨ st = 1 ∨ st = 2 ∨ st = 3 := by omega
            have key : ∀ (t : ByteArray), bs t = bs S5 ++ ifL (!(st == 0)) (sSTt ++ 61 :: bs (siteT st)) → t = mk (printL (⟨nm, vl, dm, pt, ex, se, ho, st⟩ : Hd) x) := by
              intro t ht
              apply bs_inj
              rw [ht, E5.out, E4.out, E3.out, E2.out, E1.out, E0.out, bs_mk]
              rfl
            have HK := Lib.hid key
            have hlt : w.heap.size < v3.heap.size := HA3.out.lt
            clear key E0 E1 E2 E3 E4 E5
            rcases hst with rfl | rfl | rfl | rfl
            · have q1 : ¬ 9223372036854775807 < S5.size + 0 := by omega
              have HT := Lib.hid (HK.out (S5 ++ (⟨#[]⟩ : ByteArray)) (by rw [bs_append]; rfl))
              go_wp2_with fail
              go_ret2
              refine ⟨HB3.out.alloc HB3.out.size _, .inr ⟨HR.out, x, HX.out, ?_⟩⟩
              rw [← HT.out]
              rfl
            · have q1 : ¬ 9223372036854775807 < S5.size + 14 := by omega
              have HT := Lib.hid (HK.out (S5 ++ (⟨#[59, 32, 83, 97, 109, 101, 83, 105, 116, 101, 61, 76, 97, 120]⟩ : ByteArray)) (by rw [bs_append]; rfl))
              go_wp2_with fail
              go_ret2
              refine ⟨HB3.out.alloc HB3.out.size _, .inr ⟨HR.out, x, HX.out, ?_⟩⟩
              rw [← HT.out]
              rfl
            · have q1 : ¬ 9223372036854775807 < S5.size + 17 := by omega
              have HT := Lib.hid (HK.out (S5 ++ (⟨#[59, 32, 83, 97, 109, 101, 83, 105, 116, 101, 61, 83, 116, 114, 105, 99, 116]⟩ : ByteArray)) (by rw [bs_append]; rfl))
              go_wp2_with fail
              go_ret2
              refine ⟨HB3.out.alloc HB3.out.size _, .inr ⟨HR.out, x, HX.out, ?_⟩⟩
              rw [← HT.out]
              rfl
            · have q1 : ¬ 9223372036854775807 < S5.size + 15 := by omega
              have HT := Lib.hid (HK.out (S5 ++ (⟨#[59, 32, 83, 97, 109, 101, 83, 105, 116, 101, 61, 78, 111, 110, 101]⟩ : ByteArray)) (by rw [bs_append]; rfl))
              go_wp2_with fail
              go_ret2
              refine ⟨HB3.out.alloc HB3.out.size _, .inr ⟨HR.out, x, HX.out, ?_⟩⟩
              rw [← HT.out]
              rfl
end Go.Proofs.YtngamlikhgilhaaGreatDoor
