/- The reference's addresses: what its Parse hands back. -/
import Derived.Test.YtnjmhkehckhihaaDoorPathO
import Derived.Deep.CutBlock
import Derived.Deep.DeepCutAuto
namespace Go.Proofs.YtnjmhkehckhihaaDoor
open Go.RowKit

theorem ext_ext (s : ByteArray) (f a b : Nat) (_ : f + b ≤ s.size) : (s.extract f s.size).extract a b = s.extract (f + a) (f + b) := by
  have e : bs (s.extract f s.size) = (bs s).drop f := by rw [bs_extract, List.take_of_length_le (by rw [← size_bs]; exact Nat.le_refl _)]
  apply bs_inj
  rw [bs_extract, e, bs_extract, List.take_drop, List.drop_drop]
theorem at_shift (s : ByteArray) (f j : Nat) : at_ (s.extract f s.size) j = at_ s (f + j) := by
  unfold at_
  rw [bs_extract, List.take_of_length_le (by rw [← size_bs]; exact Nat.le_refl _), List.getD_eq_getElem?_getD, List.getD_eq_getElem?_getD, List.getElem?_drop]
theorem scan_spec (p : Int → Bool) (s : ByteArray) (f : Nat) (hf : f ≤ s.size) : f ≤ f + pos p (s.extract f s.size) ∧ f + pos p (s.extract f s.size) ≤ s.size ∧
    (∀ j, f ≤ j → j < f + pos p (s.extract f s.size) → p (at_ s j) = false) ∧ (f + pos p (s.extract f s.size) < s.size → p (at_ s (f + pos p (s.extract f s.size))) = true) := by
  have hz : (s.extract f s.size).size = s.size - f := by rw [ByteArray.size_extract, Nat.min_self]
  have h1 := pos_le p (s.extract f s.size)
  rw [hz] at h1
  refine ⟨Nat.le_add_right _ _, by omega, fun j h2 h3 => ?_, fun h2 => ?_⟩
  · have h4 := pos_before p (s.extract f s.size) (j - f) (by omega)
    rwa [at_shift, Nat.add_sub_cancel' h2] at h4
  · have h4 := pos_at p (s.extract f s.size) (by rw [hz]; omega)
    rwa [at_shift] at h4
theorem three_cells {w : World} {b : Nat} {v0 v1 v2 : Value} (r0 : w.cell? ⟨b, 0, none⟩ = some v0) (r1 : w.cell? ⟨b, 1, none⟩ = some v1) (r2 : w.cell? ⟨b, 2, none⟩ = some v2) (x y z : Value) :
    (((w.setCell ⟨b, 1, none⟩ x).setCell ⟨b, 2, none⟩ y).setCell ⟨b, 2, none⟩ z).cell? ⟨b, 0, none⟩ = some v0 ∧ (((w.setCell ⟨b, 1, none⟩ x).setCell ⟨b, 2, none⟩ y).setCell ⟨b, 2, none⟩ z).cell? ⟨b, 1, none⟩ = some x ∧
    (((w.setCell ⟨b, 1, none⟩ x).setCell ⟨b, 2, none⟩ y).setCell ⟨b, 2, none⟩ z).cell? ⟨b, 2, none⟩ = some z := by
  have ne : ∀ i j : Nat, i ≠ j → (⟨b, i, none⟩ : Addr) ≠ ⟨b, j, none⟩ := fun i j h e => by injection e with _ e2; exact h e2
  have s1 : (w.setCell ⟨b, 1, none⟩ x).cell? ⟨b, 1, none⟩ = some x := World.cell?_setCell_same' _ _ _ (by rw [r1]; rfl)
  have s2 : (w.setCell ⟨b, 1, none⟩ x).cell? ⟨b, 2, none⟩ = some v2 := by rw [World.cell?_setCell_other _ _ _ _ (ne 1 2 (by decide)), r2]
  have s3 : ((w.setCell ⟨b, 1, none⟩ x).setCell ⟨b, 2, none⟩ y).cell? ⟨b, 2, none⟩ = some y := World.cell?_setCell_same' _ _ _ (by rw [s2]; rfl)
  refine ⟨?_, ?_, World.cell?_setCell_same' _ _ _ (by rw [s3]; rfl)⟩
  · rw [World.cell?_setCell_other _ _ _ _ (ne 2 0 (by decide)), World.cell?_setCell_other _ _ _ _ (ne 2 0 (by decide)), World.cell?_setCell_other _ _ _ _ (ne 1 0 (by decide)), r0]
  · rw [World.cell?_setCell_other _ _ _ _ (ne 2 1 (by decide)), World.cell?_setCell_other _ _ _ _ (ne 2 1 (by decide)), s1]
def slashed (p : ByteArray) : ByteArray := if p.size = 0 then ⟨#[47]⟩ else p
def parseV (sec : Bool) (o : Option ByteArray) (p : ByteArray) : UrlR :=
  match o with
  | none => urlE 121
  | some h => if pathB (slashed p) then ((sec, h, slashed p), 0) else urlE 122
theorem parseR_scan (sec : Bool) (s : ByteArray) (f : Nat) (hf : f ≤ s.size) (a b : Nat) (ha : a = f + pos stopB (s.extract f s.size)) (hb : b = a + pos askB (s.extract a s.size)) :
    parseR sec (s.extract f s.size) = parseV sec (canonS (s.extract f a)) (s.extract a b) := by
  have h1 := scan_spec stopB s f hf
  rw [← ha] at h1
  have h2 := scan_spec askB s a h1.2.1
  rw [← hb] at h2
  have hz : (s.extract f s.size).size = s.size - f := by rw [ByteArray.size_extract, Nat.min_self]
  have e1 : (s.extract f s.size).extract 0 (pos stopB (s.extract f s.size)) = s.extract f a := by
    rw [ext_ext s f 0 _ (by rw [← ha]; exact h1.2.1), Nat.add_zero, ha]
  have e2 : (s.extract f s.size).extract (pos stopB (s.extract f s.size)) (s.extract f s.size).size = s.extract a s.size := by
    rw [hz, ext_ext s f _ _ (by omega), ← ha, Nat.add_sub_cancel' hf]
  have e3 : pathS (s.extract a s.size) = slashed (s.extract a b) := by
    unfold pathS slashed
    rw [ext_ext s a 0 _ (by rw [← hb]; exact h2.2.1), Nat.add_zero, ← hb]
  unfold parseR parseV
  rw [e1, e2, e3]
  cases canonS (s.extract f a) <;> rfl
theorem parseV_none (sec : Bool) (p : ByteArray) : parseV sec none p = urlE 121 := rfl
theorem parseV_yes (sec : Bool) {h p : ByteArray} (h1 : pathB (slashed p) = true) : parseV sec (some h) p = ((sec, h, slashed p), 0) := by unfold parseV; simp only [h1, if_true]
theorem parseV_no (sec : Bool) {h p : ByteArray} (h1 : pathB (slashed p) = false) : parseV sec (some h) p = urlE 122 := by unfold parseV; simp only [h1, Bool.false_eq_true, if_false]
set_option maxRecDepth 100000 in
theorem rhead_any (s p : ByteArray) (w : World) (_ : s.size ≤ 9223372036854775807) : Calls Tryd.prog 29 #[.string s, .string p] w fun e w' => e = .returned (.bool (preB s p)) ∧ w = w' := by
  by_cases h : p.size ≤ s.size
  · cases hb : ((s.extract 0 p.size).toList == p.toList)
    all_goals
      have HV := Lib.hid (show preB s p = ((s.extract 0 p.size).toList == p.toList) by unfold preB; rw [decide_eq_true h, Bool.true_and])
      go_enter Tryd.func29, Tryd.ntmps29
      go_wp2_with fail
      go_ret
      exact ⟨ret_bool (HV.out.trans hb).symm, rfl⟩
  · have HV := Lib.hid (show preB s p = false by unfold preB; rw [decide_eq_false h]; rfl)
    go_enter Tryd.func29, Tryd.ntmps29
    go_wp2_with fail
    go_ret
    exact ⟨ret_bool HV.out.symm, rfl⟩
set_option maxRecDepth 100000 in
theorem rparse_scheme (s : ByteArray) (w : World) (hs : s.size ≤ 9223372036854775806) (h1 : preB s safeS = false) (h2 : preB s openS = false) :
    Calls Tryd.prog 17 #[.string s] w fun e w' => e = .returned (urlV (parseO s)) ∧ Below w.heap.size w w' := by
  have HV := Lib.hid (show parseO s = urlE 120 by unfold parseO; rw [h1, h2]; simp only [Bool.false_eq_true, if_false])
  have H1 := Lib.hid h1
  have H2 := Lib.hid h2
  clear h1 h2
  go_enter Tryd.func17, Tryd.ntmps17
  go_wp2_with fail
  refine (rhead_any s safeS _ (by omega)).mono ?_
  rintro e w1 ⟨rfl, rfl⟩
  rw [H1.out]
  go_wp2_with fail
  refine (rhead_any s openS _ (by omega)).mono ?_
  rintro e w1 ⟨rfl, rfl⟩
  rw [H2.out]
  go_wp2_with fail
  refine bodyPost_ret (v := urlV (urlE 120)) ?res rfl ⟨by rw [HV.out], ?bel⟩
  case res => simp [results, Tryd.results17, go_sem, urlV, urlE, *]; try rfl
  case bel => repeat (first | assumption | exact Nat.le_refl _ | exact Below.refl _ _ | (simp; done) | refine Below.setCell ?_ ?_ _ | refine Below.alloc ?_ ?_ _)
/-- What lies in the two blocks of an address. -/
structure RP (w wx : World) (sec : Bool) : Prop where
  bel : Below w.heap.size w wx
  size : w.heap.size + 1 < wx.heap.size
  q0 : wx.cell? ⟨w.heap.size, 0, none⟩ = some (.bool false)
  q1 : wx.cell? ⟨w.heap.size, 1, none⟩ = some (.string ⟨#[]⟩)
  q2 : wx.cell? ⟨w.heap.size, 2, none⟩ = some (.string ⟨#[]⟩)
  r0 : wx.cell? ⟨w.heap.size + 1, 0, none⟩ = some (.bool sec)
  r1 : wx.cell? ⟨w.heap.size + 1, 1, none⟩ = some (.string ⟨#[]⟩)
  r2 : wx.cell? ⟨w.heap.size + 1, 2, none⟩ = some (.string ⟨#[]⟩)
  fq : ∀ o, wx.frozen? ⟨w.heap.size, o, none⟩ = false
  fr : ∀ o, wx.frozen? ⟨w.heap.size + 1, o, none⟩ = false
theorem RP.snoc {w wx w3 : World} {sec : Bool} (h : RP w wx sec) (hb : Below wx.heap.size wx w3) : RP w w3 sec := by
  obtain ⟨hc, hf⟩ := bcell hb
  have z := h.size
  have z2 := hb.size
  exact ⟨Below.snoc h.bel hb, by omega, by rw [hc _ _ (by omega)]; exact h.q0, by rw [hc _ _ (by omega)]; exact h.q1, by rw [hc _ _ (by omega)]; exact h.q2,
    by rw [hc _ _ z]; exact h.r0, by rw [hc _ _ z]; exact h.r1, by rw [hc _ _ z]; exact h.r2, fun o => by rw [hf _ _ (by omega)]; exact h.fq o, fun o => by rw [hf _ _ z]; exact h.fr o⟩
set_option maxHeartbeats 4000000 in
set_option maxRecDepth 100000 in
theorem rparse_safe (s : ByteArray) (w : World) (hs : s.size ≤ 9223372036854775806) (h1 : preB s safeS = true) :
    Calls Tryd.prog 17 #[.string s] w fun e w' => e = .returned (urlV (parseO s)) ∧ Below w.heap.size w w' := by
  have hf : 8 ≤ s.size := pre_size h1
  have hP : parseO s = parseR true (s.extract 8 s.size) := by unfold parseO; rw [if_pos h1]
  obtain ⟨a, ha⟩ : ∃ a, a = 8 + pos stopB (s.extract 8 s.size) := ⟨_, rfl⟩
  obtain ⟨b, hb⟩ : ∃ b, b = a + pos askB (s.extract a s.size) := ⟨_, rfl⟩
  obtain ⟨a1, a2, a3, a4⟩ := scan_spec stopB s 8 hf
  rw [← ha] at a1 a2 a3 a4
  obtain ⟨b1, b2, b3, b4⟩ := scan_spec askB s a a2
  rw [← hb] at b1 b2 b3 b4
  have HV := Lib.hid (hP.trans (parseR_scan true s 8 hf a b ha hb))
  have A3 := Lib.hid a3
  have A4 := Lib.hid a4
  have B3 := Lib.hid b3
  have B4 := Lib.hid b4
  have zn : (s.extract 8 a).size ≤ 9223372036854775806 := by rw [ByteArray.size_extract]; omega
  have zb : (s.extract a b).size ≤ 9223372036854775807 := by rw [ByteArray.size_extract]; omega
  have H1 := Lib.hid h1
  clear hP ha hb a3 a4 b3 b4 h1
  go_enter Tryd.func17, Tryd.ntmps17
  go_wp2_with fail
  refine (rhead_any s safeS _ (by omega)).mono ?_
  rintro e w1 ⟨rfl, rfl⟩
  rw [H1.out]
  go_upto_block 0 with fail
  go_cut [6] (fun s6 wx => s6 = .int .i64 a ∧ RP w wx true)
  case first =>
    go_wp2_with fail
    go_loop [6] (fun i => ∃ k : Nat, 8 ≤ k ∧ k ≤ a ∧ i = .int .i64 k) (fun i => s.size - (intOf i).toNat)
    case atStart => exact ⟨8, Nat.le_refl _, a1, rfl⟩
    case round =>
      obtain ⟨k, hk0, hk, rfl⟩ := hrel
      by_cases hm : k < a
      · have hlt : k < s.size := by omega
        have HX := Lib.hid (at_get s k hlt)
        have hst := A3.out k hk0 hm
        have hb1 : (((s[k]'hlt).toNat : Int) != 47) = true := by
          rw [HX.out, bne]
          cases h : (at_ s k == 47)
          · rfl
          · rw [stop_yes h] at hst; cases hst
        have hb2 : askB (at_ s k) = false := by
          cases h : (at_ s k == 47)
          · rw [stop_no h] at hst; exact hst
          · rw [stop_yes h] at hst; cases hst
        clear hst
        go_wp2_with (go_at_call 30; refine (rasks_any _ _).mono ?_; rintro e w' ⟨rfl, rfl⟩; rw [HX.out])
        go_round
        case rel => exact ⟨k + 1, by omega, by omega, by go_num⟩
        case measure => simp [intOf]; omega
      · obtain rfl : k = a := by omega
        clear hm hk
        have hx : k = s.size ∨ (∃ h : k < s.size, (((s[k]'h).toNat : Int) != 47) = false) ∨ (∃ h : k < s.size, (((s[k]'h).toNat : Int) != 47) = true ∧ askB (at_ s k) = true) := by
          by_cases h : k < s.size
          · have h2 := A4.out h
            cases h3 : (at_ s k == 47)
            · rw [stop_no h3] at h2; exact .inr (.inr ⟨h, by rw [at_get s k h, bne, h3]; rfl, h2⟩)
            · exact .inr (.inl ⟨h, by rw [at_get s k h, bne, h3]; rfl⟩)
          · exact .inl (by omega)
        rcases hx with hx | ⟨hlt, hx⟩ | ⟨hlt, hx, hy⟩
        case' inl =>
          have hnl : ¬ (k < s.size) := by omega
          have hni : decide ((k : Int) < (s.size : Int)) = false := by simp; omega
          clear hx
        case' inr.inr =>
          have HX := Lib.hid (at_get s k hlt)
        all_goals
          go_wp2_with (go_at_call 30; refine (rasks_any _ _).mono ?_; rintro e w' ⟨rfl, rfl⟩; rw [HX.out])
          go_meet
          case rel =>
            exact ⟨rfl, ⟨((Below.refl _ w).alloc (Nat.le_refl _) _).alloc (by simp) _, by simp, by go_simp, by go_simp, by go_simp, by go_simp, by go_simp, by go_simp, fun o => by go_simp, fun o => by go_simp⟩⟩
  case rest =>
    obtain ⟨rfl, hR⟩ := hcut
    clear A3 A4
    go_wp2_with fail
    refine (rcanon_any (s.extract 8 a) _ zn).mono ?_
    rintro e w3 ⟨rfl, hb3⟩
    have hR3 := hR.snoc hb3
    clear hb3 hR
    obtain ⟨hB, hz3, q0, q1, q2, r0, r1, r2, fq, fr⟩ := hR3
    cases hk : canonS (s.extract 8 a) with
    | none =>
      have HV2 := Lib.hid (show parseO s = urlE 121 by rw [HV.out, hk]; rfl)
      clear hk HV
      rw [show canonV none = .tuple #[.string ByteArray.empty, .bool false] from rfl]
      go_wp2_with fail
      refine bodyPost_ret (v := urlV (urlE 121)) ?res rfl ⟨by rw [HV2.out], ?bel⟩
      case res => simp [results, Tryd.results17, go_sem, urlV, urlE, *]; try rfl
      case bel => repeat (first | assumption | exact Nat.le_refl _ | exact Nat.le_succ _ | refine Below.setCell ?_ ?_ _)
    | some h =>
      have HV1 := Lib.hid (show parseO s = parseV true (some h) (s.extract a b) by rw [HV.out, hk])
      clear hk HV
      rw [show canonV (some h) = .tuple #[.string h, .bool true] from rfl]
      go_upto_block 2 with fail
      go_cut [9] (fun s9 wx => s9 = .int .i64 b ∧ wx = w3)
      case first =>
        clear q0 q1 q2 r0 r1 r2 fq fr HV1
        go_wp2_with fail
        go_loop [9] (fun i => ∃ j : Nat, a ≤ j ∧ j ≤ b ∧ i = .int .i64 j) (fun i => s.size - (intOf i).toNat)
        case atStart => exact ⟨a, Nat.le_refl _, b1, rfl⟩
        case round =>
          obtain ⟨j, hj0, hj, rfl⟩ := hrel
          by_cases hm : j < b
          · have hjlt : j < s.size := by omega
            have HX := Lib.hid (at_get s j hjlt)
            have hst := B3.out j hj0 hm
            go_wp2_with (go_at_call 30; refine (rasks_any _ _).mono ?_; rintro e w' ⟨rfl, rfl⟩; rw [HX.out])
            go_round
            case rel => exact ⟨j + 1, by omega, by omega, by go_num⟩
            case measure => simp [intOf]; omega
          · obtain rfl : j = b := by omega
            clear hm hj
            have hy : j = s.size ∨ (∃ h : j < s.size, askB (at_ s j) = true) := by
              by_cases h : j < s.size
              · exact .inr ⟨h, B4.out h⟩
              · exact .inl (by omega)
            rcases hy with hy | ⟨hjlt, hy⟩
            case' inl =>
              have hnl2 : ¬ (j < s.size) := by omega
              have hni2 : decide ((j : Int) < (s.size : Int)) = false := by simp; omega
              clear hy
            case' inr =>
              have HX := Lib.hid (at_get s j hjlt)
            all_goals
              go_wp2_with (go_at_call 30; refine (rasks_any _ _).mono ?_; rintro e w' ⟨rfl, rfl⟩; rw [HX.out])
              go_meet
              case rel => exact ⟨rfl, rfl⟩
      case rest =>
        obtain ⟨rfl, rfl⟩ := hcut
        clear B3 B4
        have r3 := fun x y z => (three_cells r0 r1 r2 x y z).1
        have r4 := fun x y z => (three_cells r0 r1 r2 x y z).2.1
        have r5 := fun x y z => (three_cells r0 r1 r2 x y z).2.2
        by_cases hz : (s.extract a b).size = 0
        · have g0 : (s.extract a b).toList = [] := List.isEmpty_iff.1 ((empty_iff _).2 hz)
          have HV2 := Lib.hid (show parseO s = ((true, h, ⟨#[47]⟩), 0) by
            have h9 : slashed (s.extract a b) = ⟨#[47]⟩ := if_pos hz
            rw [HV1.out, parseV_yes _ (by rw [h9]; decide), h9])
          clear hz HV1
          go_wp2_with fail
          refine (rright_any ⟨#[47]⟩ _ (by decide)).mono ?_
          rintro e w4 ⟨rfl, rfl⟩
          rw [show pathB ⟨#[47]⟩ = true by decide]
          go_wp2_with fail
          refine bodyPost_ret (v := urlV ((true, h, ⟨#[47]⟩), 0)) ?res rfl ⟨by rw [HV2.out], ?bel⟩
          case res => simp [results, Tryd.results17, go_sem, urlV, *]; try rfl
          case bel => repeat (first | assumption | exact Nat.le_refl _ | exact Nat.le_succ _ | refine Below.setCell ?_ ?_ _)
        · have g0 : (s.extract a b).toList.isEmpty = false := by rw [← Bool.not_eq_true, empty_iff]; exact hz
          have g1 : (s.extract a b).toList ≠ [] := fun h => by rw [h] at g0; simp at g0
          have HSL := Lib.hid (show slashed (s.extract a b) = s.extract a b from if_neg hz)
          clear hz
          go_wp2_with fail
          refine (rright_any (s.extract a b) _ zb).mono ?_
          rintro e w4 ⟨rfl, rfl⟩
          cases h3 : pathB (s.extract a b)
          · have HV2 := Lib.hid (show parseO s = urlE 122 by rw [HV1.out, parseV_no _ (by rw [HSL.out]; exact h3)])
            clear h3 HV1
            go_wp2_with fail
            refine bodyPost_ret (v := urlV (urlE 122)) ?res rfl ⟨by rw [HV2.out], ?bel⟩
            case res => simp [results, Tryd.results17, go_sem, urlV, urlE, *]; try rfl
            case bel => repeat (first | assumption | exact Nat.le_refl _ | exact Nat.le_succ _ | refine Below.setCell ?_ ?_ _)
          · have HV2 := Lib.hid (show parseO s = ((true, h, s.extract a b), 0) by rw [HV1.out, parseV_yes _ (by rw [HSL.out]; exact h3), HSL.out])
            clear h3 HV1
            go_wp2_with fail
            refine bodyPost_ret (v := urlV ((true, h, s.extract a b), 0)) ?res rfl ⟨by rw [HV2.out], ?bel⟩
            case res => simp [results, Tryd.results17, go_sem, urlV, *]; try rfl
            case bel => repeat (first | assumption | exact Nat.le_refl _ | exact Nat.le_succ _ | refine Below.setCell ?_ ?_ _)
set_option maxHeartbeats 4000000 in
set_option maxRecDepth 100000 in
theorem rparse_open (s : ByteArray) (w : World) (hs : s.size ≤ 9223372036854775806) (h0 : preB s safeS = false) (h1 : preB s openS = true) :
    Calls Tryd.prog 17 #[.string s] w fun e w' => e = .returned (urlV (parseO s)) ∧ Below w.heap.size w w' := by
  have hf : 7 ≤ s.size := pre_size h1
  have hP : parseO s = parseR false (s.extract 7 s.size) := by unfold parseO; rw [if_neg (by rw [h0]; simp), if_pos h1]
  obtain ⟨a, ha⟩ : ∃ a, a = 7 + pos stopB (s.extract 7 s.size) := ⟨_, rfl⟩
  obtain ⟨b, hb⟩ : ∃ b, b = a + pos askB (s.extract a s.size) := ⟨_, rfl⟩
  obtain ⟨a1, a2, a3, a4⟩ := scan_spec stopB s 7 hf
  rw [← ha] at a1 a2 a3 a4
  obtain ⟨b1, b2, b3, b4⟩ := scan_spec askB s a a2
  rw [← hb] at b1 b2 b3 b4
  have HV := Lib.hid (hP.trans (parseR_scan false s 7 hf a b ha hb))
  have A3 := Lib.hid a3
  have A4 := Lib.hid a4
  have B3 := Lib.hid b3
  have B4 := Lib.hid b4
  have zn : (s.extract 7 a).size ≤ 9223372036854775806 := by rw [ByteArray.size_extract]; omega
  have zb : (s.extract a b).size ≤ 9223372036854775807 := by rw [ByteArray.size_extract]; omega
  have H1 := Lib.hid h1
  have H0 := Lib.hid h0
  clear h0
  clear hP ha hb a3 a4 b3 b4 h1
  go_enter Tryd.func17, Tryd.ntmps17
  go_wp2_with fail
  refine (rhead_any s safeS _ (by omega)).mono ?_
  rintro e w1 ⟨rfl, rfl⟩
  rw [H0.out]
  go_wp2_with fail
  refine (rhead_any s openS _ (by omega)).mono ?_
  rintro e w1 ⟨rfl, rfl⟩
  rw [H1.out]
  go_upto_block 0 with fail
  go_cut [6] (fun s6 wx => s6 = .int .i64 a ∧ RP w wx false)
  case first =>
    go_wp2_with fail
    go_loop [6] (fun i => ∃ k : Nat, 7 ≤ k ∧ k ≤ a ∧ i = .int .i64 k) (fun i => s.size - (intOf i).toNat)
    case atStart => exact ⟨7, Nat.le_refl _, a1, rfl⟩
    case round =>
      obtain ⟨k, hk0, hk, rfl⟩ := hrel
      by_cases hm : k < a
      · have hlt : k < s.size := by omega
        have HX := Lib.hid (at_get s k hlt)
        have hst := A3.out k hk0 hm
        have hb1 : (((s[k]'hlt).toNat : Int) != 47) = true := by
          rw [HX.out, bne]
          cases h : (at_ s k == 47)
          · rfl
          · rw [stop_yes h] at hst; cases hst
        have hb2 : askB (at_ s k) = false := by
          cases h : (at_ s k == 47)
          · rw [stop_no h] at hst; exact hst
          · rw [stop_yes h] at hst; cases hst
        clear hst
        go_wp2_with (go_at_call 30; refine (rasks_any _ _).mono ?_; rintro e w' ⟨rfl, rfl⟩; rw [HX.out])
        go_round
        case rel => exact ⟨k + 1, by omega, by omega, by go_num⟩
        case measure => simp [intOf]; omega
      · obtain rfl : k = a := by omega
        clear hm hk
        have hx : k = s.size ∨ (∃ h : k < s.size, (((s[k]'h).toNat : Int) != 47) = false) ∨ (∃ h : k < s.size, (((s[k]'h).toNat : Int) != 47) = true ∧ askB (at_ s k) = true) := by
          by_cases h : k < s.size
          · have h2 := A4.out h
            cases h3 : (at_ s k == 47)
            · rw [stop_no h3] at h2; exact .inr (.inr ⟨h, by rw [at_get s k h, bne, h3]; rfl, h2⟩)
            · exact .inr (.inl ⟨h, by rw [at_get s k h, bne, h3]; rfl⟩)
          · exact .inl (by omega)
        rcases hx with hx | ⟨hlt, hx⟩ | ⟨hlt, hx, hy⟩
        case' inl =>
          have hnl : ¬ (k < s.size) := by omega
          have hni : decide ((k : Int) < (s.size : Int)) = false := by simp; omega
          clear hx
        case' inr.inr =>
          have HX := Lib.hid (at_get s k hlt)
        all_goals
          go_wp2_with (go_at_call 30; refine (rasks_any _ _).mono ?_; rintro e w' ⟨rfl, rfl⟩; rw [HX.out])
          go_meet
          case rel =>
            exact ⟨rfl, ⟨((Below.refl _ w).alloc (Nat.le_refl _) _).alloc (by simp) _, by simp, by go_simp, by go_simp, by go_simp, by go_simp, by go_simp, by go_simp, fun o => by go_simp, fun o => by go_simp⟩⟩
  case rest =>
    obtain ⟨rfl, hR⟩ := hcut
    clear A3 A4
    go_wp2_with fail
    refine (rcanon_any (s.extract 7 a) _ zn).mono ?_
    rintro e w3 ⟨rfl, hb3⟩
    have hR3 := hR.snoc hb3
    clear hb3 hR
    obtain ⟨hB, hz3, q0, q1, q2, r0, r1, r2, fq, fr⟩ := hR3
    cases hk : canonS (s.extract 7 a) with
    | none =>
      have HV2 := Lib.hid (show parseO s = urlE 121 by rw [HV.out, hk]; rfl)
      clear hk HV
      rw [show canonV none = .tuple #[.string ByteArray.empty, .bool false] from rfl]
      go_wp2_with fail
      refine bodyPost_ret (v := urlV (urlE 121)) ?res rfl ⟨by rw [HV2.out], ?bel⟩
      case res => simp [results, Tryd.results17, go_sem, urlV, urlE, *]; try rfl
      case bel => repeat (first | assumption | exact Nat.le_refl _ | exact Nat.le_succ _ | refine Below.setCell ?_ ?_ _)
    | some h =>
      have HV1 := Lib.hid (show parseO s = parseV false (some h) (s.extract a b) by rw [HV.out, hk])
      clear hk HV
      rw [show canonV (some h) = .tuple #[.string h, .bool true] from rfl]
      go_upto_block 2 with fail
      go_cut [9] (fun s9 wx => s9 = .int .i64 b ∧ wx = w3)
      case first =>
        clear q0 q1 q2 r0 r1 r2 fq fr HV1
        go_wp2_with fail
        go_loop [9] (fun i => ∃ j : Nat, a ≤ j ∧ j ≤ b ∧ i = .int .i64 j) (fun i => s.size - (intOf i).toNat)
        case atStart => exact ⟨a, Nat.le_refl _, b1, rfl⟩
        case round =>
          obtain ⟨j, hj0, hj, rfl⟩ := hrel
          by_cases hm : j < b
          · have hjlt : j < s.size := by omega
            have HX := Lib.hid (at_get s j hjlt)
            have hst := B3.out j hj0 hm
            go_wp2_with (go_at_call 30; refine (rasks_any _ _).mono ?_; rintro e w' ⟨rfl, rfl⟩; rw [HX.out])
            go_round
            case rel => exact ⟨j + 1, by omega, by omega, by go_num⟩
            case measure => simp [intOf]; omega
          · obtain rfl : j = b := by omega
            clear hm hj
            have hy : j = s.size ∨ (∃ h : j < s.size, askB (at_ s j) = true) := by
              by_cases h : j < s.size
              · exact .inr ⟨h, B4.out h⟩
              · exact .inl (by omega)
            rcases hy with hy | ⟨hjlt, hy⟩
            case' inl =>
              have hnl2 : ¬ (j < s.size) := by omega
              have hni2 : decide ((j : Int) < (s.size : Int)) = false := by simp; omega
              clear hy
            case' inr =>
              have HX := Lib.hid (at_get s j hjlt)
            all_goals
              go_wp2_with (go_at_call 30; refine (rasks_any _ _).mono ?_; rintro e w' ⟨rfl, rfl⟩; rw [HX.out])
              go_meet
              case rel => exact ⟨rfl, rfl⟩
      case rest =>
        obtain ⟨rfl, rfl⟩ := hcut
        clear B3 B4
        have r3 := fun x y z => (three_cells r0 r1 r2 x y z).1
        have r4 := fun x y z => (three_cells r0 r1 r2 x y z).2.1
        have r5 := fun x y z => (three_cells r0 r1 r2 x y z).2.2
        by_cases hz : (s.extract a b).size = 0
        · have g0 : (s.extract a b).toList = [] := List.isEmpty_iff.1 ((empty_iff _).2 hz)
          have HV2 := Lib.hid (show parseO s = ((false, h, ⟨#[47]⟩), 0) by
            have h9 : slashed (s.extract a b) = ⟨#[47]⟩ := if_pos hz
            rw [HV1.out, parseV_yes _ (by rw [h9]; decide), h9])
          clear hz HV1
          go_wp2_with fail
          refine (rright_any ⟨#[47]⟩ _ (by decide)).mono ?_
          rintro e w4 ⟨rfl, rfl⟩
          rw [show pathB ⟨#[47]⟩ = true by decide]
          go_wp2_with fail
          refine bodyPost_ret (v := urlV ((false, h, ⟨#[47]⟩), 0)) ?res rfl ⟨by rw [HV2.out], ?bel⟩
          case res => simp [results, Tryd.results17, go_sem, urlV, *]; try rfl
          case bel => repeat (first | assumption | exact Nat.le_refl _ | exact Nat.le_succ _ | refine Below.setCell ?_ ?_ _)
        · have g0 : (s.extract a b).toList.isEmpty = false := by rw [← Bool.not_eq_true, empty_iff]; exact hz
          have g1 : (s.extract a b).toList ≠ [] := fun h => by rw [h] at g0; simp at g0
          have HSL := Lib.hid (show slashed (s.extract a b) = s.extract a b from if_neg hz)
          clear hz
          go_wp2_with fail
          refine (rright_any (s.extract a b) _ zb).mono ?_
          rintro e w4 ⟨rfl, rfl⟩
          cases h3 : pathB (s.extract a b)
          · have HV2 := Lib.hid (show parseO s = urlE 122 by rw [HV1.out, parseV_no _ (by rw [HSL.out]; exact h3)])
            clear h3 HV1
            go_wp2_with fail
            refine bodyPost_ret (v := urlV (urlE 122)) ?res rfl ⟨by rw [HV2.out], ?bel⟩
            case res => simp [results, Tryd.results17, go_sem, urlV, urlE, *]; try rfl
            case bel => repeat (first | assumption | exact Nat.le_refl _ | exact Nat.le_succ _ | refine Below.setCell ?_ ?_ _)
          · have HV2 := Lib.hid (show parseO s = ((false, h, s.extract a b), 0) by rw [HV1.out, parseV_yes _ (by rw [HSL.out]; exact h3), HSL.out])
            clear h3 HV1
            go_wp2_with fail
            refine bodyPost_ret (v := urlV ((false, h, s.extract a b), 0)) ?res rfl ⟨by rw [HV2.out], ?bel⟩
            case res => simp [results, Tryd.results17, go_sem, urlV, *]; try rfl
            case bel => repeat (first | assumption | exact Nat.le_refl _ | exact Nat.le_succ _ | refine Below.setCell ?_ ?_ _)
theorem rparse_any (s : ByteArray) (w : World) (hs : s.size ≤ 9223372036854775806) :
    Calls Tryd.prog 17 #[.string s] w fun e w' => e = .returned (urlV (parseO s)) ∧ Below w.heap.size w w' := by
  cases h1 : preB s safeS
  · cases h2 : preB s openS
    · exact rparse_scheme s w hs h1 h2
    · exact rparse_open s w hs h1 h2
  · exact rparse_safe s w hs h1
end Go.Proofs.YtnjmhkehckhihaaDoor
