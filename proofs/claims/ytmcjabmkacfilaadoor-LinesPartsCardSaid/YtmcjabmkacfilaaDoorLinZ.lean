/- The contract of the reference's Join. -/
import Derived.Test.YtmcjabmkacfilaaDoorLinX
import Derived.Test.YtmcjabmkacfilaaDoorQReg
namespace Go.Proofs.YtmcjabmkacfilaaDoor
open Go.RowKit Go.Shelf

theorem ends_none {x : ByteArray} (h : x.size = 0) : endsB x 13 = false := by
  unfold endsB
  have : bs x = [] := List.length_eq_zero_iff.1 (by rw [← size_bs]; exact h)
  rw [this]
  rfl
theorem ends_at {x : ByteArray} (h : x.size - 1 < x.size) : endsB x 13 = (x[x.size - 1] == 13) := by
  unfold endsB
  have h2 : (bs x).length - 1 < (bs x).length := by rw [← size_bs]; exact h
  rw [List.getLast?_eq_getElem?, List.getElem?_eq_getElem h2]
  have : (bs x)[(bs x).length - 1] = x[x.size - 1] := by
    have e : (bs x).length - 1 = x.size - 1 := by rw [← size_bs]
    simp only [e]
    rfl
  rw [this]
  rfl
theorem has_call (x : ByteArray) (w : World) (hs : x.size ≤ 1000000) {b : Bool} (hb : hasB 10 x = b) : Calls Tryd.prog 35 #[.string x, .int .u8 10] w fun e w' => e = .returned (.bool b) ∧ w = w' :=
  (rhas_any x 10 w hs).mono (fun _ _ h => ⟨by rw [← hb]; exact h.1, h.2⟩)
set_option maxRecDepth 100000 in
set_option maxHeartbeats 1000000 in
theorem rjoin_any (v : Value) (q : List ByteArray) (w : World) (hr : RT 0 w v q) (hl : (joinL q).length ≤ 1000000) (hq : q.length ≤ 1000000) :
    Calls Tryd.prog 16 #[v] w fun e w' => e = .returned (optV (joinO q)) ∧ Below w.heap.size w w' := by
  have hv : ∃ a cp, v = .slice a q.length cp ∧ q.length ≤ cp := by obtain ⟨a, cp, rfl, hc, -⟩ := hr; exact ⟨a, cp, rfl, hc⟩
  obtain ⟨a, cp, rfl, hc⟩ := hv
  go_enter Tryd.func16, Tryd.ntmps16
  go_wp2_with fail
  go_loopw [4, 5] (fun o i wr => ∃ (k : Nat) (O : ByteArray), k ≤ q.length ∧ i = .int .i64 k ∧ o = .string O ∧ Hid (O = mk (joinL (q.take k))) ∧ O.size ≤ (joinL q).length ∧ Hid ((q.take k).all okJ = true) ∧ Below w.heap.size w wr) (fun _ i _ => q.length - (intOf i).toNat)
  case atStart => exact ⟨0, ⟨#[]⟩, Nat.zero_le _, rfl, rfl, Lib.hid rfl, Nat.zero_le _, Lib.hid rfl, Below.refl _ _⟩
  case round =>
    obtain ⟨k, O, hk, rfl, rfl, HO, hO, HA, hb⟩ := hrel
    by_cases hlt : k < q.length
    · obtain ⟨b, o, cp', he, -, -, hbl, hcell0⟩ := hr.at hlt
      injection he with he1 he2 he3
      subst he1 he3
      have hcell := (hb.cell (p := ⟨b, o + k, none⟩) hbl).trans hcell0
      have hzs := size_joinL hlt
      have hsz : q[k].size ≤ 1000000 := by omega
      have hOl : O.size = (joinL (q.take k)).length := by rw [HO.out, size_mk]
      have HT := Lib.hid (joinL_take hlt)
      have HE : Hid (O ++ q[k] ++ (⟨#[10]⟩ : ByteArray) = mk (joinL (q.take (k + 1)))) := Lib.hid (by rw [HT.out, HO.out]; apply bs_inj; rw [bs_append, bs_append, bs_mk, bs_mk]; rfl)
      have hz0 : (O ++ q[k]).size ≤ 9223372036854775807 := by rw [ByteArray.size_append]; omega
      have hz1 : O.size + q[k].size ≤ 9223372036854775807 := by omega
      have hz2 : (O ++ q[k] ++ (⟨#[10]⟩ : ByteArray)).size ≤ 9223372036854775807 := by rw [ByteArray.size_append, ByteArray.size_append]; show O.size + _ + 1 ≤ _; omega
      have hz3 : O.size + q[k].size + 1 ≤ 9223372036854775807 := by omega
      have hz4 : (O ++ q[k] ++ (⟨#[10]⟩ : ByteArray)).size ≤ (joinL q).length := by rw [HE.out, size_mk]; exact joinL_le q (k + 1)
      clear HO HT
      cases h1 : hasB 10 q[k]
      · have H1 := Lib.hid h1
        rcases Nat.eq_zero_or_pos q[k].size with h0 | h0
        · have HN := Lib.hid (all_take hlt HA.out (by unfold okJ; rw [h1, ends_none h0]; rfl))
          clear h1 HA
          generalize q[k] = X at *
          obtain rfl : X = ⟨#[]⟩ := bs_inj (List.length_eq_zero_iff.1 (by rw [← size_bs]; exact h0))
          clear h0
          go_upto_region 5 with fail
          have hcj : ∀ x : BW wr, x.W.cell? ⟨b, o + k, none⟩ = some (.string ⟨#[]⟩) := fun x => (x.cell _ _ (Nat.lt_of_lt_of_le hbl hb.size)).trans hcell
          refine wp_region_class (by kernel_rfl) (by kernel_rfl) ?_
          repeat (go_big_quiet_step ((go_at_call 35; exact BW.same (has_call ⟨#[]⟩ _ hsz H1.out))))
          refine wpQuiet_nil ?_
          rintro Wx ⟨x, rfl⟩
          have hb3 : Below w.heap.size w x.W := Below.trans hb (x.bel.mono hb.size)
          have hcx := hcj x
          clear hcj
          go_wp2_with fail
          go_round
          case rel => exact ⟨k + 1, _, by omega, by go_num, rfl, HE, hz4, HN, hb3⟩
          case measure => simp [intOf]; omega
        · have hix : q[k].size - 1 < q[k].size := by omega
          have hea := ends_at hix
          by_cases h13 : q[k][q[k].size - 1] = 13
          · have HN := Lib.hid (joinO_no hlt (by unfold okJ; rw [h1, hea, h13]; rfl))
            clear h1 HA hea
            generalize q[k] = X at *
            have p1 : (0 : Int) < (X.size : Int) := by omega
            have w1 : IntKind.i64.wrap ((X.size : Int) - 1) = (X.size : Int) - 1 := by rw [IntKind.wrap_i64]; omega
            have b1 : 0 ≤ (X.size : Int) - 1 := by omega
            have b5 : (1 : Int) ≤ (X.size : Int) := by omega
            have b2 : (X.size : Int) - 1 < X.size := by omega
            have g1 : (X[X.size - 1].toNat : Int) = 13 := by rw [h13]; rfl
            have g2 : ((X[X.size - 1].toNat : Int) == 13) = true := by rw [g1]; rfl
            clear h13
            go_upto_region 5 with fail
            have hcj : ∀ x : BW wr, x.W.cell? ⟨b, o + k, none⟩ = some (.string X) := fun x => (x.cell _ _ (Nat.lt_of_lt_of_le hbl hb.size)).trans hcell
            refine wp_region_class (by kernel_rfl) (by kernel_rfl) ?_
            repeat (go_big_quiet_step ((go_at_call 35; exact BW.same (has_call X _ hsz H1.out))))
            refine wpQuiet_nil ?_
            rintro Wx ⟨x, rfl⟩
            have hb3 : Below w.heap.size w x.W := Below.trans hb (x.bel.mono hb.size)
            have hcx := hcj x
            clear hcj
            go_wp2_with fail
            go_ret2
            exact ⟨by rw [HN.out]; rfl, hb3⟩
          · have HN := Lib.hid (all_take hlt HA.out (by unfold okJ; rw [h1, hea, beq_eq_false_iff_ne.2 h13]; rfl))
            clear h1 HA hea
            generalize q[k] = X at *
            have p1 : (0 : Int) < (X.size : Int) := by omega
            have w1 : IntKind.i64.wrap ((X.size : Int) - 1) = (X.size : Int) - 1 := by rw [IntKind.wrap_i64]; omega
            have b1 : 0 ≤ (X.size : Int) - 1 := by omega
            have b5 : (1 : Int) ≤ (X.size : Int) := by omega
            have b2 : (X.size : Int) - 1 < X.size := by omega
            obtain ⟨g2, g1⟩ := ne_int (n := 13) (by decide) h13
            clear h13
            go_upto_region 5 with fail
            have hcj : ∀ x : BW wr, x.W.cell? ⟨b, o + k, none⟩ = some (.string X) := fun x => (x.cell _ _ (Nat.lt_of_lt_of_le hbl hb.size)).trans hcell
            refine wp_region_class (by kernel_rfl) (by kernel_rfl) ?_
            repeat (go_big_quiet_step ((go_at_call 35; exact BW.same (has_call X _ hsz H1.out))))
            refine wpQuiet_nil ?_
            rintro Wx ⟨x, rfl⟩
            have hb3 : Below w.heap.size w x.W := Below.trans hb (x.bel.mono hb.size)
            have hcx := hcj x
            clear hcj
            go_wp2_with fail
            go_round
            case rel => exact ⟨k + 1, _, by omega, by go_num, rfl, HE, hz4, HN, hb3⟩
            case measure => simp [intOf]; omega
      · have H1 := Lib.hid h1
        have HN := Lib.hid (joinO_no hlt (by unfold okJ; rw [h1]; rfl))
        clear h1 HA
        generalize q[k] = X at *
        go_upto_region 5 with fail
        have hcj : ∀ x : BW wr, x.W.cell? ⟨b, o + k, none⟩ = some (.string X) := fun x => (x.cell _ _ (Nat.lt_of_lt_of_le hbl hb.size)).trans hcell
        refine wp_region_class (by kernel_rfl) (by kernel_rfl) ?_
        repeat (go_big_quiet_step ((go_at_call 35; exact BW.same (has_call X _ hsz H1.out))))
        refine wpQuiet_nil ?_
        rintro Wx ⟨x, rfl⟩
        have hb3 : Below w.heap.size w x.W := Below.trans hb (x.bel.mono hb.size)
        have hcx := hcj x
        clear hcj
        go_wp2_with fail
        go_ret2
        exact ⟨by rw [HN.out]; rfl, hb3⟩
    · obtain rfl : k = q.length := by omega
      rw [List.take_length] at HO HA
      have HN := Lib.hid (show joinO q = some O by unfold joinO; rw [if_pos HA.out, HO.out])
      clear HO HA
      go_wp2_with fail
      go_ret2
      exact ⟨by rw [HN.out]; rfl, hb⟩
end Go.Proofs.YtmcjabmkacfilaaDoor
