/- Addresses as texts: the program's and the reference's; the walk of the statement PathTexts. -/
import Derived.Test.YtnjmhkehckhihaaDoorPathO
import Derived.Deep.Fields
import Derived.ChangeSame
namespace Go.Proofs.YtnjmhkehckhihaaDoor
open Go.RowKit

open Classical in
/-- An address as a text, or that it is none. -/
noncomputable def textV (sec : Bool) (h p : ByteArray) : Value := if OkT h p then .tuple #[.string (textS sec h p), .bool true] else .tuple #[.string ⟨#[]⟩, .bool false]
theorem textV_yes {sec : Bool} {h p : ByteArray} (ok : OkT h p) : textV sec h p = .tuple #[.string (textS sec h p), .bool true] := if_pos ok
theorem textV_no {sec : Bool} {h p : ByteArray} (no : ¬ OkT h p) : textV sec h p = .tuple #[.string ⟨#[]⟩, .bool false] := if_neg no
theorem text_any (sec : Bool) (h p : ByteArray) (w : World) (hh : h.size ≤ 1000) (hp : p.size ≤ 1000) (hm : HasMax w) :
    Calls Tryd.prog 18 #[.agg #[.bool sec, .string h, .string p]] w fun e w' => e = .returned (textV sec h p) ∧ Below w.heap.size w w' := by
  by_cases ok : OkT h p
  · rw [textV_yes ok]
    cases sec
    · exact text_false_same h p w hh hp hm (text_ok false h p ok)
    · exact text_true_same h p w hh hp hm (text_ok true h p ok)
  · rw [textV_no ok]
    generalize hr : parseO (textS sec h p) = r
    obtain ⟨⟨sec', h', p'⟩, n⟩ := r
    by_cases hn : n = 0
    · subst hn
      have hs : sec' = sec := by
        rw [parse_text] at hr
        exact parseR_sec sec (h ++ p) _ hr
      subst hs
      have hd : (h'.toList == h.toList && p'.toList == p.toList) = false := by
        rw [← Bool.not_eq_true, Bool.and_eq_true, str_eq, str_eq]
        rintro ⟨rfl, rfl⟩
        exact text_no _ _ _ _ ok hr
      cases sec'
      · exact text_false_diff h p false h' p' w hh hp hm hr (by rw [Bool.and_assoc, hd, Bool.and_false])
      · exact text_true_diff h p true h' p' w hh hp hm hr (by rw [Bool.and_assoc, hd, Bool.and_false])
    · cases sec
      · exact text_false_err h p sec' h' p' n w hh hp hm hr (beq_eq_false_iff_ne.2 hn)
      · exact text_true_err h p sec' h' p' n w hh hp hm hr (beq_eq_false_iff_ne.2 hn)
set_option maxHeartbeats 2000000 in
set_option maxRecDepth 100000 in
theorem rtext_true (h p : ByteArray) (w : World) (hh : h.size ≤ 1000) (hp : p.size ≤ 1000) :
    Calls Tryd.prog 19 #[.agg #[.bool true, .string h, .string p]] w fun e w' => e = .returned (textV true h p) ∧ Below w.heap.size w w' := by
  have e1 : (⟨#[104, 116, 116, 112, 115, 58, 47, 47]⟩ : ByteArray) ++ h ++ p = textS true h p := rfl
  have HE := Lib.hid e1
  have k1 : ¬ (9223372036854775807 < 8 + h.size) := by omega
  have k2 : ¬ (9223372036854775807 < 8 + h.size + p.size) := by omega
  clear e1
  cases hk : canonS h with
  | none =>
    have HV := Lib.hid (@textV_no true h p fun ok => by rw [ok.1] at hk; cases hk)
    have HK := Lib.hid hk
    clear hk
    go_enter Tryd.func19, Tryd.ntmps19
    go_wp2_with fail
    refine (rcanon_any h _ (by omega)).mono ?_
    rintro e w1 ⟨rfl, hb1⟩
    rw [HK.out, show canonV none = .tuple #[.string ByteArray.empty, .bool false] from rfl]
    have hB := Below.snoc ((Below.refl _ w).alloc (Nat.le_refl _) _) hb1
    obtain ⟨hc1, hf1⟩ := bcell hb1
    have hz1 : w.heap.size < w1.heap.size := by have := hb1.size; simp at this; omega
    clear hb1
    go_wp2_with fail
    go_ret2
    exact ⟨by rw [HV.out]; rfl, hB⟩
  | some h' =>
    have hz' : h'.size ≤ 1000 := by have := (canon_size hk).1; omega
    by_cases he : h' = h
    · subst he
      cases hpb : pathB p
      · have HV := Lib.hid (@textV_no true h' p fun ok => by rw [ok.2.1] at hpb; cases hpb)
        have HK := Lib.hid hk
        have HP := Lib.hid hpb
        clear hk hpb
        go_enter Tryd.func19, Tryd.ntmps19
        go_wp2_with fail
        refine (rcanon_any h' _ (by omega)).mono ?_
        rintro e w1 ⟨rfl, hb1⟩
        rw [HK.out, show canonV (some h') = .tuple #[.string h', .bool true] from rfl]
        have hB := Below.snoc ((Below.refl _ w).alloc (Nat.le_refl _) _) hb1
        obtain ⟨hc1, hf1⟩ := bcell hb1
        have hz1 : w.heap.size < w1.heap.size := by have := hb1.size; simp at this; omega
        clear hb1
        go_wp2_with fail
        refine (rright_any p _ (by omega)).mono ?_
        rintro e w2 ⟨rfl, rfl⟩
        rw [HP.out]
        go_wp2_with fail
        go_ret2
        exact ⟨by rw [HV.out]; rfl, hB⟩
      · have HY := Lib.hid (show pos askB p = p.size → textV true h' p = .tuple #[.string (textS true h' p), .bool true] from fun hq => textV_yes ⟨hk, hpb, pos_full hq⟩)
        have HN := Lib.hid (show pos askB p < p.size → textV true h' p = .tuple #[.string ⟨#[]⟩, .bool false] from fun hq => textV_no fun ok => by rw [full_pos ok.2.2] at hq; omega)
        have hle := pos_le askB p
        have HA := Lib.hid (pos_at askB p)
        have HB := Lib.hid (pos_before askB p)
        generalize pos askB p = m at hle HA HB HY HN
        have HK := Lib.hid hk
        have HP := Lib.hid hpb
        clear hk hpb
        go_enter Tryd.func19, Tryd.ntmps19
        go_wp2_with fail
        refine (rcanon_any h' _ (by omega)).mono ?_
        rintro e w1 ⟨rfl, hb1⟩
        rw [HK.out, show canonV (some h') = .tuple #[.string h', .bool true] from rfl]
        have hB := Below.snoc ((Below.refl _ w).alloc (Nat.le_refl _) _) hb1
        obtain ⟨hc1, hf1⟩ := bcell hb1
        have hz1 : w.heap.size < w1.heap.size := by have := hb1.size; simp at this; omega
        clear hb1
        go_wp2_with fail
        refine (rright_any p _ (by omega)).mono ?_
        rintro e w2 ⟨rfl, rfl⟩
        rw [HP.out]
        go_wp2_with fail
        go_loop [6] (fun i => ∃ k : Nat, k ≤ m ∧ i = .int .i64 k) (fun i => p.size - (intOf i).toNat)
        case atStart => exact ⟨0, Nat.zero_le _, rfl⟩
        case round =>
          obtain ⟨k, hk, rfl⟩ := hrel
          by_cases hlt : k < p.size
          · have HX := Lib.hid (at_get p k hlt)
            by_cases hm : k < m
            · have hb := HB.out k hm
              go_wp2_with (go_at_call 30; refine (rasks_any _ _).mono ?_; rintro e w' ⟨rfl, rfl⟩; rw [HX.out])
              go_round
              case rel => exact ⟨k + 1, by omega, by go_num⟩
              case measure => simp [intOf]; omega
            · have hkm : k = m := by omega
              have hb : askB (at_ p k) = true := by rw [hkm]; exact HA.out (by omega)
              have HV := Lib.hid (HN.out (by omega))
              clear hm hkm
              go_wp2_with (go_at_call 30; refine (rasks_any _ _).mono ?_; rintro e w' ⟨rfl, rfl⟩; rw [HX.out])
              go_ret2
              exact ⟨by rw [HV.out]; rfl, hB⟩
          · have HV := Lib.hid (HY.out (by omega))
            go_wp2_with fail
            go_ret2
            exact ⟨by rw [HV.out, ← HE.out]; rfl, hB⟩
    · have HV := Lib.hid (@textV_no true h p fun ok => by rw [ok.1] at hk; cases hk; exact he rfl)
      have hne : (h'.toList == h.toList) = false := by rw [← Bool.not_eq_true, str_eq]; exact he
      have hne2 : (h'.toList != h.toList) = true := by rw [bne, hne]; rfl
      have HK := Lib.hid hk
      clear hk he
      go_enter Tryd.func19, Tryd.ntmps19
      go_wp2_with fail
      refine (rcanon_any h _ (by omega)).mono ?_
      rintro e w1 ⟨rfl, hb1⟩
      rw [HK.out, show canonV (some h') = .tuple #[.string h', .bool true] from rfl]
      have hB := Below.snoc ((Below.refl _ w).alloc (Nat.le_refl _) _) hb1
      obtain ⟨hc1, hf1⟩ := bcell hb1
      have hz1 : w.heap.size < w1.heap.size := by have := hb1.size; simp at this; omega
      clear hb1
      go_wp2_with fail
      go_ret2
      exact ⟨by rw [HV.out]; rfl, hB⟩
set_option maxHeartbeats 2000000 in
set_option maxRecDepth 100000 in
theorem rtext_false (h p : ByteArray) (w : World) (hh : h.size ≤ 1000) (hp : p.size ≤ 1000) :
    Calls Tryd.prog 19 #[.agg #[.bool false, .string h, .string p]] w fun e w' => e = .returned (textV false h p) ∧ Below w.heap.size w w' := by
  have e1 : (⟨#[104, 116, 116, 112, 58, 47, 47]⟩ : ByteArray) ++ h ++ p = textS false h p := rfl
  have HE := Lib.hid e1
  have k1 : ¬ (9223372036854775807 < 7 + h.size) := by omega
  have k2 : ¬ (9223372036854775807 < 7 + h.size + p.size) := by omega
  clear e1
  cases hk : canonS h with
  | none =>
    have HV := Lib.hid (@textV_no false h p fun ok => by rw [ok.1] at hk; cases hk)
    have HK := Lib.hid hk
    clear hk
    go_enter Tryd.func19, Tryd.ntmps19
    go_wp2_with fail
    refine (rcanon_any h _ (by omega)).mono ?_
    rintro e w1 ⟨rfl, hb1⟩
    rw [HK.out, show canonV none = .tuple #[.string ByteArray.empty, .bool false] from rfl]
    have hB := Below.snoc ((Below.refl _ w).alloc (Nat.le_refl _) _) hb1
    obtain ⟨hc1, hf1⟩ := bcell hb1
    have hz1 : w.heap.size < w1.heap.size := by have := hb1.size; simp at this; omega
    clear hb1
    go_wp2_with fail
    go_ret2
    exact ⟨by rw [HV.out]; rfl, hB⟩
  | some h' =>
    have hz' : h'.size ≤ 1000 := by have := (canon_size hk).1; omega
    by_cases he : h' = h
    · subst he
      cases hpb : pathB p
      · have HV := Lib.hid (@textV_no false h' p fun ok => by rw [ok.2.1] at hpb; cases hpb)
        have HK := Lib.hid hk
        have HP := Lib.hid hpb
        clear hk hpb
        go_enter Tryd.func19, Tryd.ntmps19
        go_wp2_with fail
        refine (rcanon_any h' _ (by omega)).mono ?_
        rintro e w1 ⟨rfl, hb1⟩
        rw [HK.out, show canonV (some h') = .tuple #[.string h', .bool true] from rfl]
        have hB := Below.snoc ((Below.refl _ w).alloc (Nat.le_refl _) _) hb1
        obtain ⟨hc1, hf1⟩ := bcell hb1
        have hz1 : w.heap.size < w1.heap.size := by have := hb1.size; simp at this; omega
        clear hb1
        go_wp2_with fail
        refine (rright_any p _ (by omega)).mono ?_
        rintro e w2 ⟨rfl, rfl⟩
        rw [HP.out]
        go_wp2_with fail
        go_ret2
        exact ⟨by rw [HV.out]; rfl, hB⟩
      · have HY := Lib.hid (show pos askB p = p.size → textV false h' p = .tuple #[.string (textS false h' p), .bool true] from fun hq => textV_yes ⟨hk, hpb, pos_full hq⟩)
        have HN := Lib.hid (show pos askB p < p.size → textV false h' p = .tuple #[.string ⟨#[]⟩, .bool false] from fun hq => textV_no fun ok => by rw [full_pos ok.2.2] at hq; omega)
        have hle := pos_le askB p
        have HA := Lib.hid (pos_at askB p)
        have HB := Lib.hid (pos_before askB p)
        generalize pos askB p = m at hle HA HB HY HN
        have HK := Lib.hid hk
        have HP := Lib.hid hpb
        clear hk hpb
        go_enter Tryd.func19, Tryd.ntmps19
        go_wp2_with fail
        refine (rcanon_any h' _ (by omega)).mono ?_
        rintro e w1 ⟨rfl, hb1⟩
        rw [HK.out, show canonV (some h') = .tuple #[.string h', .bool true] from rfl]
        have hB := Below.snoc ((Below.refl _ w).alloc (Nat.le_refl _) _) hb1
        obtain ⟨hc1, hf1⟩ := bcell hb1
        have hz1 : w.heap.size < w1.heap.size := by have := hb1.size; simp at this; omega
        clear hb1
        go_wp2_with fail
        refine (rright_any p _ (by omega)).mono ?_
        rintro e w2 ⟨rfl, rfl⟩
        rw [HP.out]
        go_wp2_with fail
        go_loop [6] (fun i => ∃ k : Nat, k ≤ m ∧ i = .int .i64 k) (fun i => p.size - (intOf i).toNat)
        case atStart => exact ⟨0, Nat.zero_le _, rfl⟩
        case round =>
          obtain ⟨k, hk, rfl⟩ := hrel
          by_cases hlt : k < p.size
          · have HX := Lib.hid (at_get p k hlt)
            by_cases hm : k < m
            · have hb := HB.out k hm
              go_wp2_with (go_at_call 30; refine (rasks_any _ _).mono ?_; rintro e w' ⟨rfl, rfl⟩; rw [HX.out])
              go_round
              case rel => exact ⟨k + 1, by omega, by go_num⟩
              case measure => simp [intOf]; omega
            · have hkm : k = m := by omega
              have hb : askB (at_ p k) = true := by rw [hkm]; exact HA.out (by omega)
              have HV := Lib.hid (HN.out (by omega))
              clear hm hkm
              go_wp2_with (go_at_call 30; refine (rasks_any _ _).mono ?_; rintro e w' ⟨rfl, rfl⟩; rw [HX.out])
              go_ret2
              exact ⟨by rw [HV.out]; rfl, hB⟩
          · have HV := Lib.hid (HY.out (by omega))
            go_wp2_with fail
            go_ret2
            exact ⟨by rw [HV.out, ← HE.out]; rfl, hB⟩
    · have HV := Lib.hid (@textV_no false h p fun ok => by rw [ok.1] at hk; cases hk; exact he rfl)
      have hne : (h'.toList == h.toList) = false := by rw [← Bool.not_eq_true, str_eq]; exact he
      have hne2 : (h'.toList != h.toList) = true := by rw [bne, hne]; rfl
      have HK := Lib.hid hk
      clear hk he
      go_enter Tryd.func19, Tryd.ntmps19
      go_wp2_with fail
      refine (rcanon_any h _ (by omega)).mono ?_
      rintro e w1 ⟨rfl, hb1⟩
      rw [HK.out, show canonV (some h') = .tuple #[.string h', .bool true] from rfl]
      have hB := Below.snoc ((Below.refl _ w).alloc (Nat.le_refl _) _) hb1
      obtain ⟨hc1, hf1⟩ := bcell hb1
      have hz1 : w.heap.size < w1.heap.size := by have := hb1.size; simp at this; omega
      clear hb1
      go_wp2_with fail
      go_ret2
      exact ⟨by rw [HV.out]; rfl, hB⟩
theorem rtext_any (sec : Bool) (h p : ByteArray) (w : World) (hh : h.size ≤ 1000) (hp : p.size ≤ 1000) :
    Calls Tryd.prog 19 #[.agg #[.bool sec, .string h, .string p]] w fun e w' => e = .returned (textV sec h p) ∧ Below w.heap.size w w' := by
  cases sec
  · exact rtext_false h p w hh hp
  · exact rtext_true h p w hh hp
end Go.Proofs.YtnjmhkehckhihaaDoor
