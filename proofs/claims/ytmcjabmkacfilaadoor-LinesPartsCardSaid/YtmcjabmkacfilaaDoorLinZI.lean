/- The walk of LinesParts. -/
import Derived.Test.YtmcjabmkacfilaaDoorLinZH
namespace Go.Proofs.YtmcjabmkacfilaaDoor
open Go.RowKit Go.Shelf

theorem wp_app {o : Oper} {a : Act} {K : Act → World → Prop} {Q : Exit → Act → World → Prop} (w : World) (s x : Operand)
    (ho : o.op = .call { callee := .builtin .append, args := #[s, x], argTypes := #[23, 23] })
    (b off : Nat) (p q : List ByteArray) (v2 : Value) (hs : a.eval s = .slice (some ⟨b, off, none⟩) p.length p.length) (hx : a.eval x = v2) (hp0 : 0 < p.length) (hp : p.length ≤ 10000) (hq : q.length ≤ 10000)
    (hc : ∀ i (h : i < p.length), w.cell? ⟨b, off + i, none⟩ = some (.string p[i])) (hb : b < w.heap.size) (hr : RT 0 w v2 q)
    (h : ∀ v' w', RT 0 w' v' (p ++ q) → Below w.heap.size w w' → K (a.put o.dst v') w') : o.wp Tryd.prog a w K Q := by
  obtain ⟨v', w', hrun, h1, h2⟩ := run_app w o.type b off p q v2 hp0 hp hq hc hb hr
  unfold Oper.wp execOp
  simp only [ho, resolve, invoke, builtin, Sem.run_bind, Sem.run_pure, Result.andThen_ok, List.map_toArray, List.map_cons, List.map_nil, hs, hx, hrun]
  exact h v' w' h1 h2
set_option maxRecDepth 100000 in
set_option maxHeartbeats 4000000 in
theorem linesParts_any (s t : ByteArray) (w : World) (_ : s.size ≤ 140737488351232) (_ : t.size ≤ 140737488351232) (hm : HasMax w) :
    Calls Tryd.prog 10 #[.string s, .string t] w fun e w' => e = .returned (.bool true) ∧ Below w.heap.size w w' := by
  have hal : ∀ W, HasMax W → Calls Tryd.prog 11 #[] W fun e w' => e = .returned (.bool true) ∧ Below W.heap.size W w' := alive_any
  by_cases hbig : 1000 < s.size
  · go_enter Tryd.func10, Tryd.ntmps10
    go_wp2_with fail
    refine (hal _ hm).mono ?_
    rintro e w1 ⟨rfl, hb1⟩
    go_wp2_with fail
    go_ret
    exact ⟨rfl, hb1⟩
  · by_cases hbig2 : 1000 < t.size
    · have d1 : decide ((1000 : Int) < s.size) = false := by simp; omega
      go_enter Tryd.func10, Tryd.ntmps10
      go_wp2_with fail
      refine (hal _ hm).mono ?_
      rintro e w1 ⟨rfl, hb1⟩
      go_wp2_with fail
      go_ret
      exact ⟨rfl, hb1⟩
    · have d1 : decide ((1000 : Int) < s.size) = false := by simp; omega
      have d2 : decide ((1000 : Int) < t.size) = false := by simp; omega
      have hA := Lib.hid (lines_app s t)
      have hpos := lines_pos s
      have z1 : (s ++ (⟨#[10]⟩ : ByteArray)).size = s.size + 1 := ByteArray.size_append
      have hs1 : (s ++ (⟨#[10]⟩ : ByteArray)).size ≤ 9223372036854775807 := by omega
      have hs2 : s.size + 1 ≤ 9223372036854775807 := by omega
      have z2 : (s ++ (⟨#[10]⟩ : ByteArray) ++ t).size = s.size + 1 + t.size := by rw [ByteArray.size_append, z1]
      have hs3 : (s ++ (⟨#[10]⟩ : ByteArray) ++ t).size ≤ 9223372036854775807 := by omega
      have hs4 : s.size + 1 + t.size ≤ 9223372036854775807 := by omega
      have n1 : ¬ 9223372036854775807 < s.size + 1 := by omega
      have n2 : ¬ 9223372036854775807 < s.size + 1 + t.size := by omega
      have l1 := lines_lens (s ++ (⟨#[10]⟩ : ByteArray))
      have l2 := lines_lens t
      have l3 := lines_lens (s ++ (⟨#[10]⟩ : ByteArray) ++ t)
      have hz5 : (s ++ (⟨#[10]⟩ : ByteArray)).size ≤ 100000 := by omega
      have hz6 : t.size ≤ 100000 := by omega
      have hz7 : (s ++ (⟨#[10]⟩ : ByteArray) ++ t).size ≤ 100000 := by omega
      have hl7 : (linesS (s ++ (⟨#[10]⟩ : ByteArray) ++ t)).length ≤ 1000000 := by omega
      have hl1 : (linesS (s ++ (⟨#[10]⟩ : ByteArray))).length ≤ 10000 := by omega
      have hl2 : (linesS t).length ≤ 10000 := by omega
      clear l1 l2 l3 z1 z2
      go_enter Tryd.func10, Tryd.ntmps10
      go_wp2_with fail
      refine (split_any (s ++ (⟨#[10]⟩ : ByteArray)) _ hz5 hm).mono ?_
      rintro e w1 ⟨v1, rfl, R1, hb1⟩
      go_wp2_with fail
      refine (split_any t _ hz6 (max_keep hm hb1)).mono ?_
      rintro e w2 ⟨v2, rfl, R2, hb2⟩
      have R1' := (R1.keep hb2).mono (Nat.zero_le _)
      have R2' := R2.mono (Nat.zero_le _)
      have hB2 := Lsnoc hb1 hb2
      clear R1 R2 hb1 hb2
      have hA2 := Lib.hid (show linesS (s ++ (⟨#[10]⟩ : ByteArray) ++ t) = linesS (s ++ (⟨#[10]⟩ : ByteArray)) ++ linesS t from hA.out)
      generalize hp : linesS (s ++ (⟨#[10]⟩ : ByteArray)) = p at *
      generalize hq : linesS t = q at *
      clear hp hq hA
      obtain ⟨a1, c1, rfl, hc1, hr1⟩ := R1'
      have hpn : p ≠ [] := List.length_pos_iff.1 hpos
      obtain ⟨b, o, rfl, -, hlt, hcell⟩ := hr1.resolve_left hpn
      clear hr1 hpn
      have pp1 : (0 : Int) ≤ (p.length : Int) := by omega
      have pp2 : (p.length : Int) ≤ (c1 : Int) := by omega
      have pp3 : (0 : Int) < (p.length : Int) := by omega
      have hR2 : ∀ W, Below w2.heap.size w2 W → RT 0 W v2 q := fun W h => R2'.keep h
      have hC1 : ∀ W, Below w2.heap.size w2 W → ∀ i (h : i < p.length), W.cell? ⟨b, o + i, none⟩ = some (.string p[i]) := fun W hW i h => (hW.cell (p := ⟨b, o + i, none⟩) hlt).trans (hcell i h)
      have HM : ∀ W, Below w2.heap.size w2 W → HasMax W := fun W h => max_keep (max_keep hm hB2) h
      have HR2 := Lib.hid hR2
      have HC1 := Lib.hid hC1
      have HMX := Lib.hid HM
      clear hR2 hC1 HM hcell R2'
      go_upto_region 4 with fail
      refine wp_region_held_drew (S := fun W => Below w2.heap.size w2 W) (by kernel_rfl) (Below.drew (Below.refl _ _)) (fun hHeld => ?_)
      refine wpAnyH_ready (rs := [0]) (by kernel_rfl) (by simp) ?_
      refine AllReadyH.cons rfl (fun K hK => ?_) AllReadyH.nil
      go_simp
      go_at_call 11
      refine (hal _ (HMX.out _ hHeld)).mono ?_
      rintro e w3 ⟨rfl, hb3⟩
      refine hK.out _ _ (Below.trans hHeld (hb3.mono hHeld.size)) (fun hHeld2 => ?_)
      clear hK K hHeld hb3
      try simp only [List.getElem_toArray, List.getElem_cons_succ, List.getElem_cons_zero, Act.put, List.setIfInBounds_toArray, List.set_cons_zero, List.set_cons_succ]
      refine wpAnyH_take (i := 1) (v := ?_) rfl (by kernel_rfl) (by kernel_rfl) (by kernel_rfl) (fun _ _ _ h => h) (Or.inl ⟨by rfl, ?_⟩) (by assumption) ?_
      rotate_left
      · (intro w hSw; go_simp; try with_reducible rfl)
      try simp only [List.getElem_toArray, List.getElem_cons_succ, List.getElem_cons_zero, Act.put, List.setIfInBounds_toArray, List.set_cons_zero, List.set_cons_succ]
      refine wpAnyH_take (i := 2) (v := ?_) rfl (by kernel_rfl) (by kernel_rfl) (by kernel_rfl) (fun _ _ _ h => h) (Or.inl ⟨by rfl, ?_⟩) (by assumption) ?_
      rotate_left
      · (intro w hSw; go_simp; try with_reducible rfl)
      try simp only [List.getElem_toArray, List.getElem_cons_succ, List.getElem_cons_zero, Act.put, List.setIfInBounds_toArray, List.set_cons_zero, List.set_cons_succ]
      refine wpAnyH_take (i := 3) (v := ?_) rfl (by kernel_rfl) (by kernel_rfl) (by kernel_rfl) (fun _ _ _ h => h) (Or.inl ⟨by rfl, ?_⟩) (by assumption) ?_
      rotate_left
      · (intro w hSw; go_simp; try with_reducible rfl)
      try simp only [List.getElem_toArray, List.getElem_cons_succ, List.getElem_cons_zero, Act.put, List.setIfInBounds_toArray, List.set_cons_zero, List.set_cons_succ]
      refine wpAnyH_take (i := 4) (v := ?_) rfl (by kernel_rfl) (by kernel_rfl) (by kernel_rfl) (fun _ _ _ h => h) (Or.inl ⟨by rfl, ?_⟩) (by assumption) ?_
      rotate_left
      · (intro w hSw; go_simp; try with_reducible rfl)
      try simp only [List.getElem_toArray, List.getElem_cons_succ, List.getElem_cons_zero, Act.put, List.setIfInBounds_toArray, List.set_cons_zero, List.set_cons_succ]
      refine wpAnyH_take (i := 5) (v := ?_) rfl (by kernel_rfl) (by kernel_rfl) (by kernel_rfl) (fun _ _ _ h => h) (Or.inl ⟨by rfl, ?_⟩) (by assumption) ?_
      rotate_left
      · (intro w hSw; go_simp; try with_reducible rfl)
      try simp only [List.getElem_toArray, List.getElem_cons_succ, List.getElem_cons_zero, Act.put, List.setIfInBounds_toArray, List.set_cons_zero, List.set_cons_succ]
      refine wpAnyH_take (i := 7) (v := ?_) rfl (by kernel_rfl) (by kernel_rfl) (by kernel_rfl) (fun _ _ _ h => h) (Or.inl ⟨by rfl, ?_⟩) (by assumption) ?_
      rotate_left
      · (intro w hSw; go_simp; try with_reducible rfl)
      try simp only [List.getElem_toArray, List.getElem_cons_succ, List.getElem_cons_zero, Act.put, List.setIfInBounds_toArray, List.set_cons_zero, List.set_cons_succ]
      refine wpAnyH_take (i := 8) (v := ?_) rfl (by kernel_rfl) (by kernel_rfl) (by kernel_rfl) (fun _ _ _ h => h) (Or.inl ⟨by rfl, ?_⟩) (by assumption) ?_
      rotate_left
      · (intro w hSw; go_simp; try with_reducible rfl)
      try simp only [List.getElem_toArray, List.getElem_cons_succ, List.getElem_cons_zero, Act.put, List.setIfInBounds_toArray, List.set_cons_zero, List.set_cons_succ]
      refine wpAnyH_take (i := 9) (v := ?_) rfl (by kernel_rfl) (by kernel_rfl) (by kernel_rfl) (fun _ _ _ h => h) (Or.inl ⟨by rfl, ?_⟩) (by assumption) ?_
      rotate_left
      · (intro w hSw; go_simp; try with_reducible rfl)
      try simp only [List.getElem_toArray, List.getElem_cons_succ, List.getElem_cons_zero, Act.put, List.setIfInBounds_toArray, List.set_cons_zero, List.set_cons_succ]
      refine wpAnyH_take (i := 10) (v := ?_) rfl (by kernel_rfl) (by kernel_rfl) (by kernel_rfl) (fun _ _ _ h => h) (Or.inl ⟨by rfl, ?_⟩) (by assumption) ?_
      rotate_left
      · (intro w hSw; go_simp; try with_reducible rfl)
      try simp only [List.getElem_toArray, List.getElem_cons_succ, List.getElem_cons_zero, Act.put, List.setIfInBounds_toArray, List.set_cons_zero, List.set_cons_succ]
      refine wpAnyH_take (i := 11) (v := ?_) rfl (by kernel_rfl) (by kernel_rfl) (by kernel_rfl) (fun _ _ _ h => h) (Or.inl ⟨by rfl, ?_⟩) (by assumption) ?_
      rotate_left
      · (intro w hSw; go_simp; try with_reducible rfl)
      try simp only [List.getElem_toArray, List.getElem_cons_succ, List.getElem_cons_zero, Act.put, List.setIfInBounds_toArray, List.set_cons_zero, List.set_cons_succ]
      refine wpAnyH_take (i := 12) (v := ?_) rfl (by kernel_rfl) (by kernel_rfl) (by kernel_rfl) (fun _ _ _ h => h) (Or.inl ⟨by rfl, ?_⟩) (by assumption) ?_
      rotate_left
      · (intro w hSw; go_simp; try with_reducible rfl)
      try simp only [List.getElem_toArray, List.getElem_cons_succ, List.getElem_cons_zero, Act.put, List.setIfInBounds_toArray, List.set_cons_zero, List.set_cons_succ]
      refine wpAnyH_take (i := 13) (v := ?_) rfl (by kernel_rfl) (by kernel_rfl) (by kernel_rfl) (fun _ _ _ h => h) (Or.inl ⟨by rfl, ?_⟩) (by assumption) ?_
      rotate_left
      · (intro w hSw; go_simp; try with_reducible rfl)
      try simp only [List.getElem_toArray, List.getElem_cons_succ, List.getElem_cons_zero, Act.put, List.setIfInBounds_toArray, List.set_cons_zero, List.set_cons_succ]
      refine wpAnyH_ready (rs := [6]) (by kernel_rfl) (by simp) ?_
      refine AllReadyH.cons rfl (fun K hK => ?_) AllReadyH.nil
      go_simp
      go_at_call 12
      refine (split_any (s ++ (⟨#[10]⟩ : ByteArray) ++ t) _ hz7 (HMX.out _ hHeld2)).mono ?_
      rintro e w4 ⟨v4, rfl, R4, hb4⟩
      refine hK.out _ _ (Below.trans hHeld2 (hb4.mono hHeld2.size)) (fun hHeld4 => ?_)
      clear hK K hHeld2 hb4
      rw [hA2.out] at R4
      have R4' := R4.mono (Nat.zero_le _)
      clear R4
      try simp only [List.getElem_toArray, List.getElem_cons_succ, List.getElem_cons_zero, Act.put, List.setIfInBounds_toArray, List.set_cons_zero, List.set_cons_succ]
      refine wpAnyH_ready (rs := [14]) (by kernel_rfl) (by simp) ?_
      refine AllReadyH.cons rfl (fun K hK => ?_) AllReadyH.nil
      refine Eq.mpr (if_pos (by rfl)) ?_
      refine wp_app w4 (.tmp 33) (.tmp 34) rfl b o p q v2 rfl rfl hpos hl1 hl2 (HC1.out _ hHeld4) (Nat.lt_of_lt_of_le hlt hHeld4.size) (HR2.out _ hHeld4) ?_
      intro v5 w5 R5 hb5
      have R45 := R4'.keep hb5
      refine hK.out _ _ (Below.trans hHeld4 (hb5.mono hHeld4.size)) (fun hHeld5 => ?_)
      clear hK K hHeld4 hb5 R4'
      try simp only [List.getElem_toArray, List.getElem_cons_succ, List.getElem_cons_zero, Act.put, List.setIfInBounds_toArray, List.set_cons_zero, List.set_cons_succ]
      refine wpAnyH_ready (rs := [15]) (by kernel_rfl) (by simp) ?_
      refine AllReadyH.cons rfl (fun K hK => ?_) AllReadyH.nil
      go_simp
      go_at_call 13
      refine (rsame_any _ _ (p ++ q) (p ++ q) _ R45 R5 (by rw [List.length_append]; omega)).mono ?_
      rintro e w6 ⟨rfl, hb6⟩
      rw [show decide (p ++ q = p ++ q) = true from decide_eq_true rfl]
      refine hK.out _ _ (Below.trans hHeld5 (hb6.mono hHeld5.size)) (fun hHeld6 => ?_)
      clear hK K hHeld5 hb6 R45 R5
      try simp only [List.getElem_toArray, List.getElem_cons_succ, List.getElem_cons_zero, Act.put, List.setIfInBounds_toArray, List.set_cons_zero, List.set_cons_succ]
      refine wpAnyH_take (i := 16) (v := ?_) rfl (by kernel_rfl) (by kernel_rfl) (by kernel_rfl) (fun _ _ _ h => h) (Or.inl ⟨by rfl, ?_⟩) (by assumption) ?_
      rotate_left
      · (intro w hSw; go_simp; try with_reducible rfl)
      try simp only [List.getElem_toArray, List.getElem_cons_succ, List.getElem_cons_zero, Act.put, List.setIfInBounds_toArray, List.set_cons_zero, List.set_cons_succ]
      refine wpAnyH_take (i := 17) (v := ?_) rfl (by kernel_rfl) (by kernel_rfl) (by kernel_rfl) (fun _ _ _ h => h) (Or.inl ⟨by rfl, ?_⟩) (by assumption) ?_
      rotate_left
      · (intro w hSw; go_simp; try with_reducible rfl)
      try simp only [List.getElem_toArray, List.getElem_cons_succ, List.getElem_cons_zero, Act.put, List.setIfInBounds_toArray, List.set_cons_zero, List.set_cons_succ]
      refine wpAnyH_take (i := 18) (v := ?_) rfl (by kernel_rfl) (by kernel_rfl) (by kernel_rfl) (fun _ _ _ h => h) (Or.inl ⟨by rfl, ?_⟩) (by assumption) ?_
      rotate_left
      · (intro w hSw; go_simp; try with_reducible rfl)
      try simp only [List.getElem_toArray, List.getElem_cons_succ, List.getElem_cons_zero, Act.put, List.setIfInBounds_toArray, List.set_cons_zero, List.set_cons_succ]
      refine wpAnyH_take (i := 19) (v := ?_) rfl (by kernel_rfl) (by kernel_rfl) (by kernel_rfl) (fun _ _ _ h => h) (Or.inl ⟨by rfl, ?_⟩) (by assumption) ?_
      rotate_left
      · (intro w hSw; go_simp; try with_reducible rfl)
      try simp only [List.getElem_toArray, List.getElem_cons_succ, List.getElem_cons_zero, Act.put, List.setIfInBounds_toArray, List.set_cons_zero, List.set_cons_succ]
      refine wpAnyH_take (i := 20) (v := ?_) rfl (by kernel_rfl) (by kernel_rfl) (by kernel_rfl) (fun _ _ _ h => h) (Or.inl ⟨by rfl, ?_⟩) (by assumption) ?_
      rotate_left
      · (intro w hSw; go_simp; try with_reducible rfl)
      try simp only [List.getElem_toArray, List.getElem_cons_succ, List.getElem_cons_zero, Act.put, List.setIfInBounds_toArray, List.set_cons_zero, List.set_cons_succ]
      refine wpAnyH_take (i := 21) (v := ?_) rfl (by kernel_rfl) (by kernel_rfl) (by kernel_rfl) (fun _ _ _ h => h) (Or.inl ⟨by rfl, ?_⟩) (by assumption) ?_
      rotate_left
      · (intro w hSw; go_simp; try with_reducible rfl)
      try simp only [List.getElem_toArray, List.getElem_cons_succ, List.getElem_cons_zero, Act.put, List.setIfInBounds_toArray, List.set_cons_zero, List.set_cons_succ]
      refine wpAnyH_take (i := 22) (v := ?_) rfl (by kernel_rfl) (by kernel_rfl) (by kernel_rfl) (fun _ _ _ h => h) (Or.inl ⟨by rfl, ?_⟩) (by assumption) ?_
      rotate_left
      · (intro w hSw; go_simp; try with_reducible rfl)
      try simp only [List.getElem_toArray, List.getElem_cons_succ, List.getElem_cons_zero, Act.put, List.setIfInBounds_toArray, List.set_cons_zero, List.set_cons_succ]
      refine wpAnyH_done (by kernel_rfl) ?_ _
      have hB6 := Lsnoc hB2 hHeld6
      clear hHeld6
      go_wp2_with fail
      go_ret
      exact ⟨by simp, hB6⟩
end Go.Proofs.YtmcjabmkacfilaaDoor
