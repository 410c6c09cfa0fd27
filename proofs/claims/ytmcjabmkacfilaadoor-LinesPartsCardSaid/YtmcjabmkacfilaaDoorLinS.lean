/- The contract of the reference's Percent. -/
import Derived.Test.YtmcjabmkacfilaaDoorLinR
namespace Go.Proofs.YtmcjabmkacfilaaDoor
open Go.RowKit Go.Shelf

set_option maxRecDepth 100000 in
set_option maxHeartbeats 4000000 in
theorem rpercent_any (s : ByteArray) (w : World) (hs : s.size ≤ 1000000) : Calls Tryd.prog 28 #[.string s] w fun e w' => e = .returned (.string (pctS s)) ∧ Below w.heap.size w w' := by
  obtain ⟨i0, hi, hz0, hz1, hz2⟩ := info_parts info5
  have own0 : w.ownsRow w.heap.size 5 1 (.slice none 0 0) 0 [] := World.ownsRow_nil w _ _ _
  go_enter Tryd.func28, Tryd.ntmps28
  go_wp2_with fail
  go_loopw [3, 4] (fun v i wr => ∃ (k : Nat) (t : List UInt8), k ≤ s.size ∧ i = .int .i64 k ∧ Hid (t = ((bs s).take k).flatMap pctB) ∧ t.length ≤ 3 * k ∧ wr.ownsRow w.heap.size 5 1 v t.length (cellsU t) ∧ Below w.heap.size w wr) (fun _ i _ => s.size - (intOf i).toNat)
  case atStart => exact ⟨0, [], Nat.zero_le _, rfl, Lib.hid rfl, Nat.le_refl _, own0, Below.refl _ _⟩
  case round =>
    obtain ⟨k, t, hk, rfl, HU, ht, hown, hb⟩ := hrel
    clear own0
    have hz := hb.size
    by_cases hlt : k < s.size
    · have hlt2 : k < (bs s).length := by rw [← size_bs]; exact hlt
      have HT : Hid (t ++ pctB s[k] = ((bs s).take (k + 1)).flatMap pctB) := Lib.hid (by rw [flat_take pctB (bs s) k hlt2, HU.out]; rfl)
      cases hsf : safeB s[k]
      · have hp : pctB s[k] = [37, hexB (s[k].toNat / 16), hexB (s[k].toNat % 16)] := by unfold pctB; rw [hsf]; simp
        rw [hp] at HT
        have HS := Lib.hid hsf
        clear HU hsf hp
        have hc := UInt8.toNat_lt s[k]
        have S1 := rsign_any (s[k].toNat / 16) (by omega)
        have S2 := rsign_any (s[k].toNat % 16) (by omega)
        have q1 : IntKind.u8.wrap ((s[k].toNat : Int) / 16) = ((s[k].toNat / 16 : Nat) : Int) := by rw [IntKind.wrap_u8]; omega
        have q2 : (s[k].toNat : Int).tmod 16 = ((s[k].toNat % 16 : Nat) : Int) := by rw [Int.tmod_eq_emod_of_nonneg (by omega)]; omega
        rw [← q1] at S1
        rw [← q2] at S2
        clear q1 q2
        generalize hexB (s[k].toNat / 16) = h1 at *
        generalize hexB (s[k].toNat % 16) = h2 at *
        go_wp2_with fail
        refine (rsafe_any s[k] _).mono ?_
        rintro e w1 ⟨rfl, rfl⟩
        rw [HS.out]
        go_upto_region 7 with fail
        have own1 : (wr.drew.alloc (.cells #[.int .u8 37, .int .u8 (h1.toNat : Int), .int .u8 (h2.toNat : Int)] 5)).ownsRow w.heap.size 5 1 u3 t.length (cellsU t) := (World.ownsRow.drew hown).alloc _
        have hbd : Below w.heap.size w wr.drew := Below.drew hb
        have hcells : ∀ j u, [Value.int .u8 37, .int .u8 (h1.toNat : Int), .int .u8 (h2.toNat : Int)][j]? = some u → (wr.drew.alloc (.cells #[.int .u8 37, .int .u8 (h1.toNat : Int), .int .u8 (h2.toNat : Int)] 5)).cell? ((⟨wr.heap.size, 0, none⟩ : Addr).add j) = some u := fun j u hu => by
          rw [Addr.add_at, Nat.zero_add]
          exact (World.cell?_alloc_new _ _ _ _).trans (by simpa using hu)
        refine wp_region_held_drew (S := fun _ => True) (by kernel_rfl) trivial (fun hHeld => ?_)
        try simp only [List.getElem_toArray, List.getElem_cons_zero, Act.put, List.setIfInBounds_toArray, List.set_cons_zero, List.set_cons_succ]
        refine wpAnyH_take (i := 0) (v := ?_) rfl (by kernel_rfl) (by kernel_rfl) (by kernel_rfl) (fun _ _ _ h => h) (Or.inl ⟨by rfl, ?_⟩) (by assumption) ?_
        rotate_left
        · (intro w hSw; go_simp; try with_reducible rfl)
        try simp only [List.getElem_toArray, List.getElem_cons_zero, Act.put, List.setIfInBounds_toArray, List.set_cons_zero, List.set_cons_succ]
        refine wpAnyH_take (i := 1) (v := ?_) rfl (by kernel_rfl) (by kernel_rfl) (by kernel_rfl) (fun _ _ _ h => h) (Or.inl ⟨by rfl, ?_⟩) (by assumption) ?_
        rotate_left
        · (intro w hSw; go_simp; try with_reducible rfl)
        try simp only [List.getElem_toArray, List.getElem_cons_succ, List.getElem_cons_zero, Act.put, List.setIfInBounds_toArray, List.set_cons_zero, List.set_cons_succ]
        refine wpAnyH_take (i := 2) (v := ?_) rfl (by kernel_rfl) (by kernel_rfl) (by kernel_rfl) (fun _ _ _ h => h) (Or.inl ⟨by rfl, ?_⟩) (by assumption) ?_
        rotate_left
        · (intro w hSw; go_simp; try with_reducible rfl)
        try simp only [List.getElem_toArray, List.getElem_cons_succ, List.getElem_cons_zero, Act.put, List.setIfInBounds_toArray, List.set_cons_zero, List.set_cons_succ]
        refine wpAnyH_take (i := 3) (v := ?_) rfl (by kernel_rfl) (by kernel_rfl) (by kernel_rfl) (fun _ _ _ h => h) (Or.inl ⟨by rfl, ?_⟩) (by assumption) ?_
        rotate_left
        · (intro w hSw; go_simp; try with_reducible rfl)
        try simp only [List.getElem_toArray, List.getElem_cons_succ, List.getElem_cons_zero, Act.put, List.setIfInBounds_toArray, List.set_cons_zero, List.set_cons_succ]
        refine wpAnyH_take (i := 4) (v := ?_) rfl (by kernel_rfl) (by kernel_rfl) (by kernel_rfl) (fun _ _ _ h => h) (Or.inl ⟨by rfl, ?_⟩) (by assumption) ?_
        rotate_left
        · (intro w hSw; go_simp; try with_reducible rfl)
        try simp only [List.getElem_toArray, List.getElem_cons_succ, List.getElem_cons_zero, Act.put, List.setIfInBounds_toArray, List.set_cons_zero, List.set_cons_succ]
        refine wpAnyH_take (i := 6) (v := ?_) rfl (by kernel_rfl) (by kernel_rfl) (by kernel_rfl) (fun _ _ _ h => h) (Or.inl ⟨by rfl, ?_⟩) (by assumption) ?_
        rotate_left
        · (intro w hSw; go_simp; try with_reducible rfl)
        try simp only [List.getElem_toArray, List.getElem_cons_succ, List.getElem_cons_zero, Act.put, List.setIfInBounds_toArray, List.set_cons_zero, List.set_cons_succ]
        refine wpAnyH_take (i := 7) (v := ?_) rfl (by kernel_rfl) (by kernel_rfl) (by kernel_rfl) (fun _ _ _ h => h) (Or.inl ⟨by rfl, ?_⟩) (by assumption) ?_
        rotate_left
        · (intro w hSw; go_simp; try with_reducible rfl)
        try simp only [List.getElem_toArray, List.getElem_cons_succ, List.getElem_cons_zero, Act.put, List.setIfInBounds_toArray, List.set_cons_zero, List.set_cons_succ]
        refine wpAnyH_take (i := 8) (v := ?_) rfl (by kernel_rfl) (by kernel_rfl) (by kernel_rfl) (fun _ _ _ h => h) (Or.inl ⟨by rfl, ?_⟩) (by assumption) ?_
        rotate_left
        · (intro w hSw; go_simp; try with_reducible rfl)
        try simp only [List.getElem_toArray, List.getElem_cons_succ, List.getElem_cons_zero, Act.put, List.setIfInBounds_toArray, List.set_cons_zero, List.set_cons_succ]
        refine wpAnyH_take (i := 9) (v := ?_) rfl (by kernel_rfl) (by kernel_rfl) (by kernel_rfl) (fun _ _ _ h => h) (Or.inl ⟨by rfl, ?_⟩) (by assumption) ?_
        rotate_left
        · (intro w hSw; go_simp; try with_reducible rfl)
        refine wpAnyH_ready (rs := [5]) (by kernel_rfl) (by simp) ?_
        refine AllReadyH.cons rfl (fun K hK => ?_) AllReadyH.nil
        go_simp
        go_at_call 47
        refine (S1 _).mono ?_
        rintro e w' ⟨rfl, rfl⟩
        refine hK.out _ _ trivial (fun hHeld => ?_)
        clear hK K
        try simp only [List.getElem_toArray, List.getElem_cons_succ, List.getElem_cons_zero, Act.put, List.setIfInBounds_toArray, List.set_cons_zero, List.set_cons_succ]
        refine wpAnyH_ready (rs := [10]) (by kernel_rfl) (by simp) ?_
        refine AllReadyH.cons rfl (fun K hK => ?_) AllReadyH.nil
        go_simp
        go_at_call 47
        refine (S2 _).mono ?_
        rintro e w' ⟨rfl, rfl⟩
        refine hK.out _ _ trivial (fun hHeld => ?_)
        clear hK K
        try simp only [List.getElem_toArray, List.getElem_cons_succ, List.getElem_cons_zero, Act.put, List.setIfInBounds_toArray, List.set_cons_zero, List.set_cons_succ]
        refine wpAnyH_ready (rs := [11]) (by kernel_rfl) (by simp) ?_
        refine AllReadyH.cons rfl (fun K hK => ?_) AllReadyH.nil
        go_simp
        refine hK.out _ _ trivial (fun hHeld => ?_)
        clear hK K
        try simp only [List.getElem_toArray, List.getElem_cons_succ, List.getElem_cons_zero, Act.put, List.setIfInBounds_toArray, List.set_cons_zero, List.set_cons_succ]
        refine wpAnyH_ready (rs := [12]) (by kernel_rfl) (by simp) ?_
        refine AllReadyH.cons rfl (fun K hK => ?_) AllReadyH.nil
        refine Eq.mpr (if_pos (by rfl)) ?_
        refine wp_append_own _ (.tmp 21) (.tmp 32) 37 rfl w.heap.size 5 i0 (.int .u8 0) 1 1 Tryd.underlying37 hi hz0 hz1 hz2 rfl (by decide) u3 t.length (cellsU t) rfl own1 ⟨wr.heap.size, 0, none⟩ 3 3 [.int .u8 37, .int .u8 (h1.toNat : Int), .int .u8 (h2.toNat : Int)] rfl (by simp) hcells (by intro u hu; simp at hu; rcases hu with rfl | rfl | rfl <;> rfl) (by unfold maxLen; omega) (by omega) (by simp; omega) ?_
        intro v2 w2 hown2 hg2 hne2
        have hb2 : Below w.heap.size w w2 := (hbd.alloc hz _).grown hg2 (by simp; omega) (fun k hk => (own1.lt k hk).1)
        refine hK.out _ _ trivial (fun hHeld => ?_)
        clear hK K
        try simp only [List.getElem_toArray, List.getElem_cons_succ, List.getElem_cons_zero, Act.put, List.setIfInBounds_toArray, List.set_cons_zero, List.set_cons_succ]
        refine wpAnyH_ready (rs := [13]) (by kernel_rfl) (by simp) ?_
        refine AllReadyH.cons rfl (fun K hK => ?_) AllReadyH.nil
        go_simp
        refine hK.out _ _ trivial (fun hHeld => ?_)
        clear hK K
        try simp only [List.getElem_toArray, List.getElem_cons_succ, List.getElem_cons_zero, Act.put, List.setIfInBounds_toArray, List.set_cons_zero, List.set_cons_succ]
        refine wpAnyH_done (by kernel_rfl) ?_ _
        clear hHeld S1 S2 hcells own1 hg2 hne2
        go_wp2_with fail
        go_roundw
        case rel => exact ⟨k + 1, t ++ [37, h1, h2], by omega, by go_num, HT, by rw [List.length_append]; simp only [List.length_cons, List.length_nil]; omega, by rw [List.length_append]; exact (show cellsU (t ++ [37, h1, h2]) = cellsU t ++ [.int .u8 37, .int .u8 (h1.toNat : Int), .int .u8 (h2.toNat : Int)] from by unfold cellsU; rw [List.map_append]; rfl) ▸ hown2, hb2⟩
        case measure => simp [intOf]; omega
      · have hp : pctB s[k] = [s[k]] := by unfold pctB; rw [if_pos hsf]
        rw [hp] at HT
        have HN := HT
        have HS := Lib.hid hsf
        have own1 := hown.alloc (.cells #[.int .u8 (s[k].toNat : Int)] 5)
        clear HU hsf hp HT hown
        go_wp2_with fail
        refine (rsafe_any s[k] _).mono ?_
        rintro e w1 ⟨rfl, rfl⟩
        rw [HS.out]
        go_wp2_with (at_builtin; refine wpList_append_own _ rfl (.tmp 15) (.tmp 19) 37 rfl w.heap.size 5 i0 (.int .u8 0) 1 1 Tryd.underlying37 hi hz0 hz1 hz2 rfl (by decide) u3 t.length (cellsU t) rfl own1 ⟨wr.heap.size, 0, none⟩ 1 1 [.int .u8 (s[k].toNat : Int)] rfl ?c1 ?c2 ?c3 ?c4 ?c5 ?c6 ?_)
        case c1 => simp
        case c2 => exact cell_one_new _ _ _
        case c3 => intro u hu; simp at hu; subst hu; rfl
        case c4 => unfold maxLen; omega
        case c5 => omega
        case c6 => simp; omega
        intro v2 w2 hown2 hg2 hne2
        have hb2 : Below w.heap.size w w2 := (hb.alloc hz _).grown hg2 (by simp; omega) (fun k hk => (own1.lt k hk).1)
        clear hg2 hne2 own1
        go_wp2_with fail
        go_roundw
        case rel => exact ⟨k + 1, t ++ [s[k]], by omega, by go_num, HN, by rw [List.length_append, List.length_singleton]; omega, by rw [List.length_append, List.length_singleton]; exact (show cellsU (t ++ [s[k]]) = cellsU t ++ [.int .u8 (s[k].toNat : Int)] from by unfold cellsU; rw [List.map_append]; rfl) ▸ hown2, hb2⟩
        case measure => simp [intOf]; omega
    · obtain rfl : k = s.size := by omega
      have HN : Hid (mk t = pctS s) := Lib.hid (by rw [HU.out, List.take_of_length_le (by rw [← size_bs]; exact Nat.le_refl _)]; rfl)
      have hcv := conv_own hown
      clear HU hown
      go_wp2_with fail
      go_ret
      exact ⟨by rw [← HN.out]; rfl, hb⟩
end Go.Proofs.YtmcjabmkacfilaaDoor
