/- Contracts of dec.Fixed: numbers in two and in four digits. -/
import Derived.Test.YtngamlikhgilhaaDoorDecP
namespace Go.Proofs.YtngamlikhgilhaaDoor
open Go.RowKit

theorem fixL_cons (r n : Nat) : fixL (r + 1) n = UInt8.ofNat (48 + n / 10 ^ r % 10) :: fixL r n := by
  induction r generalizing n with
  | zero => simp [fixL]
  | succ r ih =>
    rw [show fixL (r + 1 + 1) n = fixL (r + 1) (n / 10) ++ [UInt8.ofNat (48 + n % 10)] from rfl, ih (n / 10), show fixL (r + 1) n = fixL r (n / 10) ++ [UInt8.ofNat (48 + n % 10)] from rfl,
      Nat.div_div_eq_div_mul, Nat.pow_succ, Nat.mul_comm 10]
    rfl
theorem rep_set (j : Nat) (l : List UInt8) (d : UInt8) : (List.replicate (j + 1) 0 ++ l).set j d = List.replicate j 0 ++ d :: l := by
  rw [List.replicate_succ', List.append_assoc, List.set_append_right _ _ (by simp)]
  simp
theorem mk_2 (w : World) : (Instr.makeSlice 46 (.int .i64 2) (.int .i64 2)).run Tryd.prog w = .ok (.slice (some ⟨w.heap.size, 0, none⟩) 2 2) (w.alloc (.cells #[.int .u8 0, .int .u8 0] 5)) := by kernel_rfl
theorem row_2 (w : World) : LRow (w.alloc (.cells #[.int .u8 0, .int .u8 0] 5)) w.heap.size (List.replicate 2 0) := by
  intro j hj
  rw [List.length_replicate] at hj
  rw [List.getElem_replicate]
  have h : j = 0 ∨ j = 1 := by omega
  rcases h with rfl | rfl <;> exact ⟨by rw [World.cell?_alloc_new]; rfl, by go_simp⟩
set_option maxHeartbeats 1000000 in
set_option maxRecDepth 100000 in
theorem fixed_2 (n : Nat) (hn : n < 10 ^ 2) (w : World) : Calls Tryd.prog 65 #[.int .i64 n, .int .i64 2] w fun e w' => e = .returned (.string (fixS 2 n)) ∧ Below w.heap.size w w' := by
  have hmk := mk_2 w
  have HR0 := Lib.hid (row_2 w)
  have hnn : n < 100 := hn
  have k3 : ¬ ((n : Int) < 0) := by omega
  have hbk : ∀ (wr : World) (l : List UInt8), l.length = 2 → LRow wr w.heap.size l → (convert 46 9 (.slice (some ⟨w.heap.size, 0, none⟩) 2 2)).run Tryd.prog wr = .ok (.string (mk l)) wr := fun wr l hl h => conv_back wr w.heap.size 2 2 l hl h
  have HB := Lib.hid hbk
  clear hbk
  go_enter Tryd.func65, Tryd.ntmps65
  go_wp2_with fail
  go_loopw [0, 6] (fun t i wr => ∃ m : Nat, t = .int .i64 m ∧ m < 100 ∧ Below w.heap.size w wr ∧
    ((∃ j : Nat, j < 2 ∧ i = .int .i64 j ∧ Hid (m = n / 10 ^ (2 - 1 - j)) ∧ Hid (LRow wr w.heap.size (List.replicate (j + 1) 0 ++ fixL (2 - 1 - j) n))) ∨
    (i = .int .i64 (-1) ∧ Hid (m = n / 10 ^ 2) ∧ Hid (LRow wr w.heap.size (fixL 2 n))))) (fun _ i _ => (intOf i + 1).toNat)
  case atStart => exact ⟨n, rfl, hnn, (Below.refl _ _).alloc (Nat.le_refl _) _, .inl ⟨1, by decide, rfl, Lib.hid (by simp), Lib.hid (by have := HR0.out; simpa [fixL] using this)⟩⟩
  case round =>
    clear hmk HR0
    obtain ⟨m, rfl, hm, hb, (⟨j, hj, rfl, HM, HA⟩ | ⟨rfl, HM, HA⟩)⟩ := hrel
    · have hl2 : j < (List.replicate (j + 1) (0 : UInt8) ++ fixL (2 - 1 - j) n).length := by rw [List.length_append, List.length_replicate]; omega
      obtain ⟨hx, hf⟩ := HA.out j hl2
      have hx2 : (List.replicate (j + 1) (0 : UInt8) ++ fixL (2 - 1 - j) n)[j]'hl2 = 0 := by
        rw [List.getElem_append_left (by simp), List.getElem_replicate]
      rw [hx2] at hx
      have hj2 : (j : Int) < 2 := by omega
      have HS := Lib.hid (HA.out.set j hl2 (UInt8.ofNat (48 + m % 10)))
      have HE := Lib.hid (show (List.replicate (j + 1) (0 : UInt8) ++ fixL (2 - 1 - j) n).set j (UInt8.ofNat (48 + m % 10)) = List.replicate j 0 ++ fixL (2 - 1 - j + 1) n by
        rw [rep_set, fixL_cons, ← HM.out])
      have HD := Lib.hid (show (((UInt8.ofNat (48 + m % 10)).toNat : Nat) : Int) = 48 + (m : Int) % 10 by rw [dig_of]; omega)
      have HN := Lib.hid (show m / 10 = n / 10 ^ (2 - 1 - j + 1) by rw [HM.out, Nat.div_div_eq_div_mul, Nat.pow_succ])
      have HC := Lib.hid (show (m : Int) / 10 = ((m / 10 : Nat) : Int) by omega)
      clear hl2 hx2
      go_wp2_with fail
      go_roundw
      case rel =>
        refine ⟨m / 10, by rw [HC.out], by omega, hb.setCell (Nat.le_refl _) _, ?_⟩
        have h9 := HS.out
        rw [HD.out, HE.out] at h9
        by_cases hj0 : j = 0
        · subst hj0
          exact .inr ⟨rfl, Lib.hid HN.out, Lib.hid h9⟩
        · obtain ⟨i, rfl⟩ : ∃ i, j = i + 1 := ⟨j - 1, by omega⟩
          refine .inl ⟨i, by omega, by congr 1 <;> omega, Lib.hid ?_, Lib.hid ?_⟩
          · rw [HN.out, show 2 - 1 - (i + 1) + 1 = 2 - 1 - i by omega]
          · rw [show 2 - 1 - i = 2 - 1 - (i + 1) + 1 by omega]; exact h9
      case measure => simp [intOf]
    · have hm0 : m = 0 := by rw [HM.out]; exact Nat.div_eq_of_lt hn
      subst hm0
      have hbk := HB.out wr (fixL 2 n) (fixL_len _ _) HA.out
      have HF := Lib.hid (show mk (fixL 2 n) = fixS 2 n from rfl)
      rw [HF.out] at hbk
      go_wp2_with fail
      go_ret
      exact ⟨rfl, hb⟩
theorem mk_4 (w : World) : (Instr.makeSlice 46 (.int .i64 4) (.int .i64 4)).run Tryd.prog w = .ok (.slice (some ⟨w.heap.size, 0, none⟩) 4 4) (w.alloc (.cells #[.int .u8 0, .int .u8 0, .int .u8 0, .int .u8 0] 5)) := by kernel_rfl
theorem row_4 (w : World) : LRow (w.alloc (.cells #[.int .u8 0, .int .u8 0, .int .u8 0, .int .u8 0] 5)) w.heap.size (List.replicate 4 0) := by
  intro j hj
  rw [List.length_replicate] at hj
  rw [List.getElem_replicate]
  have h : j = 0 ∨ j = 1 ∨ j = 2 ∨ j = 3 := by omega
  rcases h with rfl | rfl | rfl | rfl <;> exact ⟨by rw [World.cell?_alloc_new]; rfl, by go_simp⟩
set_option maxHeartbeats 1000000 in
set_option maxRecDepth 100000 in
theorem fixed_4 (n : Nat) (hn : n < 10 ^ 4) (w : World) : Calls Tryd.prog 65 #[.int .i64 n, .int .i64 4] w fun e w' => e = .returned (.string (fixS 4 n)) ∧ Below w.heap.size w w' := by
  have hmk := mk_4 w
  have HR0 := Lib.hid (row_4 w)
  have hnn : n < 10000 := hn
  have k3 : ¬ ((n : Int) < 0) := by omega
  have hbk : ∀ (wr : World) (l : List UInt8), l.length = 4 → LRow wr w.heap.size l → (convert 46 9 (.slice (some ⟨w.heap.size, 0, none⟩) 4 4)).run Tryd.prog wr = .ok (.string (mk l)) wr := fun wr l hl h => conv_back wr w.heap.size 4 4 l hl h
  have HB := Lib.hid hbk
  clear hbk
  go_enter Tryd.func65, Tryd.ntmps65
  go_wp2_with fail
  go_loopw [0, 6] (fun t i wr => ∃ m : Nat, t = .int .i64 m ∧ m < 10000 ∧ Below w.heap.size w wr ∧
    ((∃ j : Nat, j < 4 ∧ i = .int .i64 j ∧ Hid (m = n / 10 ^ (4 - 1 - j)) ∧ Hid (LRow wr w.heap.size (List.replicate (j + 1) 0 ++ fixL (4 - 1 - j) n))) ∨
    (i = .int .i64 (-1) ∧ Hid (m = n / 10 ^ 4) ∧ Hid (LRow wr w.heap.size (fixL 4 n))))) (fun _ i _ => (intOf i + 1).toNat)
  case atStart => exact ⟨n, rfl, hnn, (Below.refl _ _).alloc (Nat.le_refl _) _, .inl ⟨3, by decide, rfl, Lib.hid (by simp), Lib.hid (by have := HR0.out; simpa [fixL] using this)⟩⟩
  case round =>
    clear hmk HR0
    obtain ⟨m, rfl, hm, hb, (⟨j, hj, rfl, HM, HA⟩ | ⟨rfl, HM, HA⟩)⟩ := hrel
    · have hl2 : j < (List.replicate (j + 1) (0 : UInt8) ++ fixL (4 - 1 - j) n).length := by rw [List.length_append, List.length_replicate]; omega
      obtain ⟨hx, hf⟩ := HA.out j hl2
      have hx2 : (List.replicate (j + 1) (0 : UInt8) ++ fixL (4 - 1 - j) n)[j]'hl2 = 0 := by
        rw [List.getElem_append_left (by simp), List.getElem_replicate]
      rw [hx2] at hx
      have hj2 : (j : Int) < 4 := by omega
      have HS := Lib.hid (HA.out.set j hl2 (UInt8.ofNat (48 + m % 10)))
      have HE := Lib.hid (show (List.replicate (j + 1) (0 : UInt8) ++ fixL (4 - 1 - j) n).set j (UInt8.ofNat (48 + m % 10)) = List.replicate j 0 ++ fixL (4 - 1 - j + 1) n by
        rw [rep_set, fixL_cons, ← HM.out])
      have HD := Lib.hid (show (((UInt8.ofNat (48 + m % 10)).toNat : Nat) : Int) = 48 + (m : Int) % 10 by rw [dig_of]; omega)
      have HN := Lib.hid (show m / 10 = n / 10 ^ (4 - 1 - j + 1) by rw [HM.out, Nat.div_div_eq_div_mul, Nat.pow_succ])
      have HC := Lib.hid (show (m : Int) / 10 = ((m / 10 : Nat) : Int) by omega)
      clear hl2 hx2
      go_wp2_with fail
      go_roundw
      case rel =>
        refine ⟨m / 10, by rw [HC.out], by omega, hb.setCell (Nat.le_refl _) _, ?_⟩
        have h9 := HS.out
        rw [HD.out, HE.out] at h9
        by_cases hj0 : j = 0
        · subst hj0
          exact .inr ⟨rfl, Lib.hid HN.out, Lib.hid h9⟩
        · obtain ⟨i, rfl⟩ : ∃ i, j = i + 1 := ⟨j - 1, by omega⟩
          refine .inl ⟨i, by omega, by congr 1 <;> omega, Lib.hid ?_, Lib.hid ?_⟩
          · rw [HN.out, show 4 - 1 - (i + 1) + 1 = 4 - 1 - i by omega]
          · rw [show 4 - 1 - i = 4 - 1 - (i + 1) + 1 by omega]; exact h9
      case measure => simp [intOf]
    · have hm0 : m = 0 := by rw [HM.out]; exact Nat.div_eq_of_lt hn
      subst hm0
      have hbk := HB.out wr (fixL 4 n) (fixL_len _ _) HA.out
      have HF := Lib.hid (show mk (fixL 4 n) = fixS 4 n from rfl)
      rw [HF.out] at hbk
      go_wp2_with fail
      go_ret
      exact ⟨rfl, hb⟩
end Go.Proofs.YtngamlikhgilhaaDoor
