/- Contracts: the reference's digits of a number. -/
import Derived.Test.YtngamlikhgilhaaDoorDecN
import Derived.Test.YtngamlikhgilhaaDoorDec
namespace Go.Proofs.YtngamlikhgilhaaDoor
open Go.RowKit

theorem conv_one (W : World) (N : Nat) (c : Nat) (hc : c < 256) (h : W.cell? ⟨N, 0, none⟩ = some (.int .u8 (c : Int))) : (convert 46 9 (.slice (some ⟨N, 0, none⟩) 1 1)).run Tryd.prog W = .ok (.string (mk [UInt8.ofNat c])) W := by
  refine run_convert_bytes_back W 46 9 5 ⟨N, 0, none⟩ 1 [UInt8.ofNat c] Tryd.underlying46 Tryd.underlying5 Tryd.underlying9 (fun j hj => ?_)
  have : j = 0 := by simp at hj; omega
  subst this
  rw [Go.WideShapes.add_plain, Nat.zero_add, h]
  simp only [List.getElem_cons_zero]
  rw [UInt8.toNat_ofNat', Nat.mod_eq_of_lt hc]
theorem conv_dig (wr : World) (m : Nat) (D : Int) (hD : D = 48 + (m : Int)) (hm : m < 10) : (convert 46 9 (.slice (some ⟨wr.heap.size, 0, none⟩) 1 1)).run Tryd.prog (wr.alloc (.cells #[.int .u8 D] 5)) =
    .ok (.string (mk [UInt8.ofNat (48 + m)])) (wr.alloc (.cells #[.int .u8 D] 5)) := by
  subst hD
  have e : (48 + (m : Int)) = ((48 + m : Nat) : Int) := by omega
  rw [e]
  exact conv_one _ _ _ (by omega) (by rw [World.cell?_alloc_new]; rfl)
set_option maxHeartbeats 1000000 in
set_option maxRecDepth 100000 in
theorem rdigits_any (n : Nat) (hn : n < 1000000000000000000) (w : World) : Calls Tryd.prog 20 #[.int .u64 n] w fun e w' => e = .returned (.string (prtS n)) ∧ Below w.heap.size w w' := by
  go_enter Tryd.func20, Tryd.ntmps20
  go_wp2_with fail
  go_loopw [0, 3] (fun t o wr => ∃ (m : Nat) (s : ByteArray), m ≤ n ∧ t = .int .u64 m ∧ o = .string s ∧ Hid (digL n = digL m ++ bs s) ∧ s.size ≤ n - m ∧ Below w.heap.size w wr) (fun t _ _ => (intOf t).toNat)
  case atStart => exact ⟨n, ⟨#[]⟩, Nat.le_refl _, rfl, rfl, Lib.hid (by simp [bs]), by show 0 ≤ _; omega, Below.refl _ _⟩
  case round =>
    obtain ⟨m, s, hm, rfl, rfl, HE, hz, hb⟩ := hrel
    by_cases h : 10 ≤ m
    · have hcv := conv_dig wr (m % 10) (48 + (m : Int) % 10) (by omega) (by omega)
      have HX := Lib.hid (show digL n = digL (m / 10) ++ bs (mk [UInt8.ofNat (48 + m % 10)] ++ s) by rw [HE.out, digL_ge h, bs_append, List.append_assoc]; rfl)
      have h1 : (mk [UInt8.ofNat (48 + m % 10)]).size = 1 := rfl
      have hz2 : (mk [UInt8.ofNat (48 + m % 10)] ++ s).size ≤ n - m / 10 := by rw [ByteArray.size_append, h1]; omega
      have HZ := Lib.hid hz2
      generalize mk [UInt8.ofNat (48 + m % 10)] = X at hcv HX h1 HZ
      have k1 : ¬ (9223372036854775807 < X.size + s.size) := by rw [h1]; omega
      clear h1 hz2
      have hd : (m : Int) / 10 = ((m / 10 : Nat) : Int) := by omega
      have HD := Lib.hid hd
      clear hd
      go_wp2_with fail
      go_roundw
      case rel => exact ⟨m / 10, X ++ s, by omega, by first | rfl | rw [HD.out], rfl, HX, HZ.out, hb.alloc hb.size _⟩
      case measure => simp [intOf]; omega
    · have hcv := conv_dig wr m (48 + (m : Int)) rfl (by omega)
      have HX := Lib.hid (show mk [UInt8.ofNat (48 + m)] ++ s = prtS n by
        apply bs_inj
        unfold prtS
        rw [bs_mk, HE.out, digL_lt (by omega), bs_append]
        rfl)
      have h1 : (mk [UInt8.ofNat (48 + m)]).size = 1 := rfl
      generalize mk [UInt8.ofNat (48 + m)] = X at hcv HX h1
      have k1 : ¬ (9223372036854775807 < X.size + s.size) := by rw [h1]; omega
      clear h1
      go_wp2_with fail
      go_ret
      exact ⟨by rw [HX.out]; rfl, hb.alloc hb.size _⟩
set_option maxRecDepth 100000 in
theorem rprint_pos (n : Nat) (hn : n < 1000000000000000000) (w : World) : Calls Tryd.prog 8 #[.int .i64 n] w fun e w' => e = .returned (.string (prtS n)) ∧ Below w.heap.size w w' := by
  have k0 : ¬ ((n : Int) < 0) := by omega
  have k1 : IntKind.u64.wrap (n : Int) = n := by rw [IntKind.wrap_u64]; omega
  go_enter Tryd.func8, Tryd.ntmps8
  go_wp2_with fail
  refine (rdigits_any n hn _).mono ?_
  rintro e w1 ⟨rfl, hb⟩
  go_wp2_with fail
  go_ret
  exact ⟨rfl, hb⟩
end Go.Proofs.YtngamlikhgilhaaDoor
