/- Contracts: the reference's digits of a number. -/
import Derived.Test.YtfbildneagjccaaDecN
import Derived.Test.YtfbildneagjccaaDec
namespace Go.Proofs.Ytfbildneagjccaa
open Go.RowKit

theorem conv_one (W : World) (N : Nat) (c : Nat) (hc : c < 256) (h : W.cell? ⟨N, 0, none⟩ = some (.int .u8 (c : Int))) : (convert 30 9 (.slice (some ⟨N, 0, none⟩) 1 1)).run Try.prog W = .ok (.string (mk [UInt8.ofNat c])) W := by
  refine run_convert_bytes_back W 30 9 5 ⟨N, 0, none⟩ 1 [UInt8.ofNat c] Try.underlying30 Try.underlying5 Try.underlying9 (fun j hj => ?_)
  have : j = 0 := by simp at hj; omega
  subst this
  rw [Go.WideShapes.add_plain, Nat.zero_add, h]
  simp only [List.getElem_cons_zero]
  rw [UInt8.toNat_ofNat', Nat.mod_eq_of_lt hc]
theorem conv_dig (wr : World) (m : Nat) (D : Int) (hD : D = 48 + (m : Int)) (hm : m < 10) : (convert 30 9 (.slice (some ⟨wr.heap.size, 0, none⟩) 1 1)).run Try.prog (wr.alloc (.cells #[.int .u8 D] 5)) =
    .ok (.string (mk [UInt8.ofNat (48 + m)])) (wr.alloc (.cells #[.int .u8 D] 5)) := by
  subst hD
  have e : (48 + (m : Int)) = ((48 + m : Nat) : Int) := by omega
  rw [e]
  exact conv_one _ _ _ (by omega) (by rw [World.cell?_alloc_new]; rfl)
set_option maxHeartbeats 1000000 in
set_option maxRecDepth 100000 in
theorem rdigits_any (n : Nat) (hn : n < 1000000000000000000) (w : World) : Calls Try.prog 65 #[.int .u64 n] w fun e w' => e = .returned (.string (prtS n)) ∧ Below w.heap.size w w' := by
  go_enter Try.func65, Try.ntmps65
  go_wp2_with fail
  go_loopw [0, 3] (fun t o wr => ∃ (m : Nat) (s : ByteArray), m ≤ n ∧ t = .int .u64 m ∧ o = .string s ∧ Hid (digL n = digL m ++ bs s) ∧ s.size ≤ n - m ∧ Below w.heap.size w wr) (fun t _ _ => (intOf t).toNat)
  case atStart => exact ⟨n, ⟨#[]⟩, Nat.le_refl _, rfl, rfl, Lib.hid (by simp [bs]), by show 0 ≤ _; omega, Below.refl _ _⟩
  case round =>
    obtain ⟨m, s, hm, rfl, rfl, HE, hz, hb⟩ := hrel
    by_cases h : 10 ≤ m
    · have hcv := conv_dig wr (m % 10) (48 + (m : Int) % 10) (by omega) (by omega)
      have HX := Lib.hid (show digL n = digL (m / 10) ++ bs (mk [UInt8.ofNat (48 + m % 10)] ++ s) by rw [HE.out, digL_ge h, bs_append, List.append_assoc]; rfl)
      have h1 : (mk [UInt8.ofNat (48 + m % 10)]).size = 1 := rfl
      have hz2 : (mk [UInt8.ofNat (48 + m % 10)] ++ s).size ≤ n - m / 10 := by rw [ByteArray.size_append, h1]; omega
      have HZ := Lib.hid hz2
      generalize mk [UInt8.ofNat (48 + m % 10)] = X at hcv HX h1 HZ
      have k1 : ¬ (9223372036854775807 < X.size + s.size) := by rw [h1]; omega
      clear h1 hz2
      have hd : (m : Int) / 10 = ((m / 10 : Nat) : Int) := by omega
      have HD := Lib.hid hd
      clear hd
      go_wp2_with fail
      go_roundw
      case rel => exact ⟨m / 10, X ++ s, by omega, by first | rfl | rw [HD.out], rfl, HX, HZ.out, hb.alloc hb.size _⟩
      case measure => simp [intOf]; omega
    · have hcv := conv_dig wr m (48 + (m : Int)) rfl (by omega)
      have HX := Lib.hid (show mk [UInt8.ofNat (48 + m)] ++ s = prtS n by
        apply bs_inj
        unfold prtS
        rw [bs_mk, HE.out, digL_lt (by omega), bs_append]
        rfl)
      have h1 : (mk [UInt8.ofNat (48 + m)]).size = 1 := rfl
      generalize mk [UInt8.ofNat (48 + m)] = X at hcv HX h1
      have k1 : ¬ (9223372036854775807 < X.size + s.size) := by rw [h1]; omega
      clear h1
      go_wp2_with fail
      go_ret
      exact ⟨by rw [HX.out]; rfl, hb.alloc hb.size _⟩
set_option maxRecDepth 100000 in
theorem rprint_pos (n : Nat) (hn : n < 1000000000000000000) (w : World) : Calls Try.prog 56 #[.int .i64 n] w fun e w' => e = .returned (.string (prtS n)) ∧ Below w.heap.size w w' := by
  have k0 : ¬ ((n : Int) < 0) := by omega
  have k1 : IntKind.u64.wrap (n : Int) = n := by rw [IntKind.wrap_u64]; omega
  go_enter Try.func56, Try.ntmps56
  go_wp2_with fail
  refine (rdigits_any n hn _).mono ?_
  rintro e w1 ⟨rfl, hb⟩
  go_wp2_with fail
  go_ret
  exact ⟨rfl, hb⟩
set_option maxHeartbeats 1000000 in
set_option maxRecDepth 100000 in
theorem rfixed_any (n wd : Nat) (h0 : 1 ≤ wd) (h1 : wd ≤ 18) (hn : n < 10 ^ wd) (w : World) : Calls Try.prog 41 #[.int .i64 n, .int .i64 wd] w fun e w' => e = .returned (.string (fixS wd n)) ∧ Below w.heap.size w w' := by
  have hn2 : n < 1000000000000000000 := by
    have h2 : (10 : Nat) ^ 18 = 1000000000000000000 := by decide
    have h3 := Nat.pow_le_pow_right (by decide : 0 < 10) h1
    omega
  have hl := digL_len wd n h0 hn
  have HF := Lib.hid (fixS_pad wd n hl)
  have HS := Lib.hid (prt_size n)
  have HPD := Lib.hid padS_succ
  have HPZ := Lib.hid padS_size
  have HP0 := Lib.hid (padS_zero (prtS n))
  have hz : (prtS n).size ≤ wd := by rw [prt_size]; exact hl
  have k1 : ¬ ((wd : Int) < 1) := by omega
  have k2 : ¬ (18 < (wd : Int)) := by omega
  have k3 : ¬ ((n : Int) < 0) := by omega
  have k4 : ¬ (wd < (prtS n).size) := by omega
  clear hn hl
  go_enter Try.func41, Try.ntmps41
  go_wp2_with fail
  refine (rprint_pos n hn2 _).mono ?_
  rintro e w1 ⟨rfl, hb⟩
  go_wp2_with fail
  go_loop [5] (fun o => ∃ k : Nat, k + (prtS n).size ≤ wd ∧ o = .string (padS k (prtS n))) (fun o => wd - (match o with | .string s => s.size | _ => 0))
  case atStart => exact ⟨0, by omega, by rw [HP0.out]⟩
  case round =>
    obtain ⟨k, hk, rfl⟩ := hrel
    have hzz := HPZ.out k (prtS n)
    have HZ := Lib.hid hzz
    have HX := Lib.hid (HPD.out k (prtS n))
    have HZ1 := Lib.hid (HPZ.out (k + 1) (prtS n))
    have HFk := Lib.hid (show k + (prtS n).size = wd → padS k (prtS n) = fixS wd n from fun h => by rw [HF.out, ← HS.out]; congr 1; omega)
    generalize padS k (prtS n) = X at *
    clear hzz
    by_cases h : k + (prtS n).size < wd
    · have k5 : X.size < wd := by rw [HZ.out]; exact h
      have k6 : ¬ (9223372036854775807 < 1 + X.size) := by omega
      go_wp2_with fail
      go_round
      case rel => exact ⟨k + 1, by omega, by rw [HX.out]⟩
      case measure =>
        show wd - (({ data := #[48] } : ByteArray) ++ X).size < wd - X.size
        rw [ByteArray.size_append, show ({ data := #[48] } : ByteArray).size = 1 from rfl]
        omega
    · have k5 : ¬ X.size < wd := by rw [HZ.out]; exact h
      have HV := Lib.hid (HFk.out (by omega))
      go_wp2_with fail
      go_ret
      exact ⟨by rw [HV.out]; rfl, hb⟩
end Go.Proofs.Ytfbildneagjccaa
