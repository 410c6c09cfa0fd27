/- Addresses: where a part ends. -/
import Derived.Test.YtnjmhkehckhihaaDoorPathB
namespace Go.Proofs.YtnjmhkehckhihaaDoor
open Go.RowKit

def askB (c : Int) : Bool := c == 63 || c == 35
def stopB (c : Int) : Bool := c == 47 || askB c
theorem stop_yes {c : Int} (h : (c == 47) = true) : stopB c = true := by unfold stopB; rw [h]; rfl
theorem stop_no {c : Int} (h : (c == 47) = false) : stopB c = askB c := by unfold stopB; rw [h]; rfl
theorem ask_yes {c : Int} (h : (c == 63) = true) : askB c = true := by unfold askB; rw [h]; rfl
theorem ask_no {c : Int} (h : (c == 63) = false) : askB c = (c == 35) := by unfold askB; rw [h]; rfl
theorem asks_any (c : Int) (w : World) : Calls Tryd.prog 27 #[.int .u8 c] w fun e w' => e = .returned (.bool (askB c)) ∧ w = w' := by
  cases h : (c == 63)
  · cases h2 : (c == 35)
    all_goals
      have HV := Lib.hid (ask_no h)
      go_enter Tryd.func27, Tryd.ntmps27
      go_wp2_with fail
      go_ret
      exact ⟨ret_bool (HV.out.trans h2).symm, rfl⟩
  · have HV := Lib.hid (ask_yes h)
    go_enter Tryd.func27, Tryd.ntmps27
    go_wp2_with fail
    go_ret
    exact ⟨ret_bool HV.out.symm, rfl⟩
theorem rasks_any (c : Int) (w : World) : Calls Tryd.prog 30 #[.int .u8 c] w fun e w' => e = .returned (.bool (askB c)) ∧ w = w' := by
  cases h : (c == 63)
  · cases h2 : (c == 35)
    all_goals
      have HV := Lib.hid (ask_no h)
      go_enter Tryd.func30, Tryd.ntmps30
      go_wp2_with fail
      go_ret
      exact ⟨ret_bool (HV.out.trans h2).symm, rfl⟩
  · have HV := Lib.hid (ask_yes h)
    go_enter Tryd.func30, Tryd.ntmps30
    go_wp2_with fail
    go_ret
    exact ⟨ret_bool HV.out.symm, rfl⟩
theorem stop_any (c : Int) (w : World) : Calls Tryd.prog 26 #[.int .u8 c] w fun e w' => e = .returned (.bool (stopB c)) ∧ w = w' := by
  cases h : (c == 47)
  · have HV := Lib.hid (stop_no h)
    go_enter Tryd.func26, Tryd.ntmps26
    go_wp2_with fail
    refine (asks_any c _).mono ?_
    rintro e w1 ⟨rfl, rfl⟩
    go_wp2_with fail
    go_ret
    exact ⟨ret_bool HV.out.symm, rfl⟩
  · have HV := Lib.hid (stop_yes h)
    go_enter Tryd.func26, Tryd.ntmps26
    go_wp2_with fail
    go_ret
    exact ⟨ret_bool HV.out.symm, rfl⟩

/-- Where the first of some bytes stands; else the text's length. -/
def pos (p : Int → Bool) (s : ByteArray) : Nat := (bs s).findIdx fun c => p (c.toNat : Int)
theorem pos_le (p : Int → Bool) (s : ByteArray) : pos p s ≤ s.size := by rw [size_bs]; exact List.findIdx_le_length
theorem at_getE (s : ByteArray) (k : Nat) (h : k < (bs s).length) : at_ s k = ((bs s)[k].toNat : Int) := by
  have h2 : k < s.size := by rw [size_bs]; exact h
  rw [← at_get s k h2, get_bs]
theorem pos_at (p : Int → Bool) (s : ByteArray) (h : pos p s < s.size) : p (at_ s (pos p s)) = true := by
  have h2 : pos p s < (bs s).length := by rw [← size_bs]; exact h
  rw [at_getE s _ h2]
  exact List.findIdx_getElem (p := fun c : UInt8 => p (c.toNat : Int)) (w := h2)
theorem pos_before (p : Int → Bool) (s : ByteArray) (k : Nat) (h : k < pos p s) : p (at_ s k) = false := by
  have h1 := pos_le p s
  have h2 : k < (bs s).length := by rw [← size_bs]; omega
  rw [at_getE s _ h2]
  have := List.not_of_lt_findIdx (p := fun c : UInt8 => p (c.toNat : Int)) h
  simpa using this
theorem take_all (s : ByteArray) : s.extract 0 s.size = s := by
  apply bs_inj
  rw [bs_extract, List.drop_zero, List.take_of_length_le (by rw [← size_bs]; exact Nat.le_refl _)]
theorem drop_all (s : ByteArray) : s.extract s.size s.size = ByteArray.empty := by
  apply bs_inj
  rw [bs_extract, List.drop_of_length_le (by rw [List.length_take, ← size_bs]; omega)]
  rfl
def UPost (p : Int → Bool) (s : ByteArray) (w : World) (e : Ending) (w' : World) : Prop := e = .returned (.tuple #[.string (s.extract 0 (pos p s)), .string (s.extract (pos p s) s.size)]) ∧ ∃ n, w' = w.drewN n
set_option maxRecDepth 100000 in
theorem until_stop (s : ByteArray) (w : World) (hs : s.size ≤ 9223372036854775807) : Calls Tryd.prog 25 #[.string s, .func (.func 26) #[] #[]] w (UPost stopB s w) := by
  have hle := pos_le stopB s
  have HP := Lib.hid (pos_at stopB s)
  have HB := Lib.hid (pos_before stopB s)
  have HE := Lib.hid (show pos stopB s = s.size → UPost stopB s w (.returned (.tuple #[.string s, .string ByteArray.empty])) w from fun h => by
    refine ⟨?_, 0, rfl⟩
    rw [h, take_all, drop_all])
  have HR := Lib.hid (show ∀ n, UPost stopB s w (.returned (.tuple #[.string (s.extract 0 (pos stopB s)), .string (s.extract (pos stopB s) s.size)])) (w.drewN n) from fun n => ⟨rfl, n, rfl⟩)
  generalize pos stopB s = m at hle HP HB HE HR
  go_enter Tryd.func25, Tryd.ntmps25
  go_wp2_with fail
  go_loop [9] (fun i => ∃ k : Nat, k ≤ m ∧ i = .int .i64 k) (fun i => s.size - (intOf i).toNat)
  case atStart => exact ⟨0, Nat.zero_le _, rfl⟩
  case round =>
    obtain ⟨k, hk, rfl⟩ := hrel
    by_cases hlt : k < s.size
    · have HX := Lib.hid (at_get s k hlt)
      by_cases hm : k < m
      · have hb := HB.out k hm
        go_wp2_with (go_at_call 26; refine (stop_any _ _).mono ?_; rintro e w' ⟨rfl, rfl⟩; rw [HX.out])
        go_round
        case rel => exact ⟨k + 1, by omega, by go_num⟩
        case measure => simp [intOf]; omega
      · have hkm : k = m := by omega
        have hb : stopB (at_ s k) = true := by rw [hkm]; exact HP.out (by omega)
        have HR' := Lib.hid (hkm ▸ HR.out)
        clear hm hkm
        go_wp2_with (go_at_call 26; refine (stop_any _ _).mono ?_; rintro e w' ⟨rfl, rfl⟩; rw [HX.out])
        go_quiet (fail)
        go_wp2_with fail
        go_ret2
        exact HR'.out _
    · have HE' := Lib.hid (HE.out (by omega))
      go_wp2_with fail
      go_ret2
      exact HE'.out
set_option maxRecDepth 100000 in
theorem until_ask (s : ByteArray) (w : World) (hs : s.size ≤ 9223372036854775807) : Calls Tryd.prog 25 #[.string s, .func (.func 27) #[] #[]] w (UPost askB s w) := by
  have hle := pos_le askB s
  have HP := Lib.hid (pos_at askB s)
  have HB := Lib.hid (pos_before askB s)
  have HE := Lib.hid (show pos askB s = s.size → UPost askB s w (.returned (.tuple #[.string s, .string ByteArray.empty])) w from fun h => by
    refine ⟨?_, 0, rfl⟩
    rw [h, take_all, drop_all])
  have HR := Lib.hid (show ∀ n, UPost askB s w (.returned (.tuple #[.string (s.extract 0 (pos askB s)), .string (s.extract (pos askB s) s.size)])) (w.drewN n) from fun n => ⟨rfl, n, rfl⟩)
  generalize pos askB s = m at hle HP HB HE HR
  go_enter Tryd.func25, Tryd.ntmps25
  go_wp2_with fail
  go_loop [9] (fun i => ∃ k : Nat, k ≤ m ∧ i = .int .i64 k) (fun i => s.size - (intOf i).toNat)
  case atStart => exact ⟨0, Nat.zero_le _, rfl⟩
  case round =>
    obtain ⟨k, hk, rfl⟩ := hrel
    by_cases hlt : k < s.size
    · have HX := Lib.hid (at_get s k hlt)
      by_cases hm : k < m
      · have hb := HB.out k hm
        go_wp2_with (go_at_call 27; refine (asks_any _ _).mono ?_; rintro e w' ⟨rfl, rfl⟩; rw [HX.out])
        go_round
        case rel => exact ⟨k + 1, by omega, by go_num⟩
        case measure => simp [intOf]; omega
      · have hkm : k = m := by omega
        have hb : askB (at_ s k) = true := by rw [hkm]; exact HP.out (by omega)
        have HR' := Lib.hid (hkm ▸ HR.out)
        clear hm hkm
        go_wp2_with (go_at_call 27; refine (asks_any _ _).mono ?_; rintro e w' ⟨rfl, rfl⟩; rw [HX.out])
        go_quiet (fail)
        go_wp2_with fail
        go_ret2
        exact HR'.out _
    · have HE' := Lib.hid (HE.out (by omega))
      go_wp2_with fail
      go_ret2
      exact HE'.out
end Go.Proofs.YtnjmhkehckhihaaDoor
